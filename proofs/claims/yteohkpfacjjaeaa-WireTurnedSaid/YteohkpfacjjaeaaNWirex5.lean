/- Functions told by the kit's print as plain Lean functions, and that the code comes to what they tell; set right by fixprint.py where the printed text fell. -/
/- Functions told by our printer (out of the kit's) as plain Lean functions, and that the code comes to what they tell: no statement of the set is proved in this text. -/
import Derived.Test.YteohkpfacjjaeaaMWirex0
import Derived.Test.YteohkpfacjjaeaaNWirex1
import Derived.Test.YteohkpfacjjaeaaNWirex2
namespace Go.Proofs.Yteohkpfacjjaeaa.MWire
open Go.RowKit Go.Proofs.YteohkpfacjjaeaaW.PrintWords Go.Proofs.YteohkpfacjjaeaaW.PrintLast Go.Proofs.YteohkpfacjjaeaaW.PrintMore
attribute [local go_sem] max2_int min2_int max_two min_two max_three min_three max_four min_four   -- for this text's walks alone
set_option linter.unusedVariables false
set_option linter.unusedSimpArgs false

/-! ### bezantlaw01_WireTurned: function 8 -/
mutual
def bezantlaw01_WireTurned.j0 : Nat → List Int → Int → Bool → Int → Bool → Int → List Int → List Int → Bool → Option (Bool)
  | 0, _, _, _, _, _, _, _, _, _ => none
  | k + 1, x0, x1, x3, x4, x11, x12, x13, x14, x50 => if x50 = true then (none) else (bezantlaw01_WireTurned.l0 k x0 x1 x3 x4 x11 x12 x13 x14 0)
def bezantlaw01_WireTurned.l0 : Nat → List Int → Int → Bool → Int → Bool → Int → List Int → List Int → Int → Option (Bool)
  | 0, _, _, _, _, _, _, _, _, _ => none
  | k + 1, x0, x1, x3, x4, x11, x12, x13, x14, x15 => if x15 < x12 then (if 0 ≤ x15 then (if x15 < (x13.length : Int) then (if 0 ≤ (wrap64 ((wrap64 (x12 - 1)) - x15)) then (if (wrap64 ((wrap64 (x12 - 1)) - x15)) < (x14.length : Int) then (if (rd x13 x15) = (rd x14 (wrap64 ((wrap64 (x12 - 1)) - x15))) then (bezantlaw01_WireTurned.l0 k x0 x1 x3 x4 x11 x12 x13 x14 (wrap64 (x15 + 1))) else (none)) else (none)) else (none)) else (none)) else (none)) else ((some (([] : List Int) : List Int)).bind fun y172 => (if y172.length + x0.length < 140737488355328 then ((some (y172 ++ x0 : List Int)).bind fun y175 => (if y175.length + x13.length < 140737488355328 then ((wire_Get.f k (y175 ++ x13) (IntKind.u64.wrap ((x0.length : Int))) x12 x3).bind fun bt181 => (if bt181.2 = true then ((wire_Fits.f x1 x12).bind fun t183 => (bezantlaw01_WireTurned.j2 k x0 x3 x4 x11 x12 ((bt181.1 == x1) != t183))) else (bezantlaw01_WireTurned.j2 k x0 x3 x4 x11 x12 true))) else (none))) else (none)))
def bezantlaw01_WireTurned.j2 : Nat → List Int → Bool → Int → Bool → Int → Bool → Option (Bool)
  | 0, _, _, _, _, _, _ => none
  | k + 1, x0, x3, x4, x11, x12, x92 => if x92 = true then (none) else ((wire_Get.f k x0 x4 x12 x3).bind fun bt184 => ((wire_Within.f x4 (IntKind.u64.wrap (x12)) (IntKind.u64.wrap ((x0.length : Int)))).bind fun t186 => (if (bt184.2 != t186) = true then (none) else (if bt184.2 = true then (if x11 = true then ((wire_Put.f k bt184.1 x12 x3).bind fun t187 => (if 0 ≤ (wrap64 (x4)) then (if (wrap64 (x4)) ≤ (wrap64 ((wrap64 (x4)) + x12)) then (if (wrap64 ((wrap64 (x4)) + x12)) ≤ (x0.length : Int) then (some ((strOfNums t187).toList == (strOfNums ((x0.take ((wrap64 ((wrap64 (x4)) + x12)) : Int).toNat).drop ((wrap64 (x4)) : Int).toNat)).toList)) else (none)) else (none)) else (none))) else (none)) else (if x11 = true then (some (bt184.1 == 0)) else (none))))))
end
def bezantlaw01_WireTurned.f (k : Nat) (l0 : List Int) (a1 : Int) (a2 : Int) (a3 : Bool) (a4 : Int) : Option (Bool) := (bezantlaw01_up.f k).bind fun t159 => (if (l0.length : Int) > 1000 then (some t159) else ((some (([1, 2, 4, 8] : List Int) : List Int)).bind fun y160 => (if 0 ≤ (Int.tmod (wrap64 ((Int.tmod a2 4) + 4)) 4) then (if (Int.tmod (wrap64 ((Int.tmod a2 4) + 4)) 4) < (y160.length : Int) then ((wire_Put.f k a1 (rd y160 (Int.tmod (wrap64 ((Int.tmod a2 4) + 4)) 4)) a3).bind fun t164 => ((wire_Put.f k a1 (rd y160 (Int.tmod (wrap64 ((Int.tmod a2 4) + 4)) 4)) (!a3)).bind fun t167 => (if (t164.length : Int) = (rd y160 (Int.tmod (wrap64 ((Int.tmod a2 4) + 4)) 4)) then (bezantlaw01_WireTurned.j0 k l0 a1 a3 a4 t159 (rd y160 (Int.tmod (wrap64 ((Int.tmod a2 4) + 4)) 4)) t164 t167 ((t167.length : Int) != (rd y160 (Int.tmod (wrap64 ((Int.tmod a2 4) + 4)) 4)))) else (bezantlaw01_WireTurned.j0 k l0 a1 a3 a4 t159 (rd y160 (Int.tmod (wrap64 ((Int.tmod a2 4) + 4)) 4)) t164 t167 true)))) else (none)) else (none))))
theorem bezantlaw01_WireTurned.mono_l : ∀ k, (∀ y0 y1 y2 y3 y4 y5 y6 y7 y8, LeO (bezantlaw01_WireTurned.j0 k y0 y1 y2 y3 y4 y5 y6 y7 y8) (bezantlaw01_WireTurned.j0 (k + 1) y0 y1 y2 y3 y4 y5 y6 y7 y8)) ∧ (∀ y0 y1 y2 y3 y4 y5 y6 y7 y8, LeO (bezantlaw01_WireTurned.l0 k y0 y1 y2 y3 y4 y5 y6 y7 y8) (bezantlaw01_WireTurned.l0 (k + 1) y0 y1 y2 y3 y4 y5 y6 y7 y8)) ∧ (∀ y0 y1 y2 y3 y4 y5, LeO (bezantlaw01_WireTurned.j2 k y0 y1 y2 y3 y4 y5) (bezantlaw01_WireTurned.j2 (k + 1) y0 y1 y2 y3 y4 y5))
  | 0 => ⟨fun _ _ _ _ _ _ _ _ _ r h => by simp [bezantlaw01_WireTurned.j0] at h, fun _ _ _ _ _ _ _ _ _ r h => by simp [bezantlaw01_WireTurned.l0] at h, fun _ _ _ _ _ _ r h => by simp [bezantlaw01_WireTurned.j2] at h⟩
  | k + 1 => by
    obtain ⟨ih0, ih1, ih2⟩ := bezantlaw01_WireTurned.mono_l k
    refine ⟨?_, ?_, ?_⟩
    · intro y0 y1 y2 y3 y4 y5 y6 y7 y8
      unfold bezantlaw01_WireTurned.j0
      repeat' first
      | (with_reducible exact ih0 _ _ _ _ _ _ _ _ _)
      | (with_reducible exact ih1 _ _ _ _ _ _ _ _ _)
      | (with_reducible exact ih2 _ _ _ _ _ _)
      | (with_reducible exact bezantlaw01_up.mono _)
      | (with_reducible exact wire_Get.mono _ _ _ _ _)
      | (with_reducible exact wire_Put.mono _ _ _ _)
      | (with_reducible exact LeO.refl _)
      | (with_reducible exact LeO.none _)
      | (with_reducible refine LeO.ite ?_ ?_)
      | (with_reducible refine LeO.bind ?_ (fun _ => ?_))
      | exact ih0 _ _ _ _ _ _ _ _ _
      | exact ih1 _ _ _ _ _ _ _ _ _
      | exact ih2 _ _ _ _ _ _
      | exact bezantlaw01_up.mono _
      | exact wire_Get.mono _ _ _ _ _
      | exact wire_Put.mono _ _ _ _
      | exact LeO.none _
      | refine LeO.ite ?_ ?_
      | refine LeO.bind ?_ (fun _ => ?_)
    · intro y0 y1 y2 y3 y4 y5 y6 y7 y8
      unfold bezantlaw01_WireTurned.l0
      repeat' first
      | (with_reducible exact ih0 _ _ _ _ _ _ _ _ _)
      | (with_reducible exact ih1 _ _ _ _ _ _ _ _ _)
      | (with_reducible exact ih2 _ _ _ _ _ _)
      | (with_reducible exact bezantlaw01_up.mono _)
      | (with_reducible exact wire_Get.mono _ _ _ _ _)
      | (with_reducible exact wire_Put.mono _ _ _ _)
      | (with_reducible exact LeO.refl _)
      | (with_reducible exact LeO.none _)
      | (with_reducible refine LeO.ite ?_ ?_)
      | (with_reducible refine LeO.bind ?_ (fun _ => ?_))
      | exact ih0 _ _ _ _ _ _ _ _ _
      | exact ih1 _ _ _ _ _ _ _ _ _
      | exact ih2 _ _ _ _ _ _
      | exact bezantlaw01_up.mono _
      | exact wire_Get.mono _ _ _ _ _
      | exact wire_Put.mono _ _ _ _
      | exact LeO.none _
      | refine LeO.ite ?_ ?_
      | refine LeO.bind ?_ (fun _ => ?_)
    · intro y0 y1 y2 y3 y4 y5
      unfold bezantlaw01_WireTurned.j2
      repeat' first
      | (with_reducible exact ih0 _ _ _ _ _ _ _ _ _)
      | (with_reducible exact ih1 _ _ _ _ _ _ _ _ _)
      | (with_reducible exact ih2 _ _ _ _ _ _)
      | (with_reducible exact bezantlaw01_up.mono _)
      | (with_reducible exact wire_Get.mono _ _ _ _ _)
      | (with_reducible exact wire_Put.mono _ _ _ _)
      | (with_reducible exact LeO.refl _)
      | (with_reducible exact LeO.none _)
      | (with_reducible refine LeO.ite ?_ ?_)
      | (with_reducible refine LeO.bind ?_ (fun _ => ?_))
      | exact ih0 _ _ _ _ _ _ _ _ _
      | exact ih1 _ _ _ _ _ _ _ _ _
      | exact ih2 _ _ _ _ _ _
      | exact bezantlaw01_up.mono _
      | exact wire_Get.mono _ _ _ _ _
      | exact wire_Put.mono _ _ _ _
      | exact LeO.none _
      | refine LeO.ite ?_ ?_
      | refine LeO.bind ?_ (fun _ => ?_)
theorem bezantlaw01_WireTurned.mono : ∀ a0 a1 a2 a3 a4 k, LeO (bezantlaw01_WireTurned.f k a0 a1 a2 a3 a4) (bezantlaw01_WireTurned.f (k + 1) a0 a1 a2 a3 a4) := by
  intro a0 a1 a2 a3 a4 k
  obtain ⟨ih0, ih1, ih2⟩ := bezantlaw01_WireTurned.mono_l k
  unfold bezantlaw01_WireTurned.f
  repeat' first
      | (with_reducible exact ih0 _ _ _ _ _ _ _ _ _)
      | (with_reducible exact ih1 _ _ _ _ _ _ _ _ _)
      | (with_reducible exact ih2 _ _ _ _ _ _)
      | (with_reducible exact bezantlaw01_up.mono _)
      | (with_reducible exact wire_Get.mono _ _ _ _ _)
      | (with_reducible exact wire_Put.mono _ _ _ _)
      | (with_reducible exact LeO.refl _)
      | (with_reducible exact LeO.none _)
      | (with_reducible refine LeO.ite ?_ ?_)
      | (with_reducible refine LeO.bind ?_ (fun _ => ?_))
      | exact ih0 _ _ _ _ _ _ _ _ _
      | exact ih1 _ _ _ _ _ _ _ _ _
      | exact ih2 _ _ _ _ _ _
      | exact bezantlaw01_up.mono _
      | exact wire_Get.mono _ _ _ _ _
      | exact wire_Put.mono _ _ _ _
      | exact LeO.none _
      | refine LeO.ite ?_ ?_
      | refine LeO.bind ?_ (fun _ => ?_)
def bezantlaw01_WireTurned.T12 : Bool × List (List Nat × List Nat) := (true, [([], []), ([], []), ([0, 1], [0, 1]), ([2], [2]), ([], []), ([], []), ([5], [5]), ([], []), ([6, 7], [6, 7]), ([4, 8], [4, 8]), ([9], [9]), ([3, 10], [3, 10])])
def bezantlaw01_WireTurned.B12 : List Nat := [0, 0, 3, 7, 0, 0, 32, 0, 224, 496, 1008, 2047]
theorem bezantlaw01_WireTurned.tab12 : rtab .any (opsOf Try.f8 12) = bezantlaw01_WireTurned.T12 := by kernel_rfl
theorem bezantlaw01_WireTurned.bits12 : waitsOk bezantlaw01_WireTurned.T12.2 bezantlaw01_WireTurned.B12 = true := by kernel_rfl
def bezantlaw01_WireTurned.T22 : Bool × List (List Nat × List Nat) := (true, [([], []), ([0], [0]), ([1], [1]), ([1], [1]), ([1], [1]), ([2, 3, 4, 1, 1], [1, 2, 3, 4]), ([5, 1], [1, 5]), ([1], [1]), ([1], [1]), ([8, 1], [1, 8]), ([1], [1]), ([10, 1], [1, 10]), ([1], [1]), ([11, 12, 1], [1, 11, 12]), ([7, 9, 13, 1], [1, 7, 9, 13]), ([14, 1], [1, 14]), ([6, 15, 1], [1, 6, 15]), ([1, 16], [1, 16]), ([17, 5, 0, 1, 2, 3, 4, 5, 6, 7, 8, 9, 10, 11, 12, 13, 14, 15, 16, 17], [17])])
def bezantlaw01_WireTurned.B22 : List Nat := [0, 1, 3, 3, 3, 31, 63, 3, 3, 259, 3, 1027, 3, 7171, 16259, 32643, 65535, 131071, 262143]
theorem bezantlaw01_WireTurned.tab22 : rtab .any (opsOf Try.f8 22) = bezantlaw01_WireTurned.T22 := by kernel_rfl
theorem bezantlaw01_WireTurned.bits22 : waitsOk bezantlaw01_WireTurned.T22.2 bezantlaw01_WireTurned.B22 = true := by kernel_rfl
set_option maxHeartbeats 8000000 in
set_option maxRecDepth 100000 in
theorem bezantlaw01_WireTurned.calls (k : Nat) (A0 : Option Addr) (c0 : Nat) (l0 : List Int) (a1 : Int) (a2 : Int) (a3 : Bool) (a4 : Int) (r : Bool) (w : World) (hr0 : Kd.C (Kd.int .u8) w A0 l0.length l0) (hc0 : l0.length ≤ c0) (h : bezantlaw01_WireTurned.f k l0 a1 a2 a3 a4 = some r) :
    Calls Try.prog 8 #[.slice A0 l0.length c0, .int .u64 a1, .int .i64 a2, .bool a3, .int .u64 a4] w fun e w' => e = .returned (.bool r) ∧ Below w.heap.size w w' := by
  have HR0 := Aside0.mk hr0
  have HC0 := Aside0.mk hc0
  clear hr0 hc0
  have HB := Aside0.mk (Below.refl w.heap.size w)
  have H : ((bezantlaw01_up.f k).bind fun t159 => (if (l0.length : Int) > 1000 then (some t159) else ((some (([1, 2, 4, 8] : List Int) : List Int)).bind fun y160 => (if 0 ≤ (Int.tmod (wrap64 ((Int.tmod a2 4) + 4)) 4) then (if (Int.tmod (wrap64 ((Int.tmod a2 4) + 4)) 4) < (y160.length : Int) then ((wire_Put.f k a1 (rd y160 (Int.tmod (wrap64 ((Int.tmod a2 4) + 4)) 4)) a3).bind fun t164 => ((wire_Put.f k a1 (rd y160 (Int.tmod (wrap64 ((Int.tmod a2 4) + 4)) 4)) (!a3)).bind fun t167 => (if (t164.length : Int) = (rd y160 (Int.tmod (wrap64 ((Int.tmod a2 4) + 4)) 4)) then (bezantlaw01_WireTurned.j0 k l0 a1 a3 a4 t159 (rd y160 (Int.tmod (wrap64 ((Int.tmod a2 4) + 4)) 4)) t164 t167 ((t167.length : Int) != (rd y160 (Int.tmod (wrap64 ((Int.tmod a2 4) + 4)) 4)))) else (bezantlaw01_WireTurned.j0 k l0 a1 a3 a4 t159 (rd y160 (Int.tmod (wrap64 ((Int.tmod a2 4) + 4)) 4)) t164 t167 true)))) else (none)) else (none))))) = some r := h
  clear h
  replace H := Option.bind_eq_some_iff.mp H
  obtain ⟨t159, A60, H⟩ := H
  replace H : (if (l0.length : Int) > 1000 then (some t159) else ((some (([1, 2, 4, 8] : List Int) : List Int)).bind fun y160 => (if 0 ≤ (Int.tmod (wrap64 ((Int.tmod a2 4) + 4)) 4) then (if (Int.tmod (wrap64 ((Int.tmod a2 4) + 4)) 4) < (y160.length : Int) then ((wire_Put.f k a1 (rd y160 (Int.tmod (wrap64 ((Int.tmod a2 4) + 4)) 4)) a3).bind fun t164 => ((wire_Put.f k a1 (rd y160 (Int.tmod (wrap64 ((Int.tmod a2 4) + 4)) 4)) (!a3)).bind fun t167 => (if (t164.length : Int) = (rd y160 (Int.tmod (wrap64 ((Int.tmod a2 4) + 4)) 4)) then (bezantlaw01_WireTurned.j0 k l0 a1 a3 a4 t159 (rd y160 (Int.tmod (wrap64 ((Int.tmod a2 4) + 4)) 4)) t164 t167 ((t167.length : Int) != (rd y160 (Int.tmod (wrap64 ((Int.tmod a2 4) + 4)) 4)))) else (bezantlaw01_WireTurned.j0 k l0 a1 a3 a4 t159 (rd y160 (Int.tmod (wrap64 ((Int.tmod a2 4) + 4)) 4)) t164 t167 true)))) else (none)) else (none)))) = some r := H
  have A6 := Aside0.mk A60
  clear A60
  by_cases c7 : (l0.length : Int) > 1000
  · rw [if_pos c7] at H
    have c7b0 : decide (1000 < (l0.length : Int)) = true := decide_eq_true c7
    have c7b1 : decide (1000 < l0.length) = true := decide_eq_true (by omega)
    clear c7
    obtain rfl := Option.some.inj H
    go_enter Try.func8, Try.ntmps8
    go_wp2_with (first | ((with_reducible refine gate_callee (f := 27) rfl ?_); refine goesL_ (some 20) rfl rfl Try.func27 (by kernel_rfl) rfl #[] rfl (by (try simp only [List.map_toArray, List.map_cons, List.map_nil]); first | done | rfl | (simp only [List.length_drop, List.length_take]; rfl)) ?_; (with_reducible refine (bezantlaw01_up.calls k  t159 _ A6.out).mono ?_); rintro e w8 ⟨rfl, hb⟩; refine ⟨_, rfl, ?_⟩; have n0_ := Aside0.mk (below_step (by repeat (first | (with_reducible first | exact HB.out | apply below_alloc | apply pw_below_drewN | apply below_drew1) | exact HB.out)) hb); clear HB; have HB := n0_; clear n0_; (try clear hb); (try clear hb2); (try clear hk); (try clear hi)))
    go_ret
    exact ⟨by first | rfl | (simp [errW_none, errW_some] <;> rfl) | (simp [*, errW_none, errW_some] <;> rfl), by repeat (first | (with_reducible first | exact HB.out | apply below_alloc | apply pw_below_drewN | apply below_drew1) | exact HB.out)⟩
  · rw [if_neg c7] at H
    have c7b0 : decide (1000 < (l0.length : Int)) = false := decide_eq_false c7
    have c7b1 : decide (1000 < l0.length) = false := decide_eq_false (by omega)
    clear c7
    obtain ⟨y160, hy160⟩ : ∃ y_ : List Int, y_ = (([1, 2, 4, 8] : List Int)) := ⟨_, rfl⟩
    replace H : (if 0 ≤ (Int.tmod (wrap64 ((Int.tmod a2 4) + 4)) 4) then (if (Int.tmod (wrap64 ((Int.tmod a2 4) + 4)) 4) < (y160.length : Int) then ((wire_Put.f k a1 (rd y160 (Int.tmod (wrap64 ((Int.tmod a2 4) + 4)) 4)) a3).bind fun t164 => ((wire_Put.f k a1 (rd y160 (Int.tmod (wrap64 ((Int.tmod a2 4) + 4)) 4)) (!a3)).bind fun t167 => (if (t164.length : Int) = (rd y160 (Int.tmod (wrap64 ((Int.tmod a2 4) + 4)) 4)) then (bezantlaw01_WireTurned.j0 k l0 a1 a3 a4 t159 (rd y160 (Int.tmod (wrap64 ((Int.tmod a2 4) + 4)) 4)) t164 t167 ((t167.length : Int) != (rd y160 (Int.tmod (wrap64 ((Int.tmod a2 4) + 4)) 4)))) else (bezantlaw01_WireTurned.j0 k l0 a1 a3 a4 t159 (rd y160 (Int.tmod (wrap64 ((Int.tmod a2 4) + 4)) 4)) t164 t167 true)))) else (none)) else (none)) = some r := by first | (rw [hy160]; with_reducible exact H) | (have H2_ := (Option.bind_some _ _).symm.trans H; rw [hy160]; with_reducible exact H2_) | (have H2_ := (Option.bind_some _ _).symm.trans H; with_reducible exact H2_) | with_reducible exact H | (rw [hy160]; exact H) | exact H
    have Ny160 := Aside0.mk hy160
    clear hy160
    obtain ⟨ji9, hji9⟩ : ∃ j_ : Int, (Int.tmod (wrap64 ((Int.tmod a2 4) + 4)) 4) = j_ := ⟨_, rfl⟩
    replace H : (if 0 ≤ (ji9) then (if (ji9) < (y160.length : Int) then ((wire_Put.f k a1 (rd y160 (ji9)) a3).bind fun t164 => ((wire_Put.f k a1 (rd y160 (ji9)) (!a3)).bind fun t167 => (if (t164.length : Int) = (rd y160 (ji9)) then (bezantlaw01_WireTurned.j0 k l0 a1 a3 a4 t159 (rd y160 (ji9)) t164 t167 ((t167.length : Int) != (rd y160 (ji9)))) else (bezantlaw01_WireTurned.j0 k l0 a1 a3 a4 t159 (rd y160 (ji9)) t164 t167 true)))) else (none)) else (none)) = some r := by first | (rw [hji9] at H; exact H) | (simp only [hji9] at H ⊢; exact H)
    (try rw [hji9] at A6)
    by_cases c10 : 0 ≤ (ji9)
    · rw [if_pos c10] at H
      have c10b0 : decide (0 ≤ (ji9)) = true := decide_eq_true c10
      clear c10
      by_cases c11 : (ji9) < (y160.length : Int)
      · rw [if_pos c11] at H
        have c11b0 : decide ((ji9) < (y160.length : Int)) = true := decide_eq_true c11
        clear c11
        replace H := Option.bind_eq_some_iff.mp H
        obtain ⟨t164, A120, H⟩ := H
        replace H : ((wire_Put.f k a1 (rd y160 (ji9)) (!a3)).bind fun t167 => (if (t164.length : Int) = (rd y160 (ji9)) then (bezantlaw01_WireTurned.j0 k l0 a1 a3 a4 t159 (rd y160 (ji9)) t164 t167 ((t167.length : Int) != (rd y160 (ji9)))) else (bezantlaw01_WireTurned.j0 k l0 a1 a3 a4 t159 (rd y160 (ji9)) t164 t167 true))) = some r := H
        have A12 := Aside0.mk A120
        clear A120
        replace H := Option.bind_eq_some_iff.mp H
        obtain ⟨t167, A130, H⟩ := H
        replace H : (if (t164.length : Int) = (rd y160 (ji9)) then (bezantlaw01_WireTurned.j0 k l0 a1 a3 a4 t159 (rd y160 (ji9)) t164 t167 ((t167.length : Int) != (rd y160 (ji9)))) else (bezantlaw01_WireTurned.j0 k l0 a1 a3 a4 t159 (rd y160 (ji9)) t164 t167 true)) = some r := H
        have A13 := Aside0.mk A130
        clear A130
        have HC14 := Aside0.mk H
        clear H
        go_enter Try.func8, Try.ntmps8
        go_upto_region 7 with (first | ((with_reducible refine gate_callee (f := 27) rfl ?_); refine goesL_ (some 20) rfl rfl Try.func27 (by kernel_rfl) rfl #[] rfl (by (try simp only [List.map_toArray, List.map_cons, List.map_nil]); first | done | rfl | (simp only [List.length_drop, List.length_take]; rfl)) ?_; (with_reducible refine (bezantlaw01_up.calls k  t159 _ A6.out).mono ?_); rintro e w15 ⟨rfl, hb⟩; refine ⟨_, rfl, ?_⟩; have n0_ := Aside0.mk (below_step (by repeat (first | (with_reducible first | exact HB.out | apply below_alloc | apply pw_below_drewN | apply below_drew1) | exact HB.out)) hb); clear HB; have HB := n0_; clear n0_; (try clear hb); (try clear hb2); (try clear hk); (try clear hi)) | ((with_reducible refine gate_dst (N := 25) rfl ?_); (try (refine gate_guard (by rfl) ?_; dsimp only)); refine Kd.R_lit (Kd.int .i64) _ 3 ?hg (N := 25) ?hd (xs := ([1, 2, 4, 8] : List Int)) (inner := [.int .i64 1, .int .i64 2, .int .i64 4, .int .i64 8]) (ok := fun _ => True) (okp := fun _ => True) ?hr ?hp (fun _ hk => hk) trivial (Below.refl _ _) (Nat.le_refl _) (by simp) ?_; (case hd => rfl); (case hg => rfl); (case hr => first | (go_simp; done) | (go_simp; rfl)); (case hp => exact (Reps.one (show Kd.M (Kd.int .i64) _ _ _ 1 [.int .i64 1] from rfl) (Reps.one (show Kd.M (Kd.int .i64) _ _ _ 2 [.int .i64 2] from rfl) (Reps.one (show Kd.M (Kd.int .i64) _ _ _ 4 [.int .i64 4] from rfl) (Reps.one (show Kd.M (Kd.int .i64) _ _ _ 8 [.int .i64 8] from rfl) (Reps.none _ _)))))); intro v161 w16 ho17 hb hg_ hnew_; clear hg_ hnew_; (first | rw [← Ny160.out] at ho17 | (simp only [Int.reduceToNat] at ho17; rw [← Ny160.out] at ho17)); have n0_ := Aside0.mk (Kd.R_lower ho17 (below_size (by repeat (first | (with_reducible first | exact HB.out | apply below_alloc | apply pw_below_drewN | apply below_drew1) | exact HB.out)))); have n1_ := Aside0.mk (below_step (by repeat (first | (with_reducible first | exact HB.out | apply below_alloc | apply pw_below_drewN | apply below_drew1) | exact HB.out)) hb); clear HB; have HO162 := n0_; have HB := n1_; clear n0_ n1_; clear hb ho17; obtain ⟨Ao18, co18, eo18⟩ := Kd.R_slice HO162.out; subst eo18; have p163 : 0 ≤ ((ji9) : Int) := of_decide_eq_true (by first | (with_reducible assumption) | assumption); have q163 : (ji9) < (y160.length : Int) := of_decide_eq_true (by first | (with_reducible assumption) | assumption); obtain ⟨ad163, e163, hx163_0⟩ := Kd.at_int (Kd.R_reads' HO162.out).2.2 (ji9) p163 q163; cases e163; replace p163 := eq_true p163; replace q163 := eq_true q163) | ((with_reducible refine gate_callee (f := 30) rfl ?_); refine goesL_ (some 35) rfl rfl Try.func30 (by kernel_rfl) rfl #[.int .u64 a1, .int .i64 (rd y160 (ji9)), .bool a3] rfl (by (try simp only [List.map_toArray, List.map_cons, List.map_nil]); first | done | (simp only [hji9]; rfl) | rfl | (simp only [List.length_drop, List.length_take]; rfl)) ?_; (with_reducible refine (wire_Put.calls k a1 (rd y160 (ji9)) a3 t164 _ A12.out).mono ?_); rintro e w19 ⟨v165, rfl, ho0, hb⟩; refine ⟨_, rfl, ?_⟩; have n0_ := Aside0.mk (Kd.R_below (by (with_reducible repeat (first | apply Kd.R_alloc | apply Kd.R_drewN | apply Kd.R_drew)); exact HO162.out) hb); have n1_ := Aside0.mk (Kd.R_lower ho0 (below_size (by repeat (first | (with_reducible first | exact HB.out | apply below_alloc | apply pw_below_drewN | apply below_drew1) | exact HB.out)))); have n2_ := Aside0.mk (below_step (by repeat (first | (with_reducible first | exact HB.out | apply below_alloc | apply pw_below_drewN | apply below_drew1) | exact HB.out)) hb); clear HO162; clear HB; have HO162 := n0_; have HO166 := n1_; have HB := n2_; clear n0_ n1_ n2_; (try clear hb); (try clear hb2); (try clear hk); (try clear hi); (try clear ho0)) | ((with_reducible refine gate_callee (f := 30) rfl ?_); refine goesL_ (some 40) rfl rfl Try.func30 (by kernel_rfl) rfl #[.int .u64 a1, .int .i64 (rd y160 (ji9)), .bool (!a3)] rfl (by (try simp only [List.map_toArray, List.map_cons, List.map_nil]); first | done | (simp only [hji9]; rfl) | rfl | (simp only [List.length_drop, List.length_take]; rfl)) ?_; (with_reducible refine (wire_Put.calls k a1 (rd y160 (ji9)) (!a3) t167 _ A13.out).mono ?_); rintro e w20 ⟨v168, rfl, ho0, hb⟩; refine ⟨_, rfl, ?_⟩; have n0_ := Aside0.mk (Kd.R_below (by (with_reducible repeat (first | apply Kd.R_alloc | apply Kd.R_drewN | apply Kd.R_drew)); exact HO162.out) hb); have n1_ := Aside0.mk (Kd.R_elder' (by (with_reducible repeat (first | apply Kd.R_alloc | apply Kd.R_drewN | apply Kd.R_drew)); exact HO166.out) (Kd.R_base ho0) hb); have n2_ := Aside0.mk (Kd.R_lower (Kd.R_new' ho0 (Kd.R_lt (by (with_reducible repeat (first | apply Kd.R_alloc | apply Kd.R_drewN | apply Kd.R_drew)); exact HO166.out))) (below_size (by repeat (first | (with_reducible first | exact HB.out | apply below_alloc | apply pw_below_drewN | apply below_drew1) | exact HB.out)))); have n3_ := Aside0.mk (below_step (by repeat (first | (with_reducible first | exact HB.out | apply below_alloc | apply pw_below_drewN | apply below_drew1) | exact HB.out)) hb); clear HO162; clear HO166; clear HB; have HO162 := n0_; have HO166 := n1_; have HO169 := n2_; have HB := n3_; clear n0_ n1_ n2_ n3_; (try clear hb); (try clear hb2); (try clear hk); (try clear hi); (try clear ho0)))
        (try simp only [Act.put, List.setIfInBounds_toArray, List.set_cons_zero, List.set_cons_succ])
        go_cut [50] (fun v50 wc => ∃ (kq : Nat) (x50_13 : Bool), v50 = .bool x50_13 ∧ Aside0 (bezantlaw01_WireTurned.j0 kq l0 a1 a3 a4 t159 (rd y160 (ji9)) t164 t167 x50_13 = some r) ∧ Aside0 (kq ≤ k) ∧ Aside0 (Kd.R (Kd.int .u8) 5 wc w.heap.size (fun k_ => some k_ ≠ (v168 : Value).ownBlock) v165 t164) ∧ Aside0 (Kd.R (Kd.int .u8) 5 wc w.heap.size (fun k_ => some k_ ≠ (v165 : Value).ownBlock) v168 t167) ∧ Aside0 (Below w.heap.size w wc))
        case first =>
          have H := HC14.out
          clear HC14
          by_cases c21 : (t164.length : Int) = (rd y160 (ji9))
          · rw [if_pos c21] at H
            have c21b0 : ((t164.length : Int) == (rd y160 (ji9))) = true := beq_iff_eq.mpr c21
            have c21b1 : ((t164.length : Int) != (rd y160 (ji9))) = false := bne_eq_false_iff_eq.mpr c21
            clear c21
            (first | rw [c21b0] | (simp only [i64_w, i32_w]; rw [c21b0]) | skip)
            have H' := Aside0.mk H
            clear H
            obtain ⟨Ao22, co22, eo22⟩ := Kd.R_slice HO166.out
            subst eo22
            obtain ⟨Ao23, co23, eo23⟩ := Kd.R_slice HO169.out
            subst eo23
            go_wp2
            go_meet
            case rel => exact ⟨_, (((t167.length : Int) != (rd y160 (ji9)))), (by first | rfl | (simp; done) | (simp only [← hji9] <;> (first | rfl | simp)) | (simp [*]; done)), H', ⟨by first | omega | exact Nat.le_refl _⟩, ⟨by (with_reducible repeat (first | apply Kd.R_alloc | apply Kd.R_drewN | apply Kd.R_drew)); exact Kd.R_mono HO166.out (fun _ hk => hk.2)⟩, ⟨by (with_reducible repeat (first | apply Kd.R_alloc | apply Kd.R_drewN | apply Kd.R_drew)); exact Kd.R_mono HO169.out (fun _ hk => hk.2)⟩, ⟨by repeat (first | (with_reducible first | exact HB.out | apply below_alloc | apply pw_below_drewN | apply below_drew1) | exact HB.out)⟩⟩
          · rw [if_neg c21] at H
            have c21b0 : ((t164.length : Int) == (rd y160 (ji9))) = false := beq_eq_false_iff_ne.mpr c21
            have c21b1 : ((t164.length : Int) != (rd y160 (ji9))) = true := bne_iff_ne.mpr c21
            (first | rw [c21b0] | (simp only [i64_w, i32_w]; rw [c21b0]) | skip)
            have H' := Aside0.mk H
            clear H
            obtain ⟨Ao24, co24, eo24⟩ := Kd.R_slice HO166.out
            subst eo24
            go_wp2
            go_meet
            case rel => exact ⟨_, (true), (by first | rfl | (simp; done) | (simp [*]; done)), H', ⟨by first | omega | exact Nat.le_refl _⟩, ⟨by (with_reducible repeat (first | apply Kd.R_alloc | apply Kd.R_drewN | apply Kd.R_drew)); exact Kd.R_mono HO166.out (fun _ hk => hk.2)⟩, ⟨by (with_reducible repeat (first | apply Kd.R_alloc | apply Kd.R_drewN | apply Kd.R_drew)); exact Kd.R_mono HO169.out (fun _ hk => hk.2)⟩, ⟨by repeat (first | (with_reducible first | exact HB.out | apply below_alloc | apply pw_below_drewN | apply below_drew1) | exact HB.out)⟩⟩
        case rest =>
          clear HC14
          try clear c1
          try clear p1
          try clear q1
          try clear hx1
          try clear c2
          try clear p2
          try clear c3
          try clear p6
          try clear c7
          try clear c7b0
          try clear c7b1
          try clear c8
          try clear c10
          try clear c10b0
          try clear c11
          try clear c11b0
          try clear p16
          try clear q16
          try clear hx16
          try clear c21
          try clear c21b0
          try clear c21b1
          try clear hx163_0
          try clear p163
          try clear q163
          obtain ⟨kq, x50_13, rfl, HA, HJ13, HO_13, HO_14, HB⟩ := hcut
          cases kq with
          | zero => exact absurd HA.out (by simp [bezantlaw01_WireTurned.j0])
          | succ kj13 =>
            have H := HA.out
            clear HA
            simp only [bezantlaw01_WireTurned.j0] at H
            by_cases c25 : x50_13 = true
            · subst c25
              have H1 : (none) = some r := by rw [if_pos rfl] at H; exact H
              clear H
              have H := H1
              clear H1
              exact absurd H (by simp)
            · replace c25 := Bool.eq_false_iff.mpr c25
              subst c25
              have H1 : (bezantlaw01_WireTurned.l0 kj13 l0 a1 a3 a4 t159 (rd y160 (ji9)) t164 t167 0) = some r := by rw [if_neg (show ¬ (false = true) by decide)] at H; exact H
              clear H
              have H := H1
              clear H1
              have H' := Aside0.mk H
              clear H
              go_wp2
              go_loopg [15] kj13 (fun kq v15 w' => ∃ (x15_2 : Int), v15 = .int .i64 x15_2 ∧ Aside0 (bezantlaw01_WireTurned.l0 kq l0 a1 a3 a4 t159 (rd y160 (ji9)) t164 t167 x15_2 = some r) ∧ Aside0 (kq ≤ kj13) ∧ Aside0 (Kd.R (Kd.int .u8) 5 w' w.heap.size (fun k_ => some k_ ≠ (v168 : Value).ownBlock) v165 t164) ∧ Aside0 (Kd.R (Kd.int .u8) 5 w' w.heap.size (fun k_ => some k_ ≠ (v165 : Value).ownBlock) v168 t167) ∧ Aside0 (Below w.heap.size w w'))
              case atStart => exact ⟨(0), (by first | rfl | (simp; done) | (simp [*]; done)), H', ⟨Nat.le_refl _⟩, ⟨by (with_reducible repeat (first | apply Kd.R_alloc | apply Kd.R_drewN | apply Kd.R_drew)); exact HO_13.out⟩, ⟨by (with_reducible repeat (first | apply Kd.R_alloc | apply Kd.R_drewN | apply Kd.R_drew)); exact HO_14.out⟩, ⟨by repeat (first | (with_reducible first | exact HB.out | apply below_alloc | apply pw_below_drewN | apply below_drew1) | exact HB.out)⟩⟩
              case round =>
                clear H'
                try clear c1
                try clear p1
                try clear q1
                try clear hx1
                try clear c2
                try clear p2
                try clear c3
                try clear p6
                try clear c7
                try clear c7b0
                try clear c7b1
                try clear c8
                try clear c10
                try clear c10b0
                try clear c11
                try clear c11b0
                try clear p16
                try clear q16
                try clear hx16
                try clear c21
                try clear c21b0
                try clear c21b1
                try clear c25
                try clear hx163_0
                try clear p1
                try clear p16
                try clear p163
                try clear p2
                try clear p6
                try clear q1
                try clear q16
                try clear q163
                obtain ⟨x15_2, rfl, HA, HK2, HO_13, HO_14, HB⟩ := hrel
                cases gk with
                | zero => exact absurd HA.out (by simp [bezantlaw01_WireTurned.l0])
                | succ k2 =>
                  have H := HA.out
                  clear HA
                  simp only [bezantlaw01_WireTurned.l0] at H
                  by_cases c26 : x15_2 < (rd y160 (ji9))
                  · rw [if_pos c26] at H
                    have c26b0 : decide (x15_2 < (rd y160 (ji9))) = true := decide_eq_true c26
                    clear c26
                    by_cases c27 : 0 ≤ x15_2
                    · rw [if_pos c27] at H
                      have c27b0 : decide (0 ≤ x15_2) = true := decide_eq_true c27
                      clear c27
                      by_cases c28 : x15_2 < (t164.length : Int)
                      · rw [if_pos c28] at H
                        have c28b0 : decide (x15_2 < (t164.length : Int)) = true := decide_eq_true c28
                        clear c28
                        obtain ⟨ji29, hji29⟩ : ∃ j_ : Int, (wrap64 ((wrap64 ((rd y160 (ji9)) - 1)) - x15_2)) = j_ := ⟨_, rfl⟩
                        replace H : (if 0 ≤ (ji29) then (if (ji29) < (t167.length : Int) then (if (rd t164 x15_2) = (rd t167 (ji29)) then (bezantlaw01_WireTurned.l0 k2 l0 a1 a3 a4 t159 (rd y160 (ji9)) t164 t167 (wrap64 (x15_2 + 1))) else (none)) else (none)) else (none)) = some r := by first | (rw [hji29] at H; exact H) | (simp only [hji29] at H ⊢; exact H)
                        have hji29w : (IntKind.i64.wrap ((wrap64 ((rd y160 (ji9)) - 1)) - x15_2)) = ji29 := (i64_w _).trans hji29
                        by_cases c30 : 0 ≤ (ji29)
                        · rw [if_pos c30] at H
                          have c30b0 : decide (0 ≤ (ji29)) = true := decide_eq_true c30
                          clear c30
                          by_cases c31 : (ji29) < (t167.length : Int)
                          · rw [if_pos c31] at H
                            have c31b0 : decide ((ji29) < (t167.length : Int)) = true := decide_eq_true c31
                            clear c31
                            by_cases c32 : (rd t164 x15_2) = (rd t167 (ji29))
                            · rw [if_pos c32] at H
                              have c32b0 : ((rd t164 x15_2) == (rd t167 (ji29))) = true := beq_iff_eq.mpr c32
                              have c32b1 : ((rd t164 x15_2) != (rd t167 (ji29))) = false := bne_eq_false_iff_eq.mpr c32
                              clear c32
                              have H' := Aside0.mk H
                              clear H
                              try go_wp2
                              have n0_ := Aside0.mk (Kd.R_drew HO_13.out)
                              have n1_ := Aside0.mk (Kd.R_drew HO_14.out)
                              have n2_ := Aside0.mk (below_drew1 HB.out)
                              clear HO_13
                              clear HO_14
                              clear HB
                              have HO_13 := n0_
                              have HO_14 := n1_
                              have HB := n2_
                              clear n0_ n1_ n2_
                              obtain ⟨Ao34, co34, eo34⟩ := Kd.R_slice HO_13.out
                              (first | subst eo34 | (injection eo34 with f1_ f2_ f3_; have f4_ := f1_.symm; have f5_ := f3_.symm; clear f1_ f2_ f3_; subst f4_; subst f5_))
                              have p170 : 0 ≤ (x15_2 : Int) := of_decide_eq_true (by first | (with_reducible assumption) | assumption)
                              have q170 : x15_2 < (t164.length : Int) := of_decide_eq_true (by first | (with_reducible assumption) | assumption)
                              obtain ⟨ad170, e170, hx170_0⟩ := Kd.at_int (Kd.R_reads' HO_13.out).2.2 x15_2 p170 q170
                              cases e170
                              replace p170 := eq_true p170
                              replace q170 := eq_true q170
                              obtain ⟨Ao35, co35, eo35⟩ := Kd.R_slice HO_14.out
                              (first | subst eo35 | (injection eo35 with f1_ f2_ f3_; have f4_ := f1_.symm; have f5_ := f3_.symm; clear f1_ f2_ f3_; subst f4_; subst f5_))
                              have p171 : 0 ≤ ((ji29) : Int) := of_decide_eq_true (by first | (with_reducible assumption) | assumption)
                              have q171 : (ji29) < (t167.length : Int) := of_decide_eq_true (by first | (with_reducible assumption) | assumption)
                              obtain ⟨ad171, e171, hx171_0⟩ := Kd.at_int (Kd.R_reads' HO_14.out).2.2 (ji29) p171 q171
                              cases e171
                              replace p171 := eq_true p171
                              replace q171 := eq_true q171
                              refine start_ (n := 12) (S := fun w' => w'.cell? (ad170.add (x15_2).toNat) = some (.int .u8 (rd t164 x15_2)) ∧ w'.cell? (ad171.add ((ji29)).toNat) = some (.int .u8 (rd t167 (ji29)))) (ds := []) #[false, false, false, false, false, false, false, false, false, false, false, false] (by kernel_rfl) rfl rfl ⟨hx170_0, hx171_0⟩ (fun hHeld => ?_); refine with_tabW bezantlaw01_WireTurned.tab12 bezantlaw01_WireTurned.bits12 (fun HT_ HW_ => ?_)
                              generalize wr.drew = w33 at HO_13 HO_14 HB hx170_0 hx171_0 hHeld ⊢
                              refine pure_ (i := 0) (N := some 56) (v := ?_) (a' := ?_) #[true, false, false, false, false, false, false, false, false, false, false, false] rfl rfl (any_of HT_.out (by kernel_rfl)) (fun _ _ _ h => h) (Or.inl ⟨by rfl, ?_⟩) ?_ ?_
                              rotate_left
                              · intro w'
                                go_simp
                                with_reducible rfl
                              rotate_left
                              · simp only [Act.put, List.setIfInBounds_toArray, List.set_cons_zero, List.set_cons_succ, i64_w, i32_w]
                                rfl
                              refine pure_ (i := 1) (N := some 57) (v := ?_) (a' := ?_) #[true, true, false, false, false, false, false, false, false, false, false, false] rfl rfl (any_of HT_.out (by kernel_rfl)) (fun _ _ _ h => h) (Or.inl ⟨by rfl, ?_⟩) ?_ ?_
                              rotate_left
                              · intro w'
                                go_simp
                                with_reducible rfl
                              rotate_left
                              · simp only [Act.put, List.setIfInBounds_toArray, List.set_cons_zero, List.set_cons_succ, i64_w, i32_w]
                                rfl
                              refine pure_ (i := 2) (N := some 58) (v := ?_) (a' := ?_) #[true, true, true, false, false, false, false, false, false, false, false, false] rfl rfl (any_of HT_.out (by kernel_rfl)) (fun _ _ _ h => h) (Or.inl ⟨by rfl, ?_⟩) ?_ ?_
                              rotate_left
                              · intro w'
                                go_simp
                                with_reducible rfl
                              rotate_left
                              · simp only [Act.put, List.setIfInBounds_toArray, List.set_cons_zero, List.set_cons_succ, i64_w, i32_w]
                                rfl
                              refine pure_ (i := 4) (N := some 60) (v := ?_) (a' := ?_) #[true, true, true, false, true, false, false, false, false, false, false, false] rfl rfl (any_of HT_.out (by kernel_rfl)) (fun _ _ _ h => h) (Or.inl ⟨by rfl, ?_⟩) ?_ ?_
                              rotate_left
                              · intro w'
                                go_simp
                                with_reducible rfl
                              rotate_left
                              · simp only [Act.put, List.setIfInBounds_toArray, List.set_cons_zero, List.set_cons_succ, i64_w, i32_w]
                                rfl
                              refine pure_ (i := 5) (N := some 61) (v := ?_) (a' := ?_) #[true, true, true, false, true, true, false, false, false, false, false, false] rfl rfl (any_of HT_.out (by kernel_rfl)) (fun _ _ _ h => h) (Or.inl ⟨by rfl, ?_⟩) ?_ ?_
                              rotate_left
                              · intro w'
                                go_simp
                                with_reducible rfl
                              rotate_left
                              · simp only [Act.put, List.setIfInBounds_toArray, List.set_cons_zero, List.set_cons_succ, i64_w, i32_w]
                                rfl
                              refine pure_ (i := 6) (N := some 62) (v := ?_) (a' := ?_) #[true, true, true, false, true, true, true, false, false, false, false, false] rfl rfl (any_of HT_.out (by kernel_rfl)) (fun _ _ _ h => h) (Or.inl ⟨by rfl, ?_⟩) ?_ ?_
                              rotate_left
                              · intro w'
                                go_simp
                                with_reducible rfl
                              rotate_left
                              · simp only [Act.put, List.setIfInBounds_toArray, List.set_cons_zero, List.set_cons_succ, i64_w, i32_w]
                                rfl
                              refine pure_ (i := 7) (N := some 63) (v := ?_) (a' := ?_) #[true, true, true, false, true, true, true, true, false, false, false, false] rfl rfl (any_of HT_.out (by kernel_rfl)) (fun _ _ _ h => h) (Or.inl ⟨by rfl, ?_⟩) ?_ ?_
                              rotate_left
                              · intro w'
                                go_simp
                                with_reducible rfl
                              rotate_left
                              · simp only [Act.put, List.setIfInBounds_toArray, List.set_cons_zero, List.set_cons_succ, i64_w, i32_w]
                                rfl
                              refine pure_ (i := 8) (N := some 64) (v := ?_) (a' := ?_) #[true, true, true, false, true, true, true, true, true, false, false, false] rfl rfl (any_of HT_.out (by kernel_rfl)) (fun _ _ _ h => h) (Or.inl ⟨by rfl, ?_⟩) ?_ ?_
                              rotate_left
                              · intro w'
                                go_simp
                                with_reducible rfl
                              rotate_left
                              · simp only [Act.put, List.setIfInBounds_toArray, List.set_cons_zero, List.set_cons_succ, i64_w, i32_w]
                                rfl
                              refine pure_ (i := 9) (N := some 65) (v := ?_) (a' := ?_) #[true, true, true, false, true, true, true, true, true, true, false, false] rfl rfl (any_of HT_.out (by kernel_rfl)) (fun _ _ _ h => h) (Or.inl ⟨by rfl, ?_⟩) ?_ ?_
                              rotate_left
                              · intro w'
                                go_simp
                                with_reducible rfl
                              rotate_left
                              · simp only [Act.put, List.setIfInBounds_toArray, List.set_cons_zero, List.set_cons_succ, i64_w, i32_w]
                                rfl
                              refine take_ (i := 3) (N := some 59) (v := ?_) (a' := ?_) #[true, true, true, true, true, true, true, true, true, true, false, false] rfl rfl (take_ofW HT_.out HW_.out (by kernel_rfl)) (fun _ _ _ h => h) (Or.inl ⟨by rfl, ?_⟩) hHeld ?_ ?_
                              rotate_left
                              · rintro w' ⟨s0, s1⟩
                                go_simp
                                with_reducible rfl
                              rotate_left
                              · simp only [Act.put, List.setIfInBounds_toArray, List.set_cons_zero, List.set_cons_succ, i64_w, i32_w]
                                rfl
                              refine take_ (i := 10) (N := some 66) (v := ?_) (a' := ?_) #[true, true, true, true, true, true, true, true, true, true, true, false] rfl rfl (take_ofW HT_.out HW_.out (by kernel_rfl)) (fun _ _ _ h => h) (Or.inl ⟨by rfl, ?_⟩) hHeld ?_ ?_
                              rotate_left
                              · rintro w' ⟨s0, s1⟩
                                go_simp
                                with_reducible rfl
                              rotate_left
                              · simp only [Act.put, List.setIfInBounds_toArray, List.set_cons_zero, List.set_cons_succ, i64_w, i32_w]
                                rfl
                              refine pure_ (i := 11) (N := some 67) (v := ?_) (a' := ?_) #[true, true, true, true, true, true, true, true, true, true, true, true] rfl rfl (any_of HT_.out (by kernel_rfl)) (fun _ _ _ h => h) (Or.inl ⟨by rfl, ?_⟩) ?_ ?_
                              rotate_left
                              · intro w'
                                go_simp
                                with_reducible rfl
                              rotate_left
                              · simp only [Act.put, List.setIfInBounds_toArray, List.set_cons_zero, List.set_cons_succ, i64_w, i32_w]
                                rfl
                              refine done_ (done_of HT_.out (by kernel_rfl)) ?_
                              try go_wp2
                              go_roundg k2
                              case measure => have := HJ13.out; have := HK2.out; omega
                              case rel => exact ⟨(wrap64 (x15_2 + 1)), (by first | rfl | (simp; done) | (simp [*]; done)), H', ⟨by have := HJ13.out; have := HK2.out; omega⟩, ⟨by (with_reducible repeat (first | apply Kd.R_alloc | apply Kd.R_drewN | apply Kd.R_drew)); exact HO_13.out⟩, ⟨by (with_reducible repeat (first | apply Kd.R_alloc | apply Kd.R_drewN | apply Kd.R_drew)); exact HO_14.out⟩, ⟨by repeat (first | (with_reducible first | exact HB.out | apply below_alloc | apply pw_below_drewN | apply below_drew1) | exact HB.out)⟩⟩
                            · rw [if_neg c32] at H
                              exact absurd H (by simp)
                          · rw [if_neg c31] at H
                            exact absurd H (by simp)
                        · rw [if_neg c30] at H
                          exact absurd H (by simp)
                      · rw [if_neg c28] at H
                        exact absurd H (by simp)
                    · rw [if_neg c27] at H
                      exact absurd H (by simp)
                  · rw [if_neg c26] at H
                    have c26b0 : decide (x15_2 < (rd y160 (ji9))) = false := decide_eq_false c26
                    clear c26
                    obtain ⟨y172, hy172⟩ : ∃ y_ : List Int, y_ = (([] : List Int)) := ⟨_, rfl⟩
                    replace H : (if y172.length + l0.length < 140737488355328 then ((some (y172 ++ l0 : List Int)).bind fun y175 => (if y175.length + t164.length < 140737488355328 then ((wire_Get.f k2 (y175 ++ t164) (IntKind.u64.wrap ((l0.length : Int))) (rd y160 (ji9)) a3).bind fun bt181 => (if bt181.2 = true then ((wire_Fits.f a1 (rd y160 (ji9))).bind fun t183 => (bezantlaw01_WireTurned.j2 k2 l0 a3 a4 t159 (rd y160 (ji9)) ((bt181.1 == a1) != t183))) else (bezantlaw01_WireTurned.j2 k2 l0 a3 a4 t159 (rd y160 (ji9)) true))) else (none))) else (none)) = some r := by first | (rw [hy172]; with_reducible exact H) | (have H2_ := (Option.bind_some _ _).symm.trans H; rw [hy172]; with_reducible exact H2_) | (have H2_ := (Option.bind_some _ _).symm.trans H; with_reducible exact H2_) | with_reducible exact H | (rw [hy172]; exact H) | exact H
                    have Ny172 := Aside0.mk hy172
                    clear hy172
                    by_cases c36 : y172.length + l0.length < 140737488355328
                    · rw [if_pos c36] at H
                      have LMc36 := Aside0.mk c36
                      clear c36
                      obtain ⟨y175, hy175⟩ : ∃ y_ : List Int, y_ = (y172 ++ l0) := ⟨_, rfl⟩
                      replace H : (if y175.length + t164.length < 140737488355328 then ((wire_Get.f k2 (y175 ++ t164) (IntKind.u64.wrap ((l0.length : Int))) (rd y160 (ji9)) a3).bind fun bt181 => (if bt181.2 = true then ((wire_Fits.f a1 (rd y160 (ji9))).bind fun t183 => (bezantlaw01_WireTurned.j2 k2 l0 a3 a4 t159 (rd y160 (ji9)) ((bt181.1 == a1) != t183))) else (bezantlaw01_WireTurned.j2 k2 l0 a3 a4 t159 (rd y160 (ji9)) true))) else (none)) = some r := by first | (rw [hy175]; with_reducible exact H) | (have H2_ := (Option.bind_some _ _).symm.trans H; rw [hy175]; with_reducible exact H2_) | (have H2_ := (Option.bind_some _ _).symm.trans H; with_reducible exact H2_) | with_reducible exact H | (rw [hy175]; exact H) | exact H
                      have Ny175 := Aside0.mk hy175
                      clear hy175
                      by_cases c37 : y175.length + t164.length < 140737488355328
                      · rw [if_pos c37] at H
                        have LMc37 := Aside0.mk c37
                        clear c37
                        obtain ⟨y178, hy178⟩ : ∃ y_ : List Int, y_ = (y175 ++ t164) := ⟨_, rfl⟩
                        replace H : ((wire_Get.f k2 y178 (IntKind.u64.wrap ((l0.length : Int))) (rd y160 (ji9)) a3).bind fun bt181 => (if bt181.2 = true then ((wire_Fits.f a1 (rd y160 (ji9))).bind fun t183 => (bezantlaw01_WireTurned.j2 k2 l0 a3 a4 t159 (rd y160 (ji9)) ((bt181.1 == a1) != t183))) else (bezantlaw01_WireTurned.j2 k2 l0 a3 a4 t159 (rd y160 (ji9)) true))) = some r := by first | (rw [hy178]; with_reducible exact H) | (have H2_ := (Option.bind_some _ _).symm.trans H; rw [hy178]; with_reducible exact H2_) | (have H2_ := (Option.bind_some _ _).symm.trans H; with_reducible exact H2_) | with_reducible exact H | (rw [hy178]; exact H) | exact H
                        have Ny178 := Aside0.mk hy178
                        clear hy178
                        replace H := Option.bind_eq_some_iff.mp H
                        obtain ⟨⟨t181, t182⟩, A380, H⟩ := H
                        replace H : (if t182 = true then ((wire_Fits.f a1 (rd y160 (ji9))).bind fun t183 => (bezantlaw01_WireTurned.j2 k2 l0 a3 a4 t159 (rd y160 (ji9)) ((t181 == a1) != t183))) else (bezantlaw01_WireTurned.j2 k2 l0 a3 a4 t159 (rd y160 (ji9)) true)) = some r := H
                        have A38 := Aside0.mk A380
                        clear A380
                        have HC39 := Aside0.mk H
                        clear H
                        go_upto_region 15 with (first | ((with_reducible refine gate_dst (N := 69) rfl ?_); (try (refine gate_guard (by rfl) ?_; dsimp only)); refine Kd.R_lit (Kd.int .u8) _ 5 ?hg (N := 69) ?hd (xs := ([] : List Int)) (inner := []) (ok := fun _ => True) (okp := fun _ => True) ?hr ?hp (fun _ hk => hk) trivial (Below.refl _ _) (Nat.le_refl _) (by simp) ?_; (case hd => rfl); (case hg => rfl); (case hr => first | (go_simp; done) | (go_simp; rfl)); (case hp => exact (Reps.none _ _)); intro v173 w40 ho41 hb hg_ hnew_; clear hg_ hnew_; (first | rw [← Ny172.out] at ho41 | (simp only [Int.reduceToNat] at ho41; rw [← Ny172.out] at ho41)); have n0_ := Aside0.mk (Kd.R_elder' (by (with_reducible repeat (first | apply Kd.R_alloc | apply Kd.R_drewN | apply Kd.R_drew)); exact HO_13.out) (Kd.R_base ho41) hb); have n1_ := Aside0.mk (Kd.R_elder' (by (with_reducible repeat (first | apply Kd.R_alloc | apply Kd.R_drewN | apply Kd.R_drew)); exact HO_14.out) (Kd.R_base ho41) hb); have n2_ := Aside0.mk (Kd.R_lower (Kd.R_new' (Kd.R_new' ho41 (Kd.R_lt (by (with_reducible repeat (first | apply Kd.R_alloc | apply Kd.R_drewN | apply Kd.R_drew)); exact HO_13.out))) (Kd.R_lt (by (with_reducible repeat (first | apply Kd.R_alloc | apply Kd.R_drewN | apply Kd.R_drew)); exact HO_14.out))) (below_size (by repeat (first | (with_reducible first | exact HB.out | apply below_alloc | apply pw_below_drewN | apply below_drew1) | exact HB.out)))); have n3_ := Aside0.mk (below_step (by repeat (first | (with_reducible first | exact HB.out | apply below_alloc | apply pw_below_drewN | apply below_drew1) | exact HB.out)) hb); clear HO_13; clear HO_14; clear HB; have HO_13 := n0_; have HO_14 := n1_; have HO174 := n2_; have HB := n3_; clear n0_ n1_ n2_ n3_; clear hb ho41) | ((with_reducible refine gate_builtin (b := .append) (xs := #[.tmp 69, .tmp 70]) rfl ?_); (try (refine gate_guard (by rfl) ?_; dsimp only)); at_builtin; refine Kd.R_append_rows (Kd.int .u8) (w0 := w) w.heap.size rfl (.tmp 69) (.tmp 70) 39 5 (.int .u8 0) 1 rfl Try.underlying39 info5 rfl (by decide) (by omega) v173 y172 l0 _ _ _ (fun k_ => some k_ ≠ (v165 : Value).ownBlock ∧ some k_ ≠ (v168 : Value).ownBlock) (fun _ => False) rfl rfl ?aO ?aR (fun _ _ h => h) (fun _ h => h.elim) ?aF ?aB ?aS ?aL ?_; (case aR => repeat (first | exact (Kd.C_below HR0.out HB.out) | (with_reducible refine Kd.C_alloc ?_ _) | (with_reducible refine Kd.C_drewN ?_ _) | (with_reducible refine Kd.C_drew ?_))); (case aB => exact (by repeat (first | (with_reducible first | exact HB.out | apply below_alloc | apply pw_below_drewN | apply below_drew1) | exact HB.out))); (case aF => exact (fun k_ hk => ⟨Kd.fresh' (Kd.R_lt (by (with_reducible repeat (first | apply Kd.R_alloc | apply Kd.R_drewN | apply Kd.R_drew)); exact HO_13.out)) k_ hk, Kd.fresh' (Kd.R_lt (by (with_reducible repeat (first | apply Kd.R_alloc | apply Kd.R_drewN | apply Kd.R_drew)); exact HO_14.out)) k_ hk⟩)); (case aO => exact (by (with_reducible repeat (first | apply Kd.R_alloc | apply Kd.R_drewN | apply Kd.R_drew)); exact Kd.R_mono HO174.out (fun _ hk => ⟨hk.1.2, hk.2⟩))); (case aS => exact (below_size (by repeat (first | (with_reducible first | exact HB.out | apply below_alloc | apply pw_below_drewN | apply below_drew1) | exact HB.out)))); (case aL => have := LMc36.out; omega); intro v176 w42 ho hb hg hat; rw [← Ny175.out] at ho; have n0_ := Aside0.mk (Kd.R_after (ok := (fun k_ => some k_ ≠ (v168 : Value).ownBlock)) (by (with_reducible repeat (first | apply Kd.R_alloc | apply Kd.R_drewN | apply Kd.R_drew)); exact HO_13.out) hg hat); have n1_ := Aside0.mk (Kd.R_after (ok := (fun k_ => some k_ ≠ (v165 : Value).ownBlock)) (by (with_reducible repeat (first | apply Kd.R_alloc | apply Kd.R_drewN | apply Kd.R_drew)); exact HO_14.out) hg hat); have n2_ := Aside0.mk (hb); have n3_ := Aside0.mk (ho); clear HO_13; clear HO_14; clear HB; clear HO174; have HO_13 := n0_; have HO_14 := n1_; have HB := n2_; have HO177 := n3_; clear n0_ n1_ n2_ n3_; clear ho hb hg hat; obtain ⟨Ao44, co44, eo44⟩ := Kd.R_slice HO_13.out; subst eo44) | ((with_reducible refine gate_builtin (b := .append) (xs := #[.tmp 71, .tmp 72]) rfl ?_); (try (refine gate_guard (by rfl) ?_; dsimp only)); at_builtin; refine Kd.R_append_rows (Kd.int .u8) (w0 := w) w.heap.size rfl (.tmp 71) (.tmp 72) 39 5 (.int .u8 0) 1 rfl Try.underlying39 info5 rfl (by decide) (by omega) v176 y175 t164 _ _ _ (fun k_ => some k_ ≠ (.slice Ao44 t164.length co44 : Value).ownBlock ∧ some k_ ≠ (v168 : Value).ownBlock) (fun _ => False) rfl rfl ?aO ?aR (fun _ _ h => h) (fun _ h => h.elim) ?aF ?aB ?aS ?aL ?_; (case aR => repeat (first | exact (Kd.R_reads' HO_13.out).2.2 | (with_reducible refine Kd.C_alloc ?_ _) | (with_reducible refine Kd.C_drewN ?_ _) | (with_reducible refine Kd.C_drew ?_))); (case aB => exact (by repeat (first | (with_reducible first | exact HB.out | apply below_alloc | apply pw_below_drewN | apply below_drew1) | exact HB.out))); (case aF => exact (fun k_ hk => ⟨Kd.fresh' (Kd.R_lt (by (with_reducible repeat (first | apply Kd.R_alloc | apply Kd.R_drewN | apply Kd.R_drew)); exact HO_13.out)) k_ hk, Kd.fresh' (Kd.R_lt (by (with_reducible repeat (first | apply Kd.R_alloc | apply Kd.R_drewN | apply Kd.R_drew)); exact HO_14.out)) k_ hk⟩)); (case aO => exact (by (with_reducible repeat (first | apply Kd.R_alloc | apply Kd.R_drewN | apply Kd.R_drew)); exact HO177.out)); (case aS => exact (below_size (by repeat (first | (with_reducible first | exact HB.out | apply below_alloc | apply pw_below_drewN | apply below_drew1) | exact HB.out)))); (case aL => have := LMc37.out; omega); intro v179 w43 ho hb hg hat; rw [← Ny178.out] at ho; have n0_ := Aside0.mk (Kd.R_after (ok := (fun k_ => some k_ ≠ (v168 : Value).ownBlock)) (by (with_reducible repeat (first | apply Kd.R_alloc | apply Kd.R_drewN | apply Kd.R_drew)); exact HO_13.out) hg hat); have n1_ := Aside0.mk (Kd.R_after (ok := (fun k_ => some k_ ≠ (.slice Ao44 t164.length co44 : Value).ownBlock)) (by (with_reducible repeat (first | apply Kd.R_alloc | apply Kd.R_drewN | apply Kd.R_drew)); exact HO_14.out) hg hat); have n2_ := Aside0.mk (hb); have n3_ := Aside0.mk (ho); clear HO_13; clear HO_14; clear HB; clear HO177; have HO_13 := n0_; have HO_14 := n1_; have HB := n2_; have HO180 := n3_; clear n0_ n1_ n2_ n3_; clear ho hb hg hat; obtain ⟨Ao45, co45, eo45⟩ := Kd.R_slice HO180.out; subst eo45) | ((with_reducible refine gate_callee (f := 28) rfl ?_); refine goesL_ (some 79) rfl rfl Try.func28 (by kernel_rfl) rfl #[.slice Ao45 y178.length co45, .int .u64 (IntKind.u64.wrap ((l0.length : Int))), .int .i64 (rd y160 (ji9)), .bool a3] rfl (by (try simp only [List.map_toArray, List.map_cons, List.map_nil]); first | done | (simp only [hji9]; rfl) | rfl | (simp only [List.length_drop, List.length_take]; rfl)) ?_; (with_reducible refine (wire_Get.calls k2 _ _ y178 (IntKind.u64.wrap ((l0.length : Int))) (rd y160 (ji9)) a3 t181 t182 _ ?side1 ?side2 A38.out).mono ?_); (case side1 => repeat (first | exact (Kd.R_reads' HO180.out).2.2 | (with_reducible refine Kd.C_alloc ?_ _) | (with_reducible refine Kd.C_drewN ?_ _) | (with_reducible refine Kd.C_drew ?_))); (case side2 => exact (Kd.R_reads' HO180.out).2.1); rintro e w' ⟨rfl, ⟨nd, rfl⟩⟩; refine ⟨_, rfl, ?_⟩))
                        (try simp only [Act.put, List.setIfInBounds_toArray, List.set_cons_zero, List.set_cons_succ])
                        go_cut [92] (fun v92 wc => ∃ (kq : Nat) (x92_38 : Bool), v92 = .bool x92_38 ∧ Aside0 (bezantlaw01_WireTurned.j2 kq l0 a3 a4 t159 (rd y160 (ji9)) x92_38 = some r) ∧ Aside0 (kq ≤ k2) ∧ Aside0 (Below w.heap.size w wc))
                        case first =>
                          have H := HC39.out
                          clear HC39
                          by_cases c46 : t182 = true
                          · subst c46
                            have H1 : ((wire_Fits.f a1 (rd y160 (ji9))).bind fun t183 => (bezantlaw01_WireTurned.j2 k2 l0 a3 a4 t159 (rd y160 (ji9)) ((t181 == a1) != t183))) = some r := by rw [if_pos rfl] at H; exact H
                            clear H
                            have H := H1
                            clear H1
                            replace H := Option.bind_eq_some_iff.mp H
                            obtain ⟨t183, A470, H⟩ := H
                            replace H : (bezantlaw01_WireTurned.j2 k2 l0 a3 a4 t159 (rd y160 (ji9)) ((t181 == a1) != t183)) = some r := H
                            have A47 := Aside0.mk A470
                            clear A470
                            have H' := Aside0.mk H
                            clear H
                            go_wp2_with (first | (go_at_call 32; (with_reducible refine (wire_Fits.calls a1 (rd y160 (ji9)) t183 _ A47.out).mono ?_); rintro e w' ⟨rfl, ⟨nd, rfl⟩⟩))
                            go_meet
                            case rel => exact ⟨_, (((t181 == a1) != t183)), (by first | rfl | (simp; done) | (simp [*]; done)), H', ⟨by have := HJ13.out; have := HK2.out; first | omega | exact Nat.le_refl _⟩, ⟨by repeat (first | (with_reducible first | exact HB.out | apply below_alloc | apply pw_below_drewN | apply below_drew1) | exact HB.out)⟩⟩
                          · replace c46 := Bool.eq_false_iff.mpr c46
                            subst c46
                            have H1 : (bezantlaw01_WireTurned.j2 k2 l0 a3 a4 t159 (rd y160 (ji9)) true) = some r := by rw [if_neg (show ¬ (false = true) by decide)] at H; exact H
                            clear H
                            have H := H1
                            clear H1
                            have H' := Aside0.mk H
                            clear H
                            go_wp2
                            go_meet
                            case rel => exact ⟨_, (true), (by first | rfl | (simp; done) | (simp [*]; done)), H', ⟨by have := HJ13.out; have := HK2.out; first | omega | exact Nat.le_refl _⟩, ⟨by repeat (first | (with_reducible first | exact HB.out | apply below_alloc | apply pw_below_drewN | apply below_drew1) | exact HB.out)⟩⟩
                        case rest =>
                          clear HC39
                          try clear c1
                          try clear p1
                          try clear q1
                          try clear hx1
                          try clear c2
                          try clear p2
                          try clear c3
                          try clear c4
                          try clear p6
                          try clear c7
                          try clear c7b0
                          try clear c7b1
                          try clear c8
                          try clear c10
                          try clear c10b0
                          try clear c11
                          try clear c11b0
                          try clear p16
                          try clear q16
                          try clear hx16
                          try clear p17
                          try clear q17
                          try clear hx17
                          try clear c21
                          try clear c21b0
                          try clear c21b1
                          try clear c25
                          try clear c26
                          try clear c26b0
                          try clear c27
                          try clear c27b0
                          try clear c28
                          try clear c28b0
                          try clear c30
                          try clear c30b0
                          try clear c31
                          try clear c31b0
                          try clear c32
                          try clear c32b0
                          try clear c32b1
                          try clear c36
                          try clear c37
                          try clear c46
                          try clear hx163_0
                          try clear hx170_0
                          try clear hx171_0
                          try clear p1
                          try clear p16
                          try clear p163
                          try clear p170
                          try clear p171
                          try clear p2
                          try clear p6
                          try clear q1
                          try clear q16
                          try clear q163
                          try clear q170
                          try clear q171
                          obtain ⟨kq, x92_38, rfl, HA, HJ38, HB⟩ := hcut
                          cases kq with
                          | zero => exact absurd HA.out (by simp [bezantlaw01_WireTurned.j2])
                          | succ kj38 =>
                            have H := HA.out
                            clear HA
                            simp only [bezantlaw01_WireTurned.j2] at H
                            by_cases c48 : x92_38 = true
                            · subst c48
                              have H1 : (none) = some r := by rw [if_pos rfl] at H; exact H
                              clear H
                              have H := H1
                              clear H1
                              exact absurd H (by simp)
                            · replace c48 := Bool.eq_false_iff.mpr c48
                              subst c48
                              have H1 : ((wire_Get.f kj38 l0 a4 (rd y160 (ji9)) a3).bind fun bt184 => ((wire_Within.f a4 (IntKind.u64.wrap ((rd y160 (ji9)))) (IntKind.u64.wrap ((l0.length : Int)))).bind fun t186 => (if (bt184.2 != t186) = true then (none) else (if bt184.2 = true then (if t159 = true then ((wire_Put.f kj38 bt184.1 (rd y160 (ji9)) a3).bind fun t187 => (if 0 ≤ (wrap64 (a4)) then (if (wrap64 (a4)) ≤ (wrap64 ((wrap64 (a4)) + (rd y160 (ji9)))) then (if (wrap64 ((wrap64 (a4)) + (rd y160 (ji9)))) ≤ (l0.length : Int) then (some ((strOfNums t187).toList == (strOfNums ((l0.take ((wrap64 ((wrap64 (a4)) + (rd y160 (ji9)))) : Int).toNat).drop ((wrap64 (a4)) : Int).toNat)).toList)) else (none)) else (none)) else (none))) else (none)) else (if t159 = true then (some (bt184.1 == 0)) else (none)))))) = some r := by rw [if_neg (show ¬ (false = true) by decide)] at H; exact H
                              clear H
                              have H := H1
                              clear H1
                              replace H := Option.bind_eq_some_iff.mp H
                              obtain ⟨⟨t184, t185⟩, A490, H⟩ := H
                              replace H : ((wire_Within.f a4 (IntKind.u64.wrap ((rd y160 (ji9)))) (IntKind.u64.wrap ((l0.length : Int)))).bind fun t186 => (if (t185 != t186) = true then (none) else (if t185 = true then (if t159 = true then ((wire_Put.f kj38 t184 (rd y160 (ji9)) a3).bind fun t187 => (if 0 ≤ (wrap64 (a4)) then (if (wrap64 (a4)) ≤ (wrap64 ((wrap64 (a4)) + (rd y160 (ji9)))) then (if (wrap64 ((wrap64 (a4)) + (rd y160 (ji9)))) ≤ (l0.length : Int) then (some ((strOfNums t187).toList == (strOfNums ((l0.take ((wrap64 ((wrap64 (a4)) + (rd y160 (ji9)))) : Int).toNat).drop ((wrap64 (a4)) : Int).toNat)).toList)) else (none)) else (none)) else (none))) else (none)) else (if t159 = true then (some (t184 == 0)) else (none))))) = some r := H
                              have A49 := Aside0.mk A490
                              clear A490
                              replace H := Option.bind_eq_some_iff.mp H
                              obtain ⟨t186, A500, H⟩ := H
                              replace H : (if (t185 != t186) = true then (none) else (if t185 = true then (if t159 = true then ((wire_Put.f kj38 t184 (rd y160 (ji9)) a3).bind fun t187 => (if 0 ≤ (wrap64 (a4)) then (if (wrap64 (a4)) ≤ (wrap64 ((wrap64 (a4)) + (rd y160 (ji9)))) then (if (wrap64 ((wrap64 (a4)) + (rd y160 (ji9)))) ≤ (l0.length : Int) then (some ((strOfNums t187).toList == (strOfNums ((l0.take ((wrap64 ((wrap64 (a4)) + (rd y160 (ji9)))) : Int).toNat).drop ((wrap64 (a4)) : Int).toNat)).toList)) else (none)) else (none)) else (none))) else (none)) else (if t159 = true then (some (t184 == 0)) else (none)))) = some r := H
                              have A50 := Aside0.mk A500
                              clear A500
                              by_cases c51 : (t185 != t186) = true
                              · rw [if_pos c51] at H
                                exact absurd H (by simp)
                              · rw [if_neg c51] at H
                                have c51b0 : (t185 != t186) = false := by simpa using c51
                                (try (have c51b1 : decide (t185 = t186) = true := by simpa using c51))
                                (try (have c51b2 : (t185 == t186) = true := by simpa using c51))
                                clear c51
                                by_cases c52 : t185 = true
                                · subst c52
                                  have H1 : (if t159 = true then ((wire_Put.f kj38 t184 (rd y160 (ji9)) a3).bind fun t187 => (if 0 ≤ (wrap64 (a4)) then (if (wrap64 (a4)) ≤ (wrap64 ((wrap64 (a4)) + (rd y160 (ji9)))) then (if (wrap64 ((wrap64 (a4)) + (rd y160 (ji9)))) ≤ (l0.length : Int) then (some ((strOfNums t187).toList == (strOfNums ((l0.take ((wrap64 ((wrap64 (a4)) + (rd y160 (ji9)))) : Int).toNat).drop ((wrap64 (a4)) : Int).toNat)).toList)) else (none)) else (none)) else (none))) else (none)) = some r := by rw [if_pos rfl] at H; exact H
                                  clear H
                                  have H := H1
                                  clear H1
                                  by_cases c53 : t159 = true
                                  · subst c53
                                    have H1 : ((wire_Put.f kj38 t184 (rd y160 (ji9)) a3).bind fun t187 => (if 0 ≤ (wrap64 (a4)) then (if (wrap64 (a4)) ≤ (wrap64 ((wrap64 (a4)) + (rd y160 (ji9)))) then (if (wrap64 ((wrap64 (a4)) + (rd y160 (ji9)))) ≤ (l0.length : Int) then (some ((strOfNums t187).toList == (strOfNums ((l0.take ((wrap64 ((wrap64 (a4)) + (rd y160 (ji9)))) : Int).toNat).drop ((wrap64 (a4)) : Int).toNat)).toList)) else (none)) else (none)) else (none))) = some r := by rw [if_pos rfl] at H; exact H
                                    clear H
                                    have H := H1
                                    clear H1
                                    replace H := Option.bind_eq_some_iff.mp H
                                    obtain ⟨t187, A540, H⟩ := H
                                    replace H : (if 0 ≤ (wrap64 (a4)) then (if (wrap64 (a4)) ≤ (wrap64 ((wrap64 (a4)) + (rd y160 (ji9)))) then (if (wrap64 ((wrap64 (a4)) + (rd y160 (ji9)))) ≤ (l0.length : Int) then (some ((strOfNums t187).toList == (strOfNums ((l0.take ((wrap64 ((wrap64 (a4)) + (rd y160 (ji9)))) : Int).toNat).drop ((wrap64 (a4)) : Int).toNat)).toList)) else (none)) else (none)) else (none)) = some r := H
                                    have A54 := Aside0.mk A540
                                    clear A540
                                    obtain ⟨ji55, hji55⟩ : ∃ j_ : Int, (wrap64 (a4)) = j_ := ⟨_, rfl⟩
                                    replace H : (if 0 ≤ (ji55) then (if (ji55) ≤ (wrap64 ((ji55) + (rd y160 (ji9)))) then (if (wrap64 ((ji55) + (rd y160 (ji9)))) ≤ (l0.length : Int) then (some ((strOfNums t187).toList == (strOfNums ((l0.take ((wrap64 ((ji55) + (rd y160 (ji9)))) : Int).toNat).drop ((ji55) : Int).toNat)).toList)) else (none)) else (none)) else (none)) = some r := by first | (rw [hji55] at H; exact H) | (simp only [hji55] at H ⊢; exact H)
                                    (try rw [hji55] at A49)
                                    (try rw [hji55] at A50)
                                    (try rw [hji55] at A54)
                                    have hji55w : (IntKind.i64.wrap (a4)) = ji55 := (i64_w _).trans hji55
                                    by_cases c56 : 0 ≤ (ji55)
                                    · rw [if_pos c56] at H
                                      have c56b0 := eq_true c56
                                      have c56b1 : decide (0 ≤ (ji55)) = true := decide_eq_true c56
                                      clear c56
                                      by_cases c57 : (ji55) ≤ (wrap64 ((ji55) + (rd y160 (ji9))))
                                      · rw [if_pos c57] at H
                                        have c57b0 := eq_true c57
                                        have c57b1 : decide ((ji55) ≤ (wrap64 ((ji55) + (rd y160 (ji9))))) = true := decide_eq_true c57
                                        by_cases c58 : (wrap64 ((ji55) + (rd y160 (ji9)))) ≤ (l0.length : Int)
                                        · rw [if_pos c58] at H
                                          have c58b0 := eq_true c58
                                          have c58b1 : decide ((wrap64 ((ji55) + (rd y160 (ji9)))) ≤ (l0.length : Int)) = true := decide_eq_true c58
                                          obtain rfl := Option.some.inj H
                                          try go_wp2_with (first | ((with_reducible refine gate_callee (f := 28) rfl ?_); refine goesL_ (some 98) rfl rfl Try.func28 (by kernel_rfl) rfl #[.slice A0 l0.length c0, .int .u64 a4, .int .i64 (rd y160 (ji9)), .bool a3] rfl (by (try simp only [List.map_toArray, List.map_cons, List.map_nil]); first | done | (simp only [hji9]; rfl) | rfl | (simp only [List.length_drop, List.length_take]; rfl)) ?_; (with_reducible refine (wire_Get.calls kj38 _ _ l0 a4 (rd y160 (ji9)) a3 t184 true _ ?side1 ?side2 A49.out).mono ?_); (case side1 => repeat (first | exact (Kd.C_below HR0.out HB.out) | (with_reducible refine Kd.C_alloc ?_ _) | (with_reducible refine Kd.C_drewN ?_ _) | (with_reducible refine Kd.C_drew ?_))); (case side2 => exact HC0.out); rintro e w' ⟨rfl, ⟨nd, rfl⟩⟩; refine ⟨_, rfl, ?_⟩) | ((with_reducible refine gate_callee (f := 34) rfl ?_); refine goesL_ (some 108) rfl rfl Try.func34 (by kernel_rfl) rfl #[.int .u64 a4, .int .u64 (IntKind.u64.wrap ((rd y160 (ji9)))), .int .u64 (IntKind.u64.wrap ((l0.length : Int)))] rfl (by (try simp only [List.map_toArray, List.map_cons, List.map_nil]); first | done | (simp only [hji9]; rfl) | rfl | (simp only [List.length_drop, List.length_take]; rfl)) ?_; (with_reducible refine (wire_Within.calls a4 (IntKind.u64.wrap ((rd y160 (ji9)))) (IntKind.u64.wrap ((l0.length : Int))) t186 _ A50.out).mono ?_); rintro e w' ⟨rfl, ⟨nd, rfl⟩⟩; refine ⟨_, rfl, ?_⟩))
                                          (try (rw [drewN_self wc]; generalize hq_ : World.drewN wc _ = wc; have n0_ : Aside0 (Below w.heap.size w wc) := ⟨by rw [← hq_]; exact (by repeat (first | (with_reducible first | exact HB.out | apply below_alloc | apply pw_below_drewN | apply below_drew1) | exact HB.out))⟩; clear HB hq_; have HB := n0_; clear n0_))
                                          have n0_ := Aside0.mk (below_drew1 HB.out)
                                          clear HB
                                          have HB := n0_
                                          clear n0_
                                          obtain ⟨i060, hi060, _, hsz60, _⟩ := info_parts info5
                                          have hL60 : ((l0.take ((wrap64 ((ji55) + (rd y160 (ji9)))) : Int).toNat).drop ((ji55) : Int).toNat).length = ((wrap64 ((ji55) + (rd y160 (ji9)))) : Int).toNat - ((ji55) : Int).toNat := by have h_ : (wrap64 ((ji55) + (rd y160 (ji9)))) ≤ (l0.length : Int) := (of_decide_eq_true (by first | (with_reducible assumption) | assumption)); rw [List.length_drop, List.length_take]; omega
                                          obtain ⟨A60, hcut60, hA60, hC60⟩ := print_mid_of (P := Try.prog) (Value.int .u8) 0 39 5 .i64 .i64 Try.underlying39 hi060 hsz60 A0 c0 l0 (ji55) (wrap64 ((ji55) + (rd y160 (ji9)))) (of_decide_eq_true (by first | (with_reducible assumption) | assumption)) (by first | omega | exact of_decide_eq_true (by first | (with_reducible assumption) | assumption)) (of_decide_eq_true (by first | (with_reducible assumption) | assumption)) HC0.out
                                          have HR190 := Aside0.mk (Kd.C_of_reads (h1 := fun _ => rfl) (hA60 _ (Kd.reads_of_C HR0.out)))
                                          have HC190 := Aside0.mk hC60
                                          clear hA60 hC60 hi060 hsz60
                                          refine start_ (n := 19) (S := fun w' => Kd.C (Kd.int .u8) w' A60 (((l0.take ((wrap64 ((ji55) + (rd y160 (ji9)))) : Int).toNat).drop ((ji55) : Int).toNat)).length ((l0.take ((wrap64 ((ji55) + (rd y160 (ji9)))) : Int).toNat).drop ((ji55) : Int).toNat)) (ds := []) #[false, false, false, false, false, false, false, false, false, false, false, false, false, false, false, false, false, false, false] (by kernel_rfl) rfl rfl (Kd.C_below HR190.out HB.out) (fun hHeld => ?_); refine with_tabW bezantlaw01_WireTurned.tab22 bezantlaw01_WireTurned.bits22 (fun HT_ HW_ => ?_)
                                          generalize wc.drew = w59 at HB HR190 hHeld ⊢
                                          refine pure_ (i := 0) (N := some 117) (v := ?_) (a' := ?_) #[true, false, false, false, false, false, false, false, false, false, false, false, false, false, false, false, false, false, false] rfl rfl (any_of HT_.out (by kernel_rfl)) (fun _ _ _ h => h) (Or.inl ⟨by rfl, ?_⟩) ?_ ?_
                                          rotate_left
                                          · intro w'
                                            go_simp
                                            with_reducible rfl
                                          rotate_left
                                          · simp only [Act.put, List.setIfInBounds_toArray, List.set_cons_zero, List.set_cons_succ, i64_w, i32_w]
                                            rfl
                                          refine pure_ (i := 1) (N := some 118) (v := ?_) (a' := ?_) #[true, true, false, false, false, false, false, false, false, false, false, false, false, false, false, false, false, false, false] rfl rfl (any_of HT_.out (by kernel_rfl)) (fun _ _ _ h => h) (Or.inl ⟨by rfl, ?_⟩) ?_ ?_
                                          rotate_left
                                          · intro w'
                                            go_simp
                                            with_reducible rfl
                                          rotate_left
                                          · simp only [Act.put, List.setIfInBounds_toArray, List.set_cons_zero, List.set_cons_succ, i64_w, i32_w]
                                            rfl
                                          refine pure_ (i := 2) (N := some 119) (v := ?_) (a' := ?_) #[true, true, true, false, false, false, false, false, false, false, false, false, false, false, false, false, false, false, false] rfl rfl (any_of HT_.out (by kernel_rfl)) (fun _ _ _ h => h) (Or.inl ⟨by rfl, ?_⟩) ?_ ?_
                                          rotate_left
                                          · intro w'
                                            go_simp
                                            with_reducible rfl
                                          rotate_left
                                          · simp only [Act.put, List.setIfInBounds_toArray, List.set_cons_zero, List.set_cons_succ, i64_w, i32_w]
                                            rfl
                                          refine pure_ (i := 3) (N := some 120) (v := ?_) (a' := ?_) #[true, true, true, true, false, false, false, false, false, false, false, false, false, false, false, false, false, false, false] rfl rfl (any_of HT_.out (by kernel_rfl)) (fun _ _ _ h => h) (Or.inl ⟨by rfl, ?_⟩) ?_ ?_
                                          rotate_left
                                          · intro w'
                                            go_simp
                                            with_reducible rfl
                                          rotate_left
                                          · simp only [Act.put, List.setIfInBounds_toArray, List.set_cons_zero, List.set_cons_succ, i64_w, i32_w]
                                            rfl
                                          refine pure_ (i := 4) (N := some 121) (v := ?_) (a' := ?_) #[true, true, true, true, true, false, false, false, false, false, false, false, false, false, false, false, false, false, false] rfl rfl (any_of HT_.out (by kernel_rfl)) (fun _ _ _ h => h) (Or.inl ⟨by rfl, ?_⟩) ?_ ?_
                                          rotate_left
                                          · intro w'
                                            go_simp
                                            with_reducible rfl
                                          rotate_left
                                          · simp only [Act.put, List.setIfInBounds_toArray, List.set_cons_zero, List.set_cons_succ, i64_w, i32_w]
                                            rfl
                                          refine pure_ (i := 7) (N := some 124) (v := ?_) (a' := ?_) #[true, true, true, true, true, false, false, true, false, false, false, false, false, false, false, false, false, false, false] rfl rfl (any_of HT_.out (by kernel_rfl)) (fun _ _ _ h => h) (Or.inl ⟨by rfl, ?_⟩) ?_ ?_
                                          rotate_left
                                          · intro w'
                                            go_simp
                                            with_reducible rfl
                                          rotate_left
                                          · simp only [Act.put, List.setIfInBounds_toArray, List.set_cons_zero, List.set_cons_succ, i64_w, i32_w]
                                            rfl
                                          refine pure_ (i := 8) (N := some 125) (v := ?_) (a' := ?_) #[true, true, true, true, true, false, false, true, true, false, false, false, false, false, false, false, false, false, false] rfl rfl (any_of HT_.out (by kernel_rfl)) (fun _ _ _ h => h) (Or.inl ⟨by rfl, ?_⟩) ?_ ?_
                                          rotate_left
                                          · intro w'
                                            go_simp
                                            with_reducible rfl
                                          rotate_left
                                          · simp only [Act.put, List.setIfInBounds_toArray, List.set_cons_zero, List.set_cons_succ, i64_w, i32_w]
                                            rfl
                                          refine pure_ (i := 9) (N := some 126) (v := ?_) (a' := ?_) #[true, true, true, true, true, false, false, true, true, true, false, false, false, false, false, false, false, false, false] rfl rfl (any_of HT_.out (by kernel_rfl)) (fun _ _ _ h => h) (Or.inl ⟨by rfl, ?_⟩) ?_ ?_
                                          rotate_left
                                          · intro w'
                                            go_simp
                                            with_reducible rfl
                                          rotate_left
                                          · simp only [Act.put, List.setIfInBounds_toArray, List.set_cons_zero, List.set_cons_succ, i64_w, i32_w]
                                            rfl
                                          refine pure_ (i := 10) (N := some 127) (v := ?_) (a' := ?_) #[true, true, true, true, true, false, false, true, true, true, true, false, false, false, false, false, false, false, false] rfl rfl (any_of HT_.out (by kernel_rfl)) (fun _ _ _ h => h) (Or.inl ⟨by rfl, ?_⟩) ?_ ?_
                                          rotate_left
                                          · intro w'
                                            go_simp
                                            with_reducible rfl
                                          rotate_left
                                          · simp only [Act.put, List.setIfInBounds_toArray, List.set_cons_zero, List.set_cons_succ, i64_w, i32_w]
                                            rfl
                                          refine pure_ (i := 11) (N := some 128) (v := ?_) (a' := ?_) #[true, true, true, true, true, false, false, true, true, true, true, true, false, false, false, false, false, false, false] rfl rfl (any_of HT_.out (by kernel_rfl)) (fun _ _ _ h => h) (Or.inl ⟨by rfl, ?_⟩) ?_ ?_
                                          rotate_left
                                          · intro w'
                                            go_simp
                                            with_reducible rfl
                                          rotate_left
                                          · simp only [Act.put, List.setIfInBounds_toArray, List.set_cons_zero, List.set_cons_succ, i64_w, i32_w]
                                            rfl
                                          refine pure_ (i := 12) (N := some 129) (v := ?_) (a' := ?_) #[true, true, true, true, true, false, false, true, true, true, true, true, true, false, false, false, false, false, false] rfl rfl (any_of HT_.out (by kernel_rfl)) (fun _ _ _ h => h) (Or.inl ⟨by rfl, ?_⟩) ?_ ?_
                                          rotate_left
                                          · intro w'
                                            go_simp
                                            with_reducible rfl
                                          rotate_left
                                          · simp only [Act.put, List.setIfInBounds_toArray, List.set_cons_zero, List.set_cons_succ, i64_w, i32_w]
                                            rfl
                                          refine pure_ (i := 13) (N := some 130) (v := ?_) (a' := ?_) #[true, true, true, true, true, false, false, true, true, true, true, true, true, true, false, false, false, false, false] rfl rfl (any_of HT_.out (by kernel_rfl)) (fun _ _ _ h => h) (Or.inl ⟨by rfl, ?_⟩) ?_ ?_
                                          rotate_left
                                          · intro w'
                                            go_simp
                                            with_reducible rfl
                                          rotate_left
                                          · simp only [Act.put, List.setIfInBounds_toArray, List.set_cons_zero, List.set_cons_succ, i64_w, i32_w]
                                            rfl
                                          refine pure_ (i := 14) (N := some 131) (v := ?_) (a' := ?_) #[true, true, true, true, true, false, false, true, true, true, true, true, true, true, true, false, false, false, false] rfl rfl (any_of HT_.out (by kernel_rfl)) (fun _ _ _ h => h) (Or.inl ⟨by rfl, ?_⟩) ?_ ?_
                                          rotate_left
                                          · intro w'
                                            go_simp
                                            with_reducible rfl
                                          rotate_left
                                          · simp only [Act.put, List.setIfInBounds_toArray, List.set_cons_zero, List.set_cons_succ, i64_w, i32_w]
                                            rfl
                                          refine take_ (i := 15) (N := some 132) (v := ?_) (a' := ?_) #[true, true, true, true, true, false, false, true, true, true, true, true, true, true, true, true, false, false, false] rfl rfl (take_ofW HT_.out HW_.out (by kernel_rfl)) (fun _ _ _ h => h) (Or.inl ⟨by rfl, ?_⟩) hHeld ?_ ?_
                                          rotate_left
                                          · intro w' s0
                                            have hcv := Kd.C_string (P := Try.prog) (A := A60) (c := (c0 - (ji55).toNat)) Try.underlying39 Try.underlying5 Try.underlying9 s0
                                            rw [hL60] at hcv
                                            clear s0
                                            go_simp
                                            with_reducible rfl
                                          rotate_left
                                          · simp only [Act.put, List.setIfInBounds_toArray, List.set_cons_zero, List.set_cons_succ, i64_w, i32_w]
                                            rfl
                                          refine one_ (i := 5) (N := some 122) #[true, true, true, true, true, true, false, true, true, true, true, true, true, true, true, true, false, false, false] rfl rfl (one_of HT_.out (by kernel_rfl)) (by decide) (fun K hK => ?_)
                                          refine goes_ Try.func30 (by kernel_rfl) rfl #[.int .u64 t184, .int .i64 (rd y160 (ji9)), .bool a3] (by rfl) rfl rfl (by (try simp only [List.map_toArray, List.map_cons, List.map_nil]); first | done | (simp only [hji9]; rfl) | rfl | (simp only [List.length_drop, List.length_take]; rfl)) ?_
                                          with_reducible refine (wire_Put.calls kj38 t184 (rd y160 (ji9)) a3 t187 _ A54.out).mono ?_
                                          rintro e w61 ⟨v188, rfl, ho0, hb⟩
                                          refine ⟨_, rfl, ?_⟩
                                          have n0_ := Aside0.mk (Kd.R_lower ho0 (below_size (by repeat (first | (with_reducible first | exact HB.out | apply below_alloc | apply pw_below_drewN | apply below_drew1) | exact HB.out))))
                                          have n1_ := Aside0.mk (below_step (by repeat (first | (with_reducible first | exact HB.out | apply below_alloc | apply pw_below_drewN | apply below_drew1) | exact HB.out)) hb)
                                          clear HB
                                          have HO189 := n0_
                                          have HB := n1_
                                          clear n0_ n1_
                                          (try clear hb)
                                          (try clear hb2)
                                          (try clear hk)
                                          (try clear hi)
                                          (try clear ho0)
                                          have hcv63 := Kd.C_string (P := Try.prog) (A := A60) (c := (c0 - (ji55).toNat)) Try.underlying39 Try.underlying5 Try.underlying9 (Kd.C_below HR190.out HB.out)
                                          (try rw [hL60] at hcv63)
                                          refine hK.out _ _ (Kd.C_below HR190.out HB.out) (fun hHeld => ?_)
                                          clear hK K
                                          refine norm_ (a' := ?_) ?_ ?_
                                          rotate_left
                                          · show Act.put _ (some 122) _ = _
                                            simp only [Act.put, List.setIfInBounds_toArray, List.set_cons_zero, List.set_cons_succ, i64_w, i32_w]
                                            rfl
                                          refine one_ (i := 6) (N := some 123) #[true, true, true, true, true, true, true, true, true, true, true, true, true, true, true, true, false, false, false] rfl rfl (one_of HT_.out (by kernel_rfl)) (by decide) (fun K hK => ?_)
                                          have hcv62 := own_string (P := Try.prog) Try.underlying39 Try.underlying5 Try.underlying9 (Kd.own_of_R HO189.out)
                                          refine value_ (w1 := ?_) (v := ?_) (by rfl) rfl ?_ ?_
                                          rotate_left 2
                                          · go_simp
                                            constructor
                                            · rfl
                                            · rfl
                                          clear hcv62
                                          refine hK.out _ _ (Kd.C_below HR190.out HB.out) (fun hHeld => ?_)
                                          clear hK K
                                          refine norm_ (a' := ?_) ?_ ?_
                                          rotate_left
                                          · show Act.put _ (some 123) _ = _
                                            simp only [Act.put, List.setIfInBounds_toArray, List.set_cons_zero, List.set_cons_succ, i64_w, i32_w]
                                            rfl
                                          refine pure_ (i := 16) (N := some 133) (v := ?_) (a' := ?_) #[true, true, true, true, true, true, true, true, true, true, true, true, true, true, true, true, true, false, false] rfl rfl (any_of HT_.out (by kernel_rfl)) (fun _ _ _ h => h) (Or.inl ⟨by rfl, ?_⟩) ?_ ?_
                                          rotate_left
                                          · intro w'
                                            go_simp
                                            with_reducible rfl
                                          rotate_left
                                          · simp only [Act.put, List.setIfInBounds_toArray, List.set_cons_zero, List.set_cons_succ, i64_w, i32_w]
                                            rfl
                                          refine pure_ (i := 17) (N := some 134) (v := ?_) (a' := ?_) #[true, true, true, true, true, true, true, true, true, true, true, true, true, true, true, true, true, true, false] rfl rfl (any_of HT_.out (by kernel_rfl)) (fun _ _ _ h => h) (Or.inl ⟨by rfl, ?_⟩) ?_ ?_
                                          rotate_left
                                          · intro w'
                                            go_simp
                                            with_reducible rfl
                                          rotate_left
                                          · simp only [Act.put, List.setIfInBounds_toArray, List.set_cons_zero, List.set_cons_succ, i64_w, i32_w]
                                            rfl
                                          refine pure_ (i := 18) (N := some 10) (v := ?_) (a' := ?_) #[true, true, true, true, true, true, true, true, true, true, true, true, true, true, true, true, true, true, true] rfl rfl (any_of HT_.out (by kernel_rfl)) (fun _ _ _ h => h) (Or.inl ⟨by rfl, ?_⟩) ?_ ?_
                                          rotate_left
                                          · intro w'
                                            go_simp
                                            with_reducible rfl
                                          rotate_left
                                          · simp only [Act.put, List.setIfInBounds_toArray, List.set_cons_zero, List.set_cons_succ, i64_w, i32_w]
                                            rfl
                                          refine done_ (done_of HT_.out (by kernel_rfl)) ?_
                                          try go_wp2
                                          go_ret
                                          exact ⟨by first | rfl | (simp [errW_none, errW_some] <;> rfl) | (simp only [← hji9, ← hji55]; first | rfl | (simp [errW_none, errW_some] <;> rfl)) | (simp [*, errW_none, errW_some] <;> rfl), by repeat (first | (with_reducible first | exact HB.out | apply below_alloc | apply pw_below_drewN | apply below_drew1) | exact HB.out)⟩
                                        · rw [if_neg c58] at H
                                          exact absurd H (by simp)
                                      · rw [if_neg c57] at H
                                        exact absurd H (by simp)
                                    · rw [if_neg c56] at H
                                      exact absurd H (by simp)
                                  · replace c53 := Bool.eq_false_iff.mpr c53
                                    subst c53
                                    have H1 : (none) = some r := by rw [if_neg (show ¬ (false = true) by decide)] at H; exact H
                                    clear H
                                    have H := H1
                                    clear H1
                                    exact absurd H (by simp)
                                · replace c52 := Bool.eq_false_iff.mpr c52
                                  subst c52
                                  have H1 : (if t159 = true then (some (t184 == 0)) else (none)) = some r := by rw [if_neg (show ¬ (false = true) by decide)] at H; exact H
                                  clear H
                                  have H := H1
                                  clear H1
                                  by_cases c65 : t159 = true
                                  · subst c65
                                    have H1 : (some (t184 == 0)) = some r := by rw [if_pos rfl] at H; exact H
                                    clear H
                                    have H := H1
                                    clear H1
                                    obtain rfl := Option.some.inj H
                                    go_wp2_with (first | ((with_reducible refine gate_callee (f := 28) rfl ?_); refine goesL_ (some 98) rfl rfl Try.func28 (by kernel_rfl) rfl #[.slice A0 l0.length c0, .int .u64 a4, .int .i64 (rd y160 (ji9)), .bool a3] rfl (by (try simp only [List.map_toArray, List.map_cons, List.map_nil]); first | done | (simp only [hji9]; rfl) | rfl | (simp only [List.length_drop, List.length_take]; rfl)) ?_; (with_reducible refine (wire_Get.calls kj38 _ _ l0 a4 (rd y160 (ji9)) a3 t184 false _ ?side1 ?side2 A49.out).mono ?_); (case side1 => repeat (first | exact (Kd.C_below HR0.out HB.out) | (with_reducible refine Kd.C_alloc ?_ _) | (with_reducible refine Kd.C_drewN ?_ _) | (with_reducible refine Kd.C_drew ?_))); (case side2 => exact HC0.out); rintro e w' ⟨rfl, ⟨nd, rfl⟩⟩; refine ⟨_, rfl, ?_⟩) | ((with_reducible refine gate_callee (f := 34) rfl ?_); refine goesL_ (some 108) rfl rfl Try.func34 (by kernel_rfl) rfl #[.int .u64 a4, .int .u64 (IntKind.u64.wrap ((rd y160 (ji9)))), .int .u64 (IntKind.u64.wrap ((l0.length : Int)))] rfl (by (try simp only [List.map_toArray, List.map_cons, List.map_nil]); first | done | (simp only [hji9]; rfl) | rfl | (simp only [List.length_drop, List.length_take]; rfl)) ?_; (with_reducible refine (wire_Within.calls a4 (IntKind.u64.wrap ((rd y160 (ji9)))) (IntKind.u64.wrap ((l0.length : Int))) t186 _ A50.out).mono ?_); rintro e w' ⟨rfl, ⟨nd, rfl⟩⟩; refine ⟨_, rfl, ?_⟩))
                                    go_ret
                                    exact ⟨by first | rfl | (simp [errW_none, errW_some] <;> rfl) | (simp only [← hji9]; first | rfl | (simp [errW_none, errW_some] <;> rfl)) | (simp [*, errW_none, errW_some] <;> rfl), by repeat (first | (with_reducible first | exact HB.out | apply below_alloc | apply pw_below_drewN | apply below_drew1) | exact HB.out)⟩
                                  · replace c65 := Bool.eq_false_iff.mpr c65
                                    subst c65
                                    have H1 : (none) = some r := by rw [if_neg (show ¬ (false = true) by decide)] at H; exact H
                                    clear H
                                    have H := H1
                                    clear H1
                                    exact absurd H (by simp)
                      · rw [if_neg c37] at H
                        exact absurd H (by simp)
                    · rw [if_neg c36] at H
                      exact absurd H (by simp)
      · rw [if_neg c11] at H
        exact absurd H (by simp)
    · rw [if_neg c10] at H
      exact absurd H (by simp)

/-- THE ONE PURE STATEMENT of bezantlaw01_WireTurned: yours. -/
def bezantlaw01_WireTurned.Pure : Prop := ∀ (l0 : List Int) (a1 : Int) (a2 : Int) (a3 : Bool) (a4 : Int), l0.length ≤ maxLen → l0.length * 1 ≤ 140737488351232 → (∀ x ∈ l0, (Lit.int .u8 x).wf = true) → (Lit.int .u64 a1).wf = true → (Lit.int .i64 a2).wf = true → (Lit.int .u64 a4).wf = true → ∃ k, bezantlaw01_WireTurned.f k l0 a1 a2 a3 a4 = some true
theorem bezantlaw01_WireTurned.walk (P : bezantlaw01_WireTurned.Pure) (a0 : Option Addr) (len0 cap0 : Nat) (z0 : List Int) (a1 : Int) (a2 : Int) (a3 : Bool) (a4 : Int) (w : World) (w0 : (a0 = none ∧ len0 = 0 ∧ cap0 = 0 ∧ z0 = []) ∨ ∃ x, a0 = some x ∧ len0 ≤ cap0 ∧ cap0 ≤ maxLen ∧ z0.length = cap0 ∧ (∀ i, i < z0.length → w.cell? (x.add i) = some (.int .u8 (z0.getD i 0))) ∧ ∀ n ∈ z0, (Lit.int .u8 n).wf = true) (y0 : len0 * 1 ≤ 140737488351232) (w1 : (Lit.int .u64 a1).wf = true) (w2 : (Lit.int .i64 a2).wf = true) (w4 : (Lit.int .u64 a4).wf = true) :
    Calls Try.prog 8 #[.slice a0 len0 cap0, .int .u64 a1, .int .i64 a2, .bool a3, .int .u64 a4] w fun e w' => e = .returned (.bool true) ∧ Below w.heap.size w w' := by
  obtain ⟨l0, rfl, hr0, hm0, hw0, hc0⟩ := ReadsInt.ofRowC w0
  obtain ⟨k, h⟩ := P l0 a1 a2 a3 a4 hm0 y0 hw0 w1 w2 w4
  refine (bezantlaw01_WireTurned.calls k _ _ l0 a1 a2 a3 a4 true w (Kd.C_of_reads (d := (0 : Int)) (h1 := fun _ => rfl) hr0) hc0 h).mono ?_
  rintro e w' ⟨rfl, hd⟩
  exact ⟨rfl, hd⟩

end Go.Proofs.Yteohkpfacjjaeaa.MWire

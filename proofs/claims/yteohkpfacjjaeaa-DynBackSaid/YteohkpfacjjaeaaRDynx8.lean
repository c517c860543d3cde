/- Functions told by the kit's print as plain Lean functions, and that the code comes to what they tell; set right by fixprint.py where the printed text fell. -/
/- Functions told by our printer (out of the kit's) as plain Lean functions, and that the code comes to what they tell: no statement of the set is proved in this text. -/
import Derived.Test.YteohkpfacjjaeaaQDynx0
import Derived.Test.YteohkpfacjjaeaaRDynx1
import Derived.Test.YteohkpfacjjaeaaRDynx2
import Derived.Test.YteohkpfacjjaeaaRDynx4
import Derived.Test.YteohkpfacjjaeaaRDynx6
import Derived.Test.YteohkpfacjjaeaaRDynx7
namespace Go.Proofs.Yteohkpfacjjaeaa.QDyn
open Go.RowKit Go.Proofs.YteohkpfacjjaeaaW.PrintWords Go.Proofs.YteohkpfacjjaeaaW.PrintLast Go.Proofs.YteohkpfacjjaeaaW.PrintMore
attribute [local go_sem] max2_int min2_int max_two min_two max_three min_three max_four min_four   -- for this text's walks alone
set_option linter.unusedVariables false
set_option linter.unusedSimpArgs false

attribute [local go_sem high] eqA73
/-! ### bezantlaw10_same: function 44 -/
def bezantlaw10_same.l0 : Nat → List (S73) → List (S73) → Int → Option (Int)
  | 0, _, _, _ => none
  | k + 1, x0, x1, x5 => if x5 < (x0.length : Int) then (if 0 ≤ x5 then (if x5 < (x1.length : Int) then (if (!(((rd_T73 x0 x5).f0) == ((rd_T73 x1 x5).f0)) || (!(((rd_T73 x0 x5).f1) == ((rd_T73 x1 x5).f1)))) = true then (some 0) else (bezantlaw10_same.l0 k x0 x1 (wrap64 (x5 + 1)))) else (none)) else (none)) else (some 1)
def bezantlaw10_same.f (k : Nat) (l0 : List (S73)) (l1 : List (S73)) : Option (Int) := if (l0.length : Int) = (l1.length : Int) then (bezantlaw10_same.l0 k l0 l1 0) else (some 0)
theorem bezantlaw10_same.mono_l : ∀ k, (∀ y0 y1 y2, LeO (bezantlaw10_same.l0 k y0 y1 y2) (bezantlaw10_same.l0 (k + 1) y0 y1 y2))
  | 0 => fun _ _ _ r h => by simp [bezantlaw10_same.l0] at h
  | k + 1 => by
    have ih0 := bezantlaw10_same.mono_l k
    · intro y0 y1 y2
      unfold bezantlaw10_same.l0
      repeat' first
      | (with_reducible exact ih0 _ _ _)
      | (with_reducible exact LeO.refl _)
      | (with_reducible exact LeO.none _)
      | (with_reducible refine LeO.ite ?_ ?_)
      | (with_reducible refine LeO.bind ?_ (fun _ => ?_))
      | exact ih0 _ _ _
      | exact LeO.none _
      | refine LeO.ite ?_ ?_
      | refine LeO.bind ?_ (fun _ => ?_)
theorem bezantlaw10_same.mono : ∀ a0 a1 k, LeO (bezantlaw10_same.f k a0 a1) (bezantlaw10_same.f (k + 1) a0 a1) := by
  intro a0 a1 k
  have ih0 := bezantlaw10_same.mono_l k
  unfold bezantlaw10_same.f
  repeat' first
      | (with_reducible exact ih0 _ _ _)
      | (with_reducible exact LeO.refl _)
      | (with_reducible exact LeO.none _)
      | (with_reducible refine LeO.ite ?_ ?_)
      | (with_reducible refine LeO.bind ?_ (fun _ => ?_))
      | exact ih0 _ _ _
      | exact LeO.none _
      | refine LeO.ite ?_ ?_
      | refine LeO.bind ?_ (fun _ => ?_)
set_option maxHeartbeats 8000000 in
set_option maxRecDepth 100000 in
theorem bezantlaw10_same.calls (k : Nat) (A0 : Option Addr) (c0 : Nat) (l0 : List (S73)) (A1 : Option Addr) (c1 : Nat) (l1 : List (S73)) (r : Int) (w : World) (hr0 : Kd.C k73 w A0 l0.length l0) (hc0 : l0.length ≤ c0) (hr1 : Kd.C k73 w A1 l1.length l1) (hc1 : l1.length ≤ c1) (h : bezantlaw10_same.f k l0 l1 = some r) :
    Calls Try.prog 44 #[.slice A0 l0.length c0, .slice A1 l1.length c1] w fun e w' => e = .returned (.int .i64 r) ∧ Drawn0 w w' := by
  have hu73 := Try.underlying73
  have HR0 := Aside0.mk hr0
  have HC0 := Aside0.mk hc0
  clear hr0 hc0
  have HR1 := Aside0.mk hr1
  have HC1 := Aside0.mk hc1
  clear hr1 hc1
  have H : (if (l0.length : Int) = (l1.length : Int) then (bezantlaw10_same.l0 k l0 l1 0) else (some 0)) = some r := h
  clear h
  by_cases c3 : (l0.length : Int) = (l1.length : Int)
  · rw [if_pos c3] at H
    have c3b0 : ((l0.length : Int) == (l1.length : Int)) = true := beq_iff_eq.mpr c3
    have c3b1 : ((l0.length : Int) != (l1.length : Int)) = false := bne_eq_false_iff_eq.mpr c3
    have c3b2 : (l0.length == l1.length) = true := by first | simpa using c3 | (simp at c3 ⊢; omega)
    clear c3
    have H' := Aside0.mk H
    clear H
    go_enter Try.func44, Try.ntmps44
    go_wp2
    repeat (go_quiet (fail); try go_wp2)
    go_loopg [5] k (fun kq v5 w' => ∃ (x5_1 : Int), v5 = .int .i64 x5_1 ∧ Aside0 (bezantlaw10_same.l0 kq l0 l1 x5_1 = some r) ∧ Aside0 (kq ≤ k) ∧ Drawn0 w w')
    case atStart => exact ⟨(0), (by first | rfl | (simp; done) | (simp [*]; done)), H', ⟨Nat.le_refl _⟩, by repeat (first | exact Drawn0.refl _ | apply Drawn0.step)⟩
    case round =>
      clear H'
      try clear c1
      try clear p2
      try clear c3
      try clear c3b0
      try clear c3b1
      try clear c3b2
      obtain ⟨x5_1, rfl, HA, HK1, ⟨m1, rfl⟩⟩ := hrel
      cases gk with
      | zero => exact absurd HA.out (by simp [bezantlaw10_same.l0])
      | succ k1 =>
        have H := HA.out
        clear HA
        simp only [bezantlaw10_same.l0] at H
        by_cases c4 : x5_1 < (l0.length : Int)
        · rw [if_pos c4] at H
          have c4b0 : decide (x5_1 < (l0.length : Int)) = true := decide_eq_true c4
          clear c4
          by_cases c5 : 0 ≤ x5_1
          · rw [if_pos c5] at H
            have c5b0 : decide (0 ≤ x5_1) = true := decide_eq_true c5
            clear c5
            by_cases c6 : x5_1 < (l1.length : Int)
            · rw [if_pos c6] at H
              have c6b0 : decide (x5_1 < (l1.length : Int)) = true := decide_eq_true c6
              clear c6
              by_cases c7 : (!(((rd_T73 l0 x5_1).f0) == ((rd_T73 l1 x5_1).f0)) || (!(((rd_T73 l0 x5_1).f1) == ((rd_T73 l1 x5_1).f1)))) = true
              · rw [if_pos c7] at H
                have c7b0 : (!(((rd_T73 l0 x5_1).f0) == ((rd_T73 l1 x5_1).f0)) || (!(((rd_T73 l0 x5_1).f1) == ((rd_T73 l1 x5_1).f1)))) = true := c7
                clear c7
                obtain rfl := Option.some.inj H
                have p247 : 0 ≤ (x5_1 : Int) := of_decide_eq_true (by first | (with_reducible assumption) | assumption)
                have q247 : x5_1 < (l0.length : Int) := of_decide_eq_true (by first | (with_reducible assumption) | assumption)
                obtain ⟨ad247, e247, hx247_0, hx247_1⟩ := at_T73 HR0.out x5_1 p247 q247
                cases e247
                replace p247 := eq_true p247
                replace q247 := eq_true q247
                have p248 : 0 ≤ (x5_1 : Int) := of_decide_eq_true (by first | (with_reducible assumption) | assumption)
                have q248 : x5_1 < (l1.length : Int) := of_decide_eq_true (by first | (with_reducible assumption) | assumption)
                obtain ⟨ad248, e248, hx248_0, hx248_1⟩ := at_T73 HR1.out x5_1 p248 q248
                cases e248
                replace p248 := eq_true p248
                replace q248 := eq_true q248
                go_wp2
                repeat (go_quiet (fail); try go_wp2)
                go_ret
                exact ⟨by first | rfl | (simp; done) | (simp [*]; done), by repeat (first | exact Drawn0.refl _ | apply Drawn0.step)⟩
              · rw [if_neg c7] at H
                have c7b0 : (!(((rd_T73 l0 x5_1).f0) == ((rd_T73 l1 x5_1).f0)) || (!(((rd_T73 l0 x5_1).f1) == ((rd_T73 l1 x5_1).f1)))) = false := by simpa using c7
                clear c7
                have H' := Aside0.mk H
                clear H
                have p247 : 0 ≤ (x5_1 : Int) := of_decide_eq_true (by first | (with_reducible assumption) | assumption)
                have q247 : x5_1 < (l0.length : Int) := of_decide_eq_true (by first | (with_reducible assumption) | assumption)
                obtain ⟨ad247, e247, hx247_0, hx247_1⟩ := at_T73 HR0.out x5_1 p247 q247
                cases e247
                replace p247 := eq_true p247
                replace q247 := eq_true q247
                have p248 : 0 ≤ (x5_1 : Int) := of_decide_eq_true (by first | (with_reducible assumption) | assumption)
                have q248 : x5_1 < (l1.length : Int) := of_decide_eq_true (by first | (with_reducible assumption) | assumption)
                obtain ⟨ad248, e248, hx248_0, hx248_1⟩ := at_T73 HR1.out x5_1 p248 q248
                cases e248
                replace p248 := eq_true p248
                replace q248 := eq_true q248
                go_wp2
                repeat (go_quiet (fail); try go_wp2)
                go_roundg k1
                case measure => have := HK1.out; omega
                case rel => exact ⟨(wrap64 (x5_1 + 1)), (by first | rfl | (simp; done) | (simp [*]; done)), H', ⟨by have := HK1.out; omega⟩, by repeat (first | exact Drawn0.refl _ | apply Drawn0.step)⟩
            · rw [if_neg c6] at H
              exact absurd H (by simp)
          · rw [if_neg c5] at H
            exact absurd H (by simp)
        · rw [if_neg c4] at H
          have c4b0 : decide (x5_1 < (l0.length : Int)) = false := decide_eq_false c4
          clear c4
          obtain rfl := Option.some.inj H
          go_wp2
          repeat (go_quiet (fail); try go_wp2)
          go_ret
          exact ⟨by first | rfl | (simp; done) | (simp [*]; done), by repeat (first | exact Drawn0.refl _ | apply Drawn0.step)⟩
  · rw [if_neg c3] at H
    have c3b0 : ((l0.length : Int) == (l1.length : Int)) = false := beq_eq_false_iff_ne.mpr c3
    have c3b1 : ((l0.length : Int) != (l1.length : Int)) = true := bne_iff_ne.mpr c3
    have c3b2 : (l0.length == l1.length) = false := by first | simpa using c3 | (simp at c3 ⊢; omega)
    obtain rfl := Option.some.inj H
    go_enter Try.func44, Try.ntmps44
    go_wp2
    repeat (go_quiet (fail); try go_wp2)
    go_ret
    exact ⟨by first | rfl | (simp; done) | (simp [*]; done), by repeat (first | exact Drawn0.refl _ | apply Drawn0.step)⟩

/-! ### bezantlaw10_DynTells: function 9 -/
mutual
def bezantlaw10_DynTells.j0 : Nat → List (S73) → List Int → Int → Bool → Bool → Bool → Bool → Option (Bool)
  | 0, _, _, _, _, _, _, _ => none
  | k + 1, x0, x2, x3, x9, x32, x250000, x250001 => if x32 = true then (some x9) else ((dyn_Put.f k x0 x250000 x250001).bind fun bt251 => ((bezantref04_PutDyns.f k x0 x250000 x250001).bind fun bt260 => (if bt260.2 = true then (if bt251.2.1 = true then (bezantlaw10_DynTells.j1 k x0 x2 x3 x9 true x250000 x250001) else (if (strOfNums bt251.1).toList = (strOfNums bt260.1).toList then (bezantlaw10_DynTells.j1 k x0 x2 x3 x9 false x250000 x250001) else (bezantlaw10_DynTells.j1 k x0 x2 x3 x9 true x250000 x250001))) else ((bezantlaw00_Code.f bt251.2.1 bt251.2.2.1 bt251.2.2.2.1 bt251.2.2.2.2).bind fun t264 => (if t264 = 1 then (bezantlaw10_DynTells.j1 k x0 x2 x3 x9 (decide ((bt251.1.length : Int) > 0)) x250000 x250001) else (bezantlaw10_DynTells.j1 k x0 x2 x3 x9 true x250000 x250001))))))
def bezantlaw10_DynTells.j1 : Nat → List (S73) → List Int → Int → Bool → Bool → Bool → Bool → Option (Bool)
  | 0, _, _, _, _, _, _, _ => none
  | k + 1, x0, x2, x3, x9, x71, x250000, x250001 => if x71 = true then (none) else ((dyn_All.f k x2 x250000 x250001).bind fun bt265 => ((bezantref04_Dyns.f k x2 x250000 x250001).bind fun bt274 => ((bezantlaw00_Spot.f bt265.2.1 bt265.2.2.1 bt265.2.2.2.1 bt265.2.2.2.2).bind fun bt278 => ((dyn_Find.f k x0 x3).bind fun bt280 => ((bezantref04_Find.f k x0 x3).bind fun bt282 => (if x9 = true then ((bezantlaw10_same.f k bt265.1 bt274.1).bind fun t284 => (if t284 = 1 then (if bt274.2 < 0 then (if bt278.1 = 0 then (if bt280.1 = bt282.1 then (some (bt280.2 == bt282.2)) else (none)) else (if bt274.2 ≥ 0 then (if bt278.1 = 2 then (if bt278.2 = bt274.2 then (if bt280.1 = bt282.1 then (some (bt280.2 == bt282.2)) else (none)) else (none)) else (none)) else (none))) else (if bt274.2 ≥ 0 then (if bt278.1 = 2 then (if bt278.2 = bt274.2 then (if bt280.1 = bt282.1 then (some (bt280.2 == bt282.2)) else (none)) else (none)) else (none)) else (none))) else (none))) else (none)))))))
end
def bezantlaw10_DynTells.f (k : Nat) (l0 : List (S73)) (a1_0 : Bool) (a1_1 : Bool) (l2 : List Int) (a3 : Int) : Option (Bool) := (bezantlaw10_up.f k).bind fun t250 => (if (l0.length : Int) > 100 then (bezantlaw10_DynTells.j0 k l0 l2 a3 t250 true a1_0 a1_1) else (bezantlaw10_DynTells.j0 k l0 l2 a3 t250 (decide ((l2.length : Int) > 5000)) a1_0 a1_1))
theorem bezantlaw10_DynTells.mono_l : ∀ k, (∀ y0 y1 y2 y3 y4 y5 y6, LeO (bezantlaw10_DynTells.j0 k y0 y1 y2 y3 y4 y5 y6) (bezantlaw10_DynTells.j0 (k + 1) y0 y1 y2 y3 y4 y5 y6)) ∧ (∀ y0 y1 y2 y3 y4 y5 y6, LeO (bezantlaw10_DynTells.j1 k y0 y1 y2 y3 y4 y5 y6) (bezantlaw10_DynTells.j1 (k + 1) y0 y1 y2 y3 y4 y5 y6))
  | 0 => ⟨fun _ _ _ _ _ _ _ r h => by simp [bezantlaw10_DynTells.j0] at h, fun _ _ _ _ _ _ _ r h => by simp [bezantlaw10_DynTells.j1] at h⟩
  | k + 1 => by
    obtain ⟨ih0, ih1⟩ := bezantlaw10_DynTells.mono_l k
    refine ⟨?_, ?_⟩
    · intro y0 y1 y2 y3 y4 y5 y6
      unfold bezantlaw10_DynTells.j0
      repeat' first
      | (with_reducible exact ih0 _ _ _ _ _ _ _)
      | (with_reducible exact ih1 _ _ _ _ _ _ _)
      | (with_reducible exact bezantlaw10_same.mono _ _ _)
      | (with_reducible exact bezantlaw10_up.mono _)
      | (with_reducible exact bezantref04_Dyns.mono _ _ _ _)
      | (with_reducible exact bezantref04_Find.mono _ _ _)
      | (with_reducible exact bezantref04_PutDyns.mono _ _ _ _)
      | (with_reducible exact dyn_All.mono _ _ _ _)
      | (with_reducible exact dyn_Find.mono _ _ _)
      | (with_reducible exact dyn_Put.mono _ _ _ _)
      | (with_reducible exact LeO.refl _)
      | (with_reducible exact LeO.none _)
      | (with_reducible refine LeO.ite ?_ ?_)
      | (with_reducible refine LeO.bind ?_ (fun _ => ?_))
      | exact ih0 _ _ _ _ _ _ _
      | exact ih1 _ _ _ _ _ _ _
      | exact bezantlaw10_same.mono _ _ _
      | exact bezantlaw10_up.mono _
      | exact bezantref04_Dyns.mono _ _ _ _
      | exact bezantref04_Find.mono _ _ _
      | exact bezantref04_PutDyns.mono _ _ _ _
      | exact dyn_All.mono _ _ _ _
      | exact dyn_Find.mono _ _ _
      | exact dyn_Put.mono _ _ _ _
      | exact LeO.none _
      | refine LeO.ite ?_ ?_
      | refine LeO.bind ?_ (fun _ => ?_)
    · intro y0 y1 y2 y3 y4 y5 y6
      unfold bezantlaw10_DynTells.j1
      repeat' first
      | (with_reducible exact ih0 _ _ _ _ _ _ _)
      | (with_reducible exact ih1 _ _ _ _ _ _ _)
      | (with_reducible exact bezantlaw10_same.mono _ _ _)
      | (with_reducible exact bezantlaw10_up.mono _)
      | (with_reducible exact bezantref04_Dyns.mono _ _ _ _)
      | (with_reducible exact bezantref04_Find.mono _ _ _)
      | (with_reducible exact bezantref04_PutDyns.mono _ _ _ _)
      | (with_reducible exact dyn_All.mono _ _ _ _)
      | (with_reducible exact dyn_Find.mono _ _ _)
      | (with_reducible exact dyn_Put.mono _ _ _ _)
      | (with_reducible exact LeO.refl _)
      | (with_reducible exact LeO.none _)
      | (with_reducible refine LeO.ite ?_ ?_)
      | (with_reducible refine LeO.bind ?_ (fun _ => ?_))
      | exact ih0 _ _ _ _ _ _ _
      | exact ih1 _ _ _ _ _ _ _
      | exact bezantlaw10_same.mono _ _ _
      | exact bezantlaw10_up.mono _
      | exact bezantref04_Dyns.mono _ _ _ _
      | exact bezantref04_Find.mono _ _ _
      | exact bezantref04_PutDyns.mono _ _ _ _
      | exact dyn_All.mono _ _ _ _
      | exact dyn_Find.mono _ _ _
      | exact dyn_Put.mono _ _ _ _
      | exact LeO.none _
      | refine LeO.ite ?_ ?_
      | refine LeO.bind ?_ (fun _ => ?_)
theorem bezantlaw10_DynTells.mono : ∀ a0 a1 a2 a3 a4 k, LeO (bezantlaw10_DynTells.f k a0 a1 a2 a3 a4) (bezantlaw10_DynTells.f (k + 1) a0 a1 a2 a3 a4) := by
  intro a0 a1 a2 a3 a4 k
  obtain ⟨ih0, ih1⟩ := bezantlaw10_DynTells.mono_l k
  unfold bezantlaw10_DynTells.f
  repeat' first
      | (with_reducible exact ih0 _ _ _ _ _ _ _)
      | (with_reducible exact ih1 _ _ _ _ _ _ _)
      | (with_reducible exact bezantlaw10_same.mono _ _ _)
      | (with_reducible exact bezantlaw10_up.mono _)
      | (with_reducible exact bezantref04_Dyns.mono _ _ _ _)
      | (with_reducible exact bezantref04_Find.mono _ _ _)
      | (with_reducible exact bezantref04_PutDyns.mono _ _ _ _)
      | (with_reducible exact dyn_All.mono _ _ _ _)
      | (with_reducible exact dyn_Find.mono _ _ _)
      | (with_reducible exact dyn_Put.mono _ _ _ _)
      | (with_reducible exact LeO.refl _)
      | (with_reducible exact LeO.none _)
      | (with_reducible refine LeO.ite ?_ ?_)
      | (with_reducible refine LeO.bind ?_ (fun _ => ?_))
      | exact ih0 _ _ _ _ _ _ _
      | exact ih1 _ _ _ _ _ _ _
      | exact bezantlaw10_same.mono _ _ _
      | exact bezantlaw10_up.mono _
      | exact bezantref04_Dyns.mono _ _ _ _
      | exact bezantref04_Find.mono _ _ _
      | exact bezantref04_PutDyns.mono _ _ _ _
      | exact dyn_All.mono _ _ _ _
      | exact dyn_Find.mono _ _ _
      | exact dyn_Put.mono _ _ _ _
      | exact LeO.none _
      | refine LeO.ite ?_ ?_
      | refine LeO.bind ?_ (fun _ => ?_)
set_option maxHeartbeats 8000000 in
set_option maxRecDepth 100000 in
theorem bezantlaw10_DynTells.calls (k : Nat) (A0 : Option Addr) (c0 : Nat) (l0 : List (S73)) (a1_0 : Bool) (a1_1 : Bool) (A2 : Option Addr) (c2 : Nat) (l2 : List Int) (a3 : Int) (r : Bool) (w : World) (hr0 : Kd.C k73 w A0 l0.length l0) (hc0 : l0.length ≤ c0) (hr2 : Kd.C (Kd.int .u8) w A2 l2.length l2) (hc2 : l2.length ≤ c2) (h : bezantlaw10_DynTells.f k l0 a1_0 a1_1 l2 a3 = some r) :
    Calls Try.prog 9 #[.slice A0 l0.length c0, .agg #[.bool a1_0, .bool a1_1], .slice A2 l2.length c2, .int .u64 a3] w fun e w' => e = .returned (.bool r) ∧ Below w.heap.size w w' := by
  have hu36 := Try.underlying36
  have hu41 := Try.underlying41
  have hEeql : ∀ (e_ s_ : Bool) (c_ : Int) (v_ : Value) (W : World), (binOp .eql 41 (errW2 (.bool e_) (.bool s_) (.int .i64 c_) v_) .nilIface).run Try.prog W = .ok (.bool (!e_)) W := errW2_eql
  have hEneq : ∀ (e_ s_ : Bool) (c_ : Int) (v_ : Value) (W : World), (binOp .neq 41 (errW2 (.bool e_) (.bool s_) (.int .i64 c_) v_) .nilIface).run Try.prog W = .ok (.bool (e_)) W := errW2_neq
  have hGeql : ∀ (x_ : Operand) (e_ s_ : Bool) (c_ : Int) (v_ : Value), eqGuard .eql 41 x_ (.const .nilIface) (errW2 (.bool e_) (.bool s_) (.int .i64 c_) v_) .nilIface = pure () := errW2_geql
  have hGneq : ∀ (x_ : Operand) (e_ s_ : Bool) (c_ : Int) (v_ : Value), eqGuard .neq 41 x_ (.const .nilIface) (errW2 (.bool e_) (.bool s_) (.int .i64 c_) v_) .nilIface = pure () := errW2_gneq
  have HR0 := Aside0.mk hr0
  have HC0 := Aside0.mk hc0
  clear hr0 hc0
  have HR2 := Aside0.mk hr2
  have HC2 := Aside0.mk hc2
  clear hr2 hc2
  have HB := Aside0.mk (Below.refl w.heap.size w)
  have H : ((bezantlaw10_up.f k).bind fun t250 => (if (l0.length : Int) > 100 then (bezantlaw10_DynTells.j0 k l0 l2 a3 t250 true a1_0 a1_1) else (bezantlaw10_DynTells.j0 k l0 l2 a3 t250 (decide ((l2.length : Int) > 5000)) a1_0 a1_1))) = some r := h
  clear h
  replace H := Option.bind_eq_some_iff.mp H
  obtain ⟨t250, A50, H⟩ := H
  replace H : (if (l0.length : Int) > 100 then (bezantlaw10_DynTells.j0 k l0 l2 a3 t250 true a1_0 a1_1) else (bezantlaw10_DynTells.j0 k l0 l2 a3 t250 (decide ((l2.length : Int) > 5000)) a1_0 a1_1)) = some r := H
  have A5 := Aside0.mk A50
  clear A50
  have HC6 := Aside0.mk H
  clear H
  go_enter Try.func9, Try.ntmps9
  go_upto_region 2 with (first | ((with_reducible refine gate_dst (N := 5) rfl ?_); (try (refine gate_guard (by rfl) ?_; dsimp only)); refine box_event ?hg (N := 5) ?hd (cs := #[.bool a1_0, .bool a1_1]) (t := 36) ?hr ?_; (case hd => rfl); (case hg => rfl); (case hr => first | (go_simp; done) | (go_simp; rfl)); intro gb249 hg w7 hbox hb; have n0_ := Aside0.mk (below_step (by repeat (first | (with_reducible first | exact HB.out | apply below_alloc | apply pw_below_drewN | apply below_drew1) | exact HB.out)) hb); have n1_ := Aside0.mk (hbox); have n2_ := Aside0.mk ((by rw [hg]; exact (below_size (by repeat (first | (with_reducible first | exact HB.out | apply below_alloc | apply pw_below_drewN | apply below_drew1) | exact HB.out))) : w.heap.size ≤ gb249)); have n3_ := Aside0.mk ((by rw [hg]; exact (below_size (by repeat (first | (with_reducible first | exact HB.out | apply below_alloc | apply pw_below_drewN | apply below_drew1) | exact HB.out))) : w.heap.size ≤ gb249)); clear HB; have HB := n0_; have BK249 := n1_; have GW249 := n2_; have GE249 := n3_; clear n0_ n1_ n2_ n3_; clear hb hbox hg) | ((with_reducible refine gate_callee (f := 36) rfl ?_); refine goesL_ (some 24) rfl rfl Try.func36 (by kernel_rfl) rfl #[] rfl (by (try simp only [List.map_toArray, List.map_cons, List.map_nil]); first | done | rfl | (simp only [List.length_drop, List.length_take]; rfl)) ?_; (with_reducible refine (bezantlaw10_up.calls k  t250 _ A5.out).mono ?_); rintro e w8 ⟨rfl, hb⟩; refine ⟨_, rfl, ?_⟩; have n0_ := Aside0.mk (blk_below (g := gb249) (o := .cells #[.bool a1_0, .bool a1_1] 36 (0, 0)) (by (with_reducible repeat (first | refine blk_drewN ?_ _ | refine blk_drew ?_ | refine blk_alloc ?_ _)); exact BK249.out) hb); have n1_ := Aside0.mk (below_step (by repeat (first | (with_reducible first | exact HB.out | apply below_alloc | apply pw_below_drewN | apply below_drew1 | refine below_set ?_ GE249.out) | exact HB.out)) hb); clear BK249; clear HB; have BK249 := n0_; have HB := n1_; clear n0_ n1_; (try clear hb); (try clear hb2); (try clear hk); (try clear hi)))
  (try simp only [Act.put, List.setIfInBounds_toArray, List.set_cons_zero, List.set_cons_succ])
  go_cut [32] (fun v32 wc => ∃ (kq : Nat) (x32_5 : Bool), v32 = .bool x32_5 ∧ Aside0 (bezantlaw10_DynTells.j0 kq l0 l2 a3 t250 x32_5 a1_0 a1_1 = some r) ∧ Aside0 (kq ≤ k) ∧ Aside0 (wc.heap[gb249]? = some (.cells #[.bool a1_0, .bool a1_1] 36 (0, 0))) ∧ Aside0 (Below w.heap.size w wc))
  case first =>
    have H := HC6.out
    clear HC6
    by_cases c9 : (l0.length : Int) > 100
    · rw [if_pos c9] at H
      have c9b0 : decide (100 < (l0.length : Int)) = true := decide_eq_true c9
      have c9b1 : decide (100 < l0.length) = true := decide_eq_true (by omega)
      clear c9
      (first | rw [c9b0] | (simp only [i64_w, i32_w]; rw [c9b0]) | skip)
      have H' := Aside0.mk H
      clear H
      go_wp2
      go_meet
      case rel => exact ⟨_, (true), (by first | rfl | (simp; done) | (simp [*]; done)), H', ⟨by first | omega | exact Nat.le_refl _⟩, ⟨by (with_reducible repeat (first | refine blk_drewN ?_ _ | refine blk_drew ?_ | refine blk_alloc ?_ _)); exact BK249.out⟩, ⟨by repeat (first | (with_reducible first | exact HB.out | apply below_alloc | apply pw_below_drewN | apply below_drew1 | refine below_set ?_ GE249.out) | exact HB.out)⟩⟩
    · rw [if_neg c9] at H
      have c9b0 : decide (100 < (l0.length : Int)) = false := decide_eq_false c9
      have c9b1 : decide (100 < l0.length) = false := decide_eq_false (by omega)
      clear c9
      (first | rw [c9b0] | (simp only [i64_w, i32_w]; rw [c9b0]) | skip)
      have H' := Aside0.mk H
      clear H
      go_wp2
      go_meet
      case rel => exact ⟨_, (decide ((l2.length : Int) > 5000)), (by first | rfl | (simp; done) | (simp [*]; done)), H', ⟨by first | omega | exact Nat.le_refl _⟩, ⟨by (with_reducible repeat (first | refine blk_drewN ?_ _ | refine blk_drew ?_ | refine blk_alloc ?_ _)); exact BK249.out⟩, ⟨by repeat (first | (with_reducible first | exact HB.out | apply below_alloc | apply pw_below_drewN | apply below_drew1 | refine below_set ?_ GE249.out) | exact HB.out)⟩⟩
  case rest =>
    clear HC6
    try clear c2
    try clear p2
    try clear c3
    try clear c9
    try clear c9b0
    try clear c9b1
    obtain ⟨kq, x32_5, rfl, HA, HJ5, BK249, HB⟩ := hcut
    cases kq with
    | zero => exact absurd HA.out (by simp [bezantlaw10_DynTells.j0])
    | succ kj5 =>
      have H := HA.out
      clear HA
      simp only [bezantlaw10_DynTells.j0] at H
      by_cases c10 : x32_5 = true
      · subst c10
        have H1 : (some t250) = some r := by rw [if_pos rfl] at H; exact H
        clear H
        have H := H1
        clear H1
        obtain rfl := Option.some.inj H
        go_wp2
        go_ret
        exact ⟨by first | rfl | (simp [errW_none, errW_some] <;> rfl) | (simp [*, errW_none, errW_some] <;> rfl), by repeat (first | (with_reducible first | exact HB.out | apply below_alloc | apply pw_below_drewN | apply below_drew1 | refine below_set ?_ GE249.out) | exact HB.out)⟩
      · replace c10 := Bool.eq_false_iff.mpr c10
        subst c10
        have H1 : ((dyn_Put.f kj5 l0 a1_0 a1_1).bind fun bt251 => ((bezantref04_PutDyns.f kj5 l0 a1_0 a1_1).bind fun bt260 => (if bt260.2 = true then (if bt251.2.1 = true then (bezantlaw10_DynTells.j1 kj5 l0 l2 a3 t250 true a1_0 a1_1) else (if (strOfNums bt251.1).toList = (strOfNums bt260.1).toList then (bezantlaw10_DynTells.j1 kj5 l0 l2 a3 t250 false a1_0 a1_1) else (bezantlaw10_DynTells.j1 kj5 l0 l2 a3 t250 true a1_0 a1_1))) else ((bezantlaw00_Code.f bt251.2.1 bt251.2.2.1 bt251.2.2.2.1 bt251.2.2.2.2).bind fun t264 => (if t264 = 1 then (bezantlaw10_DynTells.j1 kj5 l0 l2 a3 t250 (decide ((bt251.1.length : Int) > 0)) a1_0 a1_1) else (bezantlaw10_DynTells.j1 kj5 l0 l2 a3 t250 true a1_0 a1_1)))))) = some r := by rw [if_neg (show ¬ (false = true) by decide)] at H; exact H
        clear H
        have H := H1
        clear H1
        replace H := Option.bind_eq_some_iff.mp H
        obtain ⟨⟨t251, t254, t255, t256, t257⟩, A110, H⟩ := H
        replace H : ((bezantref04_PutDyns.f kj5 l0 a1_0 a1_1).bind fun bt260 => (if bt260.2 = true then (if t254 = true then (bezantlaw10_DynTells.j1 kj5 l0 l2 a3 t250 true a1_0 a1_1) else (if (strOfNums t251).toList = (strOfNums bt260.1).toList then (bezantlaw10_DynTells.j1 kj5 l0 l2 a3 t250 false a1_0 a1_1) else (bezantlaw10_DynTells.j1 kj5 l0 l2 a3 t250 true a1_0 a1_1))) else ((bezantlaw00_Code.f t254 t255 t256 t257).bind fun t264 => (if t264 = 1 then (bezantlaw10_DynTells.j1 kj5 l0 l2 a3 t250 (decide ((t251.length : Int) > 0)) a1_0 a1_1) else (bezantlaw10_DynTells.j1 kj5 l0 l2 a3 t250 true a1_0 a1_1))))) = some r := H
        have A11 := Aside0.mk A110
        clear A110
        replace H := Option.bind_eq_some_iff.mp H
        obtain ⟨⟨t260, t263⟩, A120, H⟩ := H
        replace H : (if t263 = true then (if t254 = true then (bezantlaw10_DynTells.j1 kj5 l0 l2 a3 t250 true a1_0 a1_1) else (if (strOfNums t251).toList = (strOfNums t260).toList then (bezantlaw10_DynTells.j1 kj5 l0 l2 a3 t250 false a1_0 a1_1) else (bezantlaw10_DynTells.j1 kj5 l0 l2 a3 t250 true a1_0 a1_1))) else ((bezantlaw00_Code.f t254 t255 t256 t257).bind fun t264 => (if t264 = 1 then (bezantlaw10_DynTells.j1 kj5 l0 l2 a3 t250 (decide ((t251.length : Int) > 0)) a1_0 a1_1) else (bezantlaw10_DynTells.j1 kj5 l0 l2 a3 t250 true a1_0 a1_1)))) = some r := H
        have A12 := Aside0.mk A120
        clear A120
        have HC13 := Aside0.mk H
        clear H
        have hcz14_0 : wc.cell? ⟨gb249, 0, none⟩ = some (.bool a1_0) := (blk_cell BK249.out 0).trans rfl
        have hcz14_1 : wc.cell? ⟨gb249, 1, none⟩ = some (.bool a1_1) := (blk_cell BK249.out 1).trans rfl
        have hfz14_0 := blk_frozen BK249.out 0
        have hfz14_1 := blk_frozen BK249.out 1
        go_upto_region 6 with (first | ((with_reducible refine gate_callee (f := 37) rfl ?_); refine goesL_ (some 37) rfl rfl Try.func37 (by kernel_rfl) rfl #[.slice A0 l0.length c0, .agg #[.bool a1_0, .bool a1_1]] rfl (by (try simp only [List.map_toArray, List.map_cons, List.map_nil]); first | done | rfl | (simp only [List.length_drop, List.length_take]; rfl)) ?_; (with_reducible refine (dyn_Put.calls kj5 _ _ l0 a1_0 a1_1 t251 t254 t255 t256 t257 _ ?side1 ?side2 A11.out).mono ?_); (case side1 => repeat (first | exact (Kd.C_below HR0.out HB.out) | (with_reducible refine Kd.C_alloc ?_ _) | (with_reducible refine Kd.C_drewN ?_ _) | (with_reducible refine Kd.C_drew ?_))); (case side2 => exact HC0.out); rintro e w15 ⟨v252, v258, rfl, ho0, ho1, hb⟩; refine ⟨_, rfl, ?_⟩; have n0_ := Aside0.mk (Kd.R_lower ho0 (below_size (by repeat (first | (with_reducible first | exact HB.out | apply below_alloc | apply pw_below_drewN | apply below_drew1 | refine below_set ?_ GE249.out) | exact HB.out)))); have n1_ := Aside0.mk (Kd.R_lower ho1 (below_size (by repeat (first | (with_reducible first | exact HB.out | apply below_alloc | apply pw_below_drewN | apply below_drew1 | refine below_set ?_ GE249.out) | exact HB.out)))); have n2_ := Aside0.mk (blk_below (g := gb249) (o := .cells #[.bool a1_0, .bool a1_1] 36 (0, 0)) (by (with_reducible repeat (first | refine blk_drewN ?_ _ | refine blk_drew ?_ | refine blk_alloc ?_ _)); exact BK249.out) hb); have n3_ := Aside0.mk (below_step (by repeat (first | (with_reducible first | exact HB.out | apply below_alloc | apply pw_below_drewN | apply below_drew1 | refine below_set ?_ GE249.out) | exact HB.out)) hb); clear BK249; clear HB; have HO253 := n0_; have HO259 := n1_; have BK249 := n2_; have HB := n3_; clear n0_ n1_ n2_ n3_; (try clear hb); (try clear hb2); (try clear hk); (try clear hi); (try clear ho0); (try clear ho1); have hcz16_0 : w15.cell? ⟨gb249, 0, none⟩ = some (.bool a1_0) := (blk_cell BK249.out 0).trans rfl; have hcz16_1 : w15.cell? ⟨gb249, 1, none⟩ = some (.bool a1_1) := (blk_cell BK249.out 1).trans rfl; have hfz16_0 := blk_frozen BK249.out 0; have hfz16_1 := blk_frozen BK249.out 1) | ((with_reducible refine gate_callee (f := 38) rfl ?_); refine goesL_ (some 43) rfl rfl Try.func38 (by kernel_rfl) rfl #[.slice A0 l0.length c0, .agg #[.bool a1_0, .bool a1_1]] rfl (by (try simp only [List.map_toArray, List.map_cons, List.map_nil]); first | done | rfl | (simp only [List.length_drop, List.length_take]; rfl)) ?_; (with_reducible refine (bezantref04_PutDyns.calls kj5 _ _ l0 a1_0 a1_1 t260 t263 _ ?side1 ?side2 A12.out).mono ?_); (case side1 => repeat (first | exact (Kd.C_below HR0.out HB.out) | (with_reducible refine Kd.C_alloc ?_ _) | (with_reducible refine Kd.C_drewN ?_ _) | (with_reducible refine Kd.C_drew ?_))); (case side2 => exact HC0.out); rintro e w17 ⟨v261, rfl, ho0, hb⟩; refine ⟨_, rfl, ?_⟩; have n0_ := Aside0.mk (Kd.R_elder' (by (with_reducible repeat (first | apply Kd.R_alloc | apply Kd.R_drewN | apply Kd.R_drew)); exact HO253.out) (Kd.R_base ho0) hb); have n1_ := Aside0.mk (Kd.R_below (by (with_reducible repeat (first | apply Kd.R_alloc | apply Kd.R_drewN | apply Kd.R_drew)); exact HO259.out) hb); have n2_ := Aside0.mk (Kd.R_lower (Kd.R_new' ho0 (Kd.R_lt (by (with_reducible repeat (first | apply Kd.R_alloc | apply Kd.R_drewN | apply Kd.R_drew)); exact HO253.out))) (below_size (by repeat (first | (with_reducible first | exact HB.out | apply below_alloc | apply pw_below_drewN | apply below_drew1 | refine below_set ?_ GE249.out) | exact HB.out)))); have n3_ := Aside0.mk (blk_below (g := gb249) (o := .cells #[.bool a1_0, .bool a1_1] 36 (0, 0)) (by (with_reducible repeat (first | refine blk_drewN ?_ _ | refine blk_drew ?_ | refine blk_alloc ?_ _)); exact BK249.out) hb); have n4_ := Aside0.mk (below_step (by repeat (first | (with_reducible first | exact HB.out | apply below_alloc | apply pw_below_drewN | apply below_drew1 | refine below_set ?_ GE249.out) | exact HB.out)) hb); clear HO253; clear HO259; clear BK249; clear HB; have HO253 := n0_; have HO259 := n1_; have HO262 := n2_; have BK249 := n3_; have HB := n4_; clear n0_ n1_ n2_ n3_ n4_; (try clear hb); (try clear hb2); (try clear hk); (try clear hi); (try clear ho0)))
        (try simp only [Act.put, List.setIfInBounds_toArray, List.set_cons_zero, List.set_cons_succ])
        go_cut [71] (fun v71 wc => ∃ (kq : Nat) (x71_12 : Bool), v71 = .bool x71_12 ∧ Aside0 (bezantlaw10_DynTells.j1 kq l0 l2 a3 t250 x71_12 a1_0 a1_1 = some r) ∧ Aside0 (kq ≤ kj5) ∧ Aside0 (wc.heap[gb249]? = some (.cells #[.bool a1_0, .bool a1_1] 36 (0, 0))) ∧ Aside0 (Below w.heap.size w wc))
        case first =>
          have H := HC13.out
          clear HC13
          by_cases c18 : t263 = true
          · subst c18
            have H1 : (if t254 = true then (bezantlaw10_DynTells.j1 kj5 l0 l2 a3 t250 true a1_0 a1_1) else (if (strOfNums t251).toList = (strOfNums t260).toList then (bezantlaw10_DynTells.j1 kj5 l0 l2 a3 t250 false a1_0 a1_1) else (bezantlaw10_DynTells.j1 kj5 l0 l2 a3 t250 true a1_0 a1_1))) = some r := by rw [if_pos rfl] at H; exact H
            clear H
            have H := H1
            clear H1
            by_cases c19 : t254 = true
            · subst c19
              have H1 : (bezantlaw10_DynTells.j1 kj5 l0 l2 a3 t250 true a1_0 a1_1) = some r := by rw [if_pos rfl] at H; exact H
              clear H
              have H := H1
              clear H1
              have H' := Aside0.mk H
              clear H
              go_wp2
              go_meet
              case rel => exact ⟨_, (true), (by first | rfl | (simp; done) | (simp [*]; done)), H', ⟨by have := HJ5.out; first | omega | exact Nat.le_refl _⟩, ⟨by (with_reducible repeat (first | refine blk_drewN ?_ _ | refine blk_drew ?_ | refine blk_alloc ?_ _)); exact BK249.out⟩, ⟨by repeat (first | (with_reducible first | exact HB.out | apply below_alloc | apply pw_below_drewN | apply below_drew1 | refine below_set ?_ GE249.out) | exact HB.out)⟩⟩
            · replace c19 := Bool.eq_false_iff.mpr c19
              subst c19
              have H1 : (if (strOfNums t251).toList = (strOfNums t260).toList then (bezantlaw10_DynTells.j1 kj5 l0 l2 a3 t250 false a1_0 a1_1) else (bezantlaw10_DynTells.j1 kj5 l0 l2 a3 t250 true a1_0 a1_1)) = some r := by rw [if_neg (show ¬ (false = true) by decide)] at H; exact H
              clear H
              have H := H1
              clear H1
              by_cases c20 : (strOfNums t251).toList = (strOfNums t260).toList
              · rw [if_pos c20] at H
                have c20b0 : ((strOfNums t251).toList == (strOfNums t260).toList) = true := beq_iff_eq.mpr c20
                have c20b1 : ((strOfNums t251).toList != (strOfNums t260).toList) = false := bne_eq_false_iff_eq.mpr c20
                clear c20
                (first | rw [c20b0] | (simp only [i64_w, i32_w]; rw [c20b0]) | skip)
                have H' := Aside0.mk H
                clear H
                have hcv21 := own_string (P := Try.prog) Try.underlying39 Try.underlying5 Try.underlying9 (Kd.own_of_R HO253.out)
                have hcv22 := own_string (P := Try.prog) Try.underlying39 Try.underlying5 Try.underlying9 (Kd.own_of_R HO262.out)
                go_wp2
                go_meet
                case rel => exact ⟨_, (false), (by first | rfl | (simp; done) | (simp [*]; done)), H', ⟨by have := HJ5.out; first | omega | exact Nat.le_refl _⟩, ⟨by (with_reducible repeat (first | refine blk_drewN ?_ _ | refine blk_drew ?_ | refine blk_alloc ?_ _)); exact BK249.out⟩, ⟨by repeat (first | (with_reducible first | exact HB.out | apply below_alloc | apply pw_below_drewN | apply below_drew1 | refine below_set ?_ GE249.out) | exact HB.out)⟩⟩
              · rw [if_neg c20] at H
                have c20b0 : ((strOfNums t251).toList == (strOfNums t260).toList) = false := beq_eq_false_iff_ne.mpr c20
                have c20b1 : ((strOfNums t251).toList != (strOfNums t260).toList) = true := bne_iff_ne.mpr c20
                (first | rw [c20b0] | (simp only [i64_w, i32_w]; rw [c20b0]) | skip)
                have H' := Aside0.mk H
                clear H
                have hcv23 := own_string (P := Try.prog) Try.underlying39 Try.underlying5 Try.underlying9 (Kd.own_of_R HO253.out)
                have hcv24 := own_string (P := Try.prog) Try.underlying39 Try.underlying5 Try.underlying9 (Kd.own_of_R HO262.out)
                go_wp2
                go_meet
                case rel => exact ⟨_, (true), (by first | rfl | (simp; done) | (simp [*]; done)), H', ⟨by have := HJ5.out; first | omega | exact Nat.le_refl _⟩, ⟨by (with_reducible repeat (first | refine blk_drewN ?_ _ | refine blk_drew ?_ | refine blk_alloc ?_ _)); exact BK249.out⟩, ⟨by repeat (first | (with_reducible first | exact HB.out | apply below_alloc | apply pw_below_drewN | apply below_drew1 | refine below_set ?_ GE249.out) | exact HB.out)⟩⟩
          · replace c18 := Bool.eq_false_iff.mpr c18
            subst c18
            have H1 : ((bezantlaw00_Code.f t254 t255 t256 t257).bind fun t264 => (if t264 = 1 then (bezantlaw10_DynTells.j1 kj5 l0 l2 a3 t250 (decide ((t251.length : Int) > 0)) a1_0 a1_1) else (bezantlaw10_DynTells.j1 kj5 l0 l2 a3 t250 true a1_0 a1_1))) = some r := by rw [if_neg (show ¬ (false = true) by decide)] at H; exact H
            clear H
            have H := H1
            clear H1
            replace H := Option.bind_eq_some_iff.mp H
            obtain ⟨t264, A250, H⟩ := H
            replace H : (if t264 = 1 then (bezantlaw10_DynTells.j1 kj5 l0 l2 a3 t250 (decide ((t251.length : Int) > 0)) a1_0 a1_1) else (bezantlaw10_DynTells.j1 kj5 l0 l2 a3 t250 true a1_0 a1_1)) = some r := H
            have A25 := Aside0.mk A250
            clear A250
            by_cases c26 : t264 = 1
            · rw [if_pos c26] at H
              have c26b0 : (t264 == 1) = true := beq_iff_eq.mpr c26
              have c26b1 : (t264 != 1) = false := bne_eq_false_iff_eq.mpr c26
              clear c26
              have H' := Aside0.mk H
              clear H
              obtain ⟨Ao27, co27, eo27⟩ := Kd.R_slice HO259.out
              subst eo27
              go_wp2_with (first | (go_at_call 39; (with_reducible refine (bezantlaw00_Code.calls t254 t255 t256 _ _ t257 t264 _ ?side1 ?side2 A25.out).mono ?_); (case side1 => repeat (first | exact (Kd.R_reads' HO259.out).2.2 | (with_reducible refine Kd.C_alloc ?_ _) | (with_reducible refine Kd.C_drewN ?_ _) | (with_reducible refine Kd.C_drew ?_))); (case side2 => exact (Kd.R_reads' HO259.out).2.1); rintro e w28 ⟨rfl, hb⟩; have n0_ := Aside0.mk (Kd.R_below (by (with_reducible repeat (first | apply Kd.R_alloc | apply Kd.R_drewN | apply Kd.R_drew)); exact HO253.out) hb); have n1_ := Aside0.mk (Kd.R_below (by (with_reducible repeat (first | apply Kd.R_alloc | apply Kd.R_drewN | apply Kd.R_drew)); exact HO259.out) hb); have n2_ := Aside0.mk (Kd.R_below (by (with_reducible repeat (first | apply Kd.R_alloc | apply Kd.R_drewN | apply Kd.R_drew)); exact HO262.out) hb); have n3_ := Aside0.mk (blk_below (g := gb249) (o := .cells #[.bool a1_0, .bool a1_1] 36 (0, 0)) (by (with_reducible repeat (first | refine blk_drewN ?_ _ | refine blk_drew ?_ | refine blk_alloc ?_ _)); exact BK249.out) hb); have n4_ := Aside0.mk (below_step (by repeat (first | (with_reducible first | exact HB.out | apply below_alloc | apply pw_below_drewN | apply below_drew1 | refine below_set ?_ GE249.out) | exact HB.out)) hb); clear HO253; clear HO259; clear HO262; clear BK249; clear HB; have HO253 := n0_; have HO259 := n1_; have HO262 := n2_; have BK249 := n3_; have HB := n4_; clear n0_ n1_ n2_ n3_ n4_; (try clear hb); (try clear hb2); (try clear hk); (try clear hi); obtain ⟨Ao29, co29, eo29⟩ := Kd.R_slice HO253.out; subst eo29))
              go_meet
              case rel => exact ⟨_, (decide ((t251.length : Int) > 0)), (by first | rfl | (simp; done) | (simp [*]; done)), H', ⟨by have := HJ5.out; first | omega | exact Nat.le_refl _⟩, ⟨by (with_reducible repeat (first | refine blk_drewN ?_ _ | refine blk_drew ?_ | refine blk_alloc ?_ _)); exact BK249.out⟩, ⟨by repeat (first | (with_reducible first | exact HB.out | apply below_alloc | apply pw_below_drewN | apply below_drew1 | refine below_set ?_ GE249.out) | exact HB.out)⟩⟩
            · rw [if_neg c26] at H
              have c26b0 : (t264 == 1) = false := beq_eq_false_iff_ne.mpr c26
              have c26b1 : (t264 != 1) = true := bne_iff_ne.mpr c26
              have H' := Aside0.mk H
              clear H
              obtain ⟨Ao30, co30, eo30⟩ := Kd.R_slice HO259.out
              subst eo30
              go_wp2_with (first | (go_at_call 39; (with_reducible refine (bezantlaw00_Code.calls t254 t255 t256 _ _ t257 t264 _ ?side1 ?side2 A25.out).mono ?_); (case side1 => repeat (first | exact (Kd.R_reads' HO259.out).2.2 | (with_reducible refine Kd.C_alloc ?_ _) | (with_reducible refine Kd.C_drewN ?_ _) | (with_reducible refine Kd.C_drew ?_))); (case side2 => exact (Kd.R_reads' HO259.out).2.1); rintro e w31 ⟨rfl, hb⟩; have n0_ := Aside0.mk (Kd.R_below (by (with_reducible repeat (first | apply Kd.R_alloc | apply Kd.R_drewN | apply Kd.R_drew)); exact HO253.out) hb); have n1_ := Aside0.mk (Kd.R_below (by (with_reducible repeat (first | apply Kd.R_alloc | apply Kd.R_drewN | apply Kd.R_drew)); exact HO259.out) hb); have n2_ := Aside0.mk (Kd.R_below (by (with_reducible repeat (first | apply Kd.R_alloc | apply Kd.R_drewN | apply Kd.R_drew)); exact HO262.out) hb); have n3_ := Aside0.mk (blk_below (g := gb249) (o := .cells #[.bool a1_0, .bool a1_1] 36 (0, 0)) (by (with_reducible repeat (first | refine blk_drewN ?_ _ | refine blk_drew ?_ | refine blk_alloc ?_ _)); exact BK249.out) hb); have n4_ := Aside0.mk (below_step (by repeat (first | (with_reducible first | exact HB.out | apply below_alloc | apply pw_below_drewN | apply below_drew1 | refine below_set ?_ GE249.out) | exact HB.out)) hb); clear HO253; clear HO259; clear HO262; clear BK249; clear HB; have HO253 := n0_; have HO259 := n1_; have HO262 := n2_; have BK249 := n3_; have HB := n4_; clear n0_ n1_ n2_ n3_ n4_; (try clear hb); (try clear hb2); (try clear hk); (try clear hi)))
              go_meet
              case rel => exact ⟨_, (true), (by first | rfl | (simp; done) | (simp [*]; done)), H', ⟨by have := HJ5.out; first | omega | exact Nat.le_refl _⟩, ⟨by (with_reducible repeat (first | refine blk_drewN ?_ _ | refine blk_drew ?_ | refine blk_alloc ?_ _)); exact BK249.out⟩, ⟨by repeat (first | (with_reducible first | exact HB.out | apply below_alloc | apply pw_below_drewN | apply below_drew1 | refine below_set ?_ GE249.out) | exact HB.out)⟩⟩
        case rest =>
          clear HC13
          try clear c1
          try clear c2
          try clear p2
          try clear hcv2
          try clear c3
          try clear c9
          try clear c9b0
          try clear c9b1
          try clear c10
          try clear c18
          try clear c19
          try clear c20
          try clear c20b0
          try clear c20b1
          try clear hcv21
          try clear hcv22
          try clear hcv23
          try clear hcv24
          try clear c26
          try clear c26b0
          try clear c26b1
          try clear hcz14_0
          try clear hcz14_1
          try clear hcz16_0
          try clear hcz16_1
          try clear hfz14_0
          try clear hfz14_1
          try clear hfz16_0
          try clear hfz16_1
          try clear p2
          obtain ⟨kq, x71_12, rfl, HA, HJ12, BK249, HB⟩ := hcut
          cases kq with
          | zero => exact absurd HA.out (by simp [bezantlaw10_DynTells.j1])
          | succ kj12 =>
            have H := HA.out
            clear HA
            simp only [bezantlaw10_DynTells.j1] at H
            by_cases c32 : x71_12 = true
            · subst c32
              have H1 : (none) = some r := by rw [if_pos rfl] at H; exact H
              clear H
              have H := H1
              clear H1
              exact absurd H (by simp)
            · replace c32 := Bool.eq_false_iff.mpr c32
              subst c32
              have H1 : ((dyn_All.f kj12 l2 a1_0 a1_1).bind fun bt265 => ((bezantref04_Dyns.f kj12 l2 a1_0 a1_1).bind fun bt274 => ((bezantlaw00_Spot.f bt265.2.1 bt265.2.2.1 bt265.2.2.2.1 bt265.2.2.2.2).bind fun bt278 => ((dyn_Find.f kj12 l0 a3).bind fun bt280 => ((bezantref04_Find.f kj12 l0 a3).bind fun bt282 => (if t250 = true then ((bezantlaw10_same.f kj12 bt265.1 bt274.1).bind fun t284 => (if t284 = 1 then (if bt274.2 < 0 then (if bt278.1 = 0 then (if bt280.1 = bt282.1 then (some (bt280.2 == bt282.2)) else (none)) else (if bt274.2 ≥ 0 then (if bt278.1 = 2 then (if bt278.2 = bt274.2 then (if bt280.1 = bt282.1 then (some (bt280.2 == bt282.2)) else (none)) else (none)) else (none)) else (none))) else (if bt274.2 ≥ 0 then (if bt278.1 = 2 then (if bt278.2 = bt274.2 then (if bt280.1 = bt282.1 then (some (bt280.2 == bt282.2)) else (none)) else (none)) else (none)) else (none))) else (none))) else (none))))))) = some r := by rw [if_neg (show ¬ (false = true) by decide)] at H; exact H
              clear H
              have H := H1
              clear H1
              replace H := Option.bind_eq_some_iff.mp H
              obtain ⟨⟨t265, t268, t269, t270, t271⟩, A330, H⟩ := H
              replace H : ((bezantref04_Dyns.f kj12 l2 a1_0 a1_1).bind fun bt274 => ((bezantlaw00_Spot.f t268 t269 t270 t271).bind fun bt278 => ((dyn_Find.f kj12 l0 a3).bind fun bt280 => ((bezantref04_Find.f kj12 l0 a3).bind fun bt282 => (if t250 = true then ((bezantlaw10_same.f kj12 t265 bt274.1).bind fun t284 => (if t284 = 1 then (if bt274.2 < 0 then (if bt278.1 = 0 then (if bt280.1 = bt282.1 then (some (bt280.2 == bt282.2)) else (none)) else (if bt274.2 ≥ 0 then (if bt278.1 = 2 then (if bt278.2 = bt274.2 then (if bt280.1 = bt282.1 then (some (bt280.2 == bt282.2)) else (none)) else (none)) else (none)) else (none))) else (if bt274.2 ≥ 0 then (if bt278.1 = 2 then (if bt278.2 = bt274.2 then (if bt280.1 = bt282.1 then (some (bt280.2 == bt282.2)) else (none)) else (none)) else (none)) else (none))) else (none))) else (none)))))) = some r := H
              have A33 := Aside0.mk A330
              clear A330
              replace H := Option.bind_eq_some_iff.mp H
              obtain ⟨⟨t274, t277⟩, A340, H⟩ := H
              replace H : ((bezantlaw00_Spot.f t268 t269 t270 t271).bind fun bt278 => ((dyn_Find.f kj12 l0 a3).bind fun bt280 => ((bezantref04_Find.f kj12 l0 a3).bind fun bt282 => (if t250 = true then ((bezantlaw10_same.f kj12 t265 t274).bind fun t284 => (if t284 = 1 then (if t277 < 0 then (if bt278.1 = 0 then (if bt280.1 = bt282.1 then (some (bt280.2 == bt282.2)) else (none)) else (if t277 ≥ 0 then (if bt278.1 = 2 then (if bt278.2 = t277 then (if bt280.1 = bt282.1 then (some (bt280.2 == bt282.2)) else (none)) else (none)) else (none)) else (none))) else (if t277 ≥ 0 then (if bt278.1 = 2 then (if bt278.2 = t277 then (if bt280.1 = bt282.1 then (some (bt280.2 == bt282.2)) else (none)) else (none)) else (none)) else (none))) else (none))) else (none))))) = some r := H
              have A34 := Aside0.mk A340
              clear A340
              replace H := Option.bind_eq_some_iff.mp H
              obtain ⟨⟨t278, t279⟩, A350, H⟩ := H
              replace H : ((dyn_Find.f kj12 l0 a3).bind fun bt280 => ((bezantref04_Find.f kj12 l0 a3).bind fun bt282 => (if t250 = true then ((bezantlaw10_same.f kj12 t265 t274).bind fun t284 => (if t284 = 1 then (if t277 < 0 then (if t278 = 0 then (if bt280.1 = bt282.1 then (some (bt280.2 == bt282.2)) else (none)) else (if t277 ≥ 0 then (if t278 = 2 then (if t279 = t277 then (if bt280.1 = bt282.1 then (some (bt280.2 == bt282.2)) else (none)) else (none)) else (none)) else (none))) else (if t277 ≥ 0 then (if t278 = 2 then (if t279 = t277 then (if bt280.1 = bt282.1 then (some (bt280.2 == bt282.2)) else (none)) else (none)) else (none)) else (none))) else (none))) else (none)))) = some r := H
              have A35 := Aside0.mk A350
              clear A350
              replace H := Option.bind_eq_some_iff.mp H
              obtain ⟨⟨t280, t281⟩, A360, H⟩ := H
              replace H : ((bezantref04_Find.f kj12 l0 a3).bind fun bt282 => (if t250 = true then ((bezantlaw10_same.f kj12 t265 t274).bind fun t284 => (if t284 = 1 then (if t277 < 0 then (if t278 = 0 then (if t280 = bt282.1 then (some (t281 == bt282.2)) else (none)) else (if t277 ≥ 0 then (if t278 = 2 then (if t279 = t277 then (if t280 = bt282.1 then (some (t281 == bt282.2)) else (none)) else (none)) else (none)) else (none))) else (if t277 ≥ 0 then (if t278 = 2 then (if t279 = t277 then (if t280 = bt282.1 then (some (t281 == bt282.2)) else (none)) else (none)) else (none)) else (none))) else (none))) else (none))) = some r := H
              have A36 := Aside0.mk A360
              clear A360
              replace H := Option.bind_eq_some_iff.mp H
              obtain ⟨⟨t282, t283⟩, A370, H⟩ := H
              replace H : (if t250 = true then ((bezantlaw10_same.f kj12 t265 t274).bind fun t284 => (if t284 = 1 then (if t277 < 0 then (if t278 = 0 then (if t280 = t282 then (some (t281 == t283)) else (none)) else (if t277 ≥ 0 then (if t278 = 2 then (if t279 = t277 then (if t280 = t282 then (some (t281 == t283)) else (none)) else (none)) else (none)) else (none))) else (if t277 ≥ 0 then (if t278 = 2 then (if t279 = t277 then (if t280 = t282 then (some (t281 == t283)) else (none)) else (none)) else (none)) else (none))) else (none))) else (none)) = some r := H
              have A37 := Aside0.mk A370
              clear A370
              by_cases c38 : t250 = true
              · subst c38
                have H1 : ((bezantlaw10_same.f kj12 t265 t274).bind fun t284 => (if t284 = 1 then (if t277 < 0 then (if t278 = 0 then (if t280 = t282 then (some (t281 == t283)) else (none)) else (if t277 ≥ 0 then (if t278 = 2 then (if t279 = t277 then (if t280 = t282 then (some (t281 == t283)) else (none)) else (none)) else (none)) else (none))) else (if t277 ≥ 0 then (if t278 = 2 then (if t279 = t277 then (if t280 = t282 then (some (t281 == t283)) else (none)) else (none)) else (none)) else (none))) else (none))) = some r := by rw [if_pos rfl] at H; exact H
                clear H
                have H := H1
                clear H1
                replace H := Option.bind_eq_some_iff.mp H
                obtain ⟨t284, A390, H⟩ := H
                replace H : (if t284 = 1 then (if t277 < 0 then (if t278 = 0 then (if t280 = t282 then (some (t281 == t283)) else (none)) else (if t277 ≥ 0 then (if t278 = 2 then (if t279 = t277 then (if t280 = t282 then (some (t281 == t283)) else (none)) else (none)) else (none)) else (none))) else (if t277 ≥ 0 then (if t278 = 2 then (if t279 = t277 then (if t280 = t282 then (some (t281 == t283)) else (none)) else (none)) else (none)) else (none))) else (none)) = some r := H
                have A39 := Aside0.mk A390
                clear A390
                by_cases c40 : t284 = 1
                · rw [if_pos c40] at H
                  have c40b0 : (t284 == 1) = true := beq_iff_eq.mpr c40
                  have c40b1 : (t284 != 1) = false := bne_eq_false_iff_eq.mpr c40
                  clear c40
                  by_cases c41 : t277 < 0
                  · rw [if_pos c41] at H
                    have c41b0 : decide (t277 < 0) = true := decide_eq_true c41
                    clear c41
                    by_cases c42 : t278 = 0
                    · rw [if_pos c42] at H
                      have c42b0 : (t278 == 0) = true := beq_iff_eq.mpr c42
                      have c42b1 : (t278 != 0) = false := bne_eq_false_iff_eq.mpr c42
                      clear c42
                      by_cases c43 : t280 = t282
                      · rw [if_pos c43] at H
                        have c43b0 : (t280 == t282) = true := beq_iff_eq.mpr c43
                        have c43b1 : (t280 != t282) = false := bne_eq_false_iff_eq.mpr c43
                        clear c43
                        obtain rfl := Option.some.inj H
                        have hcz44_0 : wc.cell? ⟨gb249, 0, none⟩ = some (.bool a1_0) := (blk_cell BK249.out 0).trans rfl
                        have hcz44_1 : wc.cell? ⟨gb249, 1, none⟩ = some (.bool a1_1) := (blk_cell BK249.out 1).trans rfl
                        have hfz44_0 := blk_frozen BK249.out 0
                        have hfz44_1 := blk_frozen BK249.out 1
                        go_wp2_with (first | ((with_reducible refine gate_callee (f := 40) rfl ?_); refine goesL_ (some 75) rfl rfl Try.func40 (by kernel_rfl) rfl #[.slice A2 l2.length c2, .agg #[.bool a1_0, .bool a1_1]] rfl (by (try simp only [List.map_toArray, List.map_cons, List.map_nil]); first | done | rfl | (simp only [List.length_drop, List.length_take]; rfl)) ?_; (with_reducible refine (dyn_All.calls kj12 _ _ l2 a1_0 a1_1 t265 t268 t269 t270 t271 _ ?side1 ?side2 A33.out).mono ?_); (case side1 => repeat (first | exact (Kd.C_below HR2.out HB.out) | (with_reducible refine Kd.C_alloc ?_ _) | (with_reducible refine Kd.C_drewN ?_ _) | (with_reducible refine Kd.C_drew ?_))); (case side2 => exact HC2.out); rintro e w45 ⟨v266, v272, rfl, ho0, ho1, hb⟩; refine ⟨_, rfl, ?_⟩; have n0_ := Aside0.mk (Kd.R_lower ho0 (below_size (by repeat (first | (with_reducible first | exact HB.out | apply below_alloc | apply pw_below_drewN | apply below_drew1 | refine below_set ?_ GE249.out) | exact HB.out)))); have n1_ := Aside0.mk (Kd.R_lower ho1 (below_size (by repeat (first | (with_reducible first | exact HB.out | apply below_alloc | apply pw_below_drewN | apply below_drew1 | refine below_set ?_ GE249.out) | exact HB.out)))); have n2_ := Aside0.mk (blk_below (g := gb249) (o := .cells #[.bool a1_0, .bool a1_1] 36 (0, 0)) (by (with_reducible repeat (first | refine blk_drewN ?_ _ | refine blk_drew ?_ | refine blk_alloc ?_ _)); exact BK249.out) hb); have n3_ := Aside0.mk (below_step (by repeat (first | (with_reducible first | exact HB.out | apply below_alloc | apply pw_below_drewN | apply below_drew1 | refine below_set ?_ GE249.out) | exact HB.out)) hb); clear BK249; clear HB; have HO267 := n0_; have HO273 := n1_; have BK249 := n2_; have HB := n3_; clear n0_ n1_ n2_ n3_; (try clear hb); (try clear hb2); (try clear hk); (try clear hi); (try clear ho0); (try clear ho1); have hcz46_0 : w45.cell? ⟨gb249, 0, none⟩ = some (.bool a1_0) := (blk_cell BK249.out 0).trans rfl; have hcz46_1 : w45.cell? ⟨gb249, 1, none⟩ = some (.bool a1_1) := (blk_cell BK249.out 1).trans rfl; have hfz46_0 := blk_frozen BK249.out 0; have hfz46_1 := blk_frozen BK249.out 1) | ((with_reducible refine gate_callee (f := 41) rfl ?_); refine goesL_ (some 81) rfl rfl Try.func41 (by kernel_rfl) rfl #[.slice A2 l2.length c2, .agg #[.bool a1_0, .bool a1_1]] rfl (by (try simp only [List.map_toArray, List.map_cons, List.map_nil]); first | done | rfl | (simp only [List.length_drop, List.length_take]; rfl)) ?_; (with_reducible refine (bezantref04_Dyns.calls kj12 _ _ l2 a1_0 a1_1 t274 t277 _ ?side1 ?side2 A34.out).mono ?_); (case side1 => repeat (first | exact (Kd.C_below HR2.out HB.out) | (with_reducible refine Kd.C_alloc ?_ _) | (with_reducible refine Kd.C_drewN ?_ _) | (with_reducible refine Kd.C_drew ?_))); (case side2 => exact HC2.out); rintro e w47 ⟨v275, rfl, ho0, hb⟩; refine ⟨_, rfl, ?_⟩; have n0_ := Aside0.mk (Kd.R_elder' (by (with_reducible repeat (first | apply Kd.R_alloc | apply Kd.R_drewN | apply Kd.R_drew)); exact HO267.out) (Kd.R_base ho0) hb); have n1_ := Aside0.mk (Kd.R_below (by (with_reducible repeat (first | apply Kd.R_alloc | apply Kd.R_drewN | apply Kd.R_drew)); exact HO273.out) hb); have n2_ := Aside0.mk (Kd.R_lower (Kd.R_new' ho0 (Kd.R_lt (by (with_reducible repeat (first | apply Kd.R_alloc | apply Kd.R_drewN | apply Kd.R_drew)); exact HO267.out))) (below_size (by repeat (first | (with_reducible first | exact HB.out | apply below_alloc | apply pw_below_drewN | apply below_drew1 | refine below_set ?_ GE249.out) | exact HB.out)))); have n3_ := Aside0.mk (blk_below (g := gb249) (o := .cells #[.bool a1_0, .bool a1_1] 36 (0, 0)) (by (with_reducible repeat (first | refine blk_drewN ?_ _ | refine blk_drew ?_ | refine blk_alloc ?_ _)); exact BK249.out) hb); have n4_ := Aside0.mk (below_step (by repeat (first | (with_reducible first | exact HB.out | apply below_alloc | apply pw_below_drewN | apply below_drew1 | refine below_set ?_ GE249.out) | exact HB.out)) hb); clear HO267; clear HO273; clear BK249; clear HB; have HO267 := n0_; have HO273 := n1_; have HO276 := n2_; have BK249 := n3_; have HB := n4_; clear n0_ n1_ n2_ n3_ n4_; (try clear hb); (try clear hb2); (try clear hk); (try clear hi); (try clear ho0); obtain ⟨Ao48, co48, eo48⟩ := Kd.R_slice HO273.out; subst eo48) | ((with_reducible refine gate_callee (f := 23) rfl ?_); refine goesL_ (some 86) rfl rfl Try.func23 (by kernel_rfl) rfl #[errW2 (.bool t268) (.bool t269) (.int .i64 t270) (.slice Ao48 t271.length co48)] rfl (by (try simp only [List.map_toArray, List.map_cons, List.map_nil]); first | done | rfl | (simp only [List.length_drop, List.length_take]; rfl)) ?_; (with_reducible refine (bezantlaw00_Spot.calls t268 t269 t270 _ _ t271 t278 t279 _ ?side1 ?side2 A35.out).mono ?_); (case side1 => repeat (first | exact (Kd.R_reads' HO273.out).2.2 | (with_reducible refine Kd.C_alloc ?_ _) | (with_reducible refine Kd.C_drewN ?_ _) | (with_reducible refine Kd.C_drew ?_))); (case side2 => exact (Kd.R_reads' HO273.out).2.1); rintro e w49 ⟨rfl, hb⟩; refine ⟨_, rfl, ?_⟩; have n0_ := Aside0.mk (Kd.R_below (by (with_reducible repeat (first | apply Kd.R_alloc | apply Kd.R_drewN | apply Kd.R_drew)); exact HO267.out) hb); have n1_ := Aside0.mk (Kd.R_below (by (with_reducible repeat (first | apply Kd.R_alloc | apply Kd.R_drewN | apply Kd.R_drew)); exact HO273.out) hb); have n2_ := Aside0.mk (Kd.R_below (by (with_reducible repeat (first | apply Kd.R_alloc | apply Kd.R_drewN | apply Kd.R_drew)); exact HO276.out) hb); have n3_ := Aside0.mk (blk_below (g := gb249) (o := .cells #[.bool a1_0, .bool a1_1] 36 (0, 0)) (by (with_reducible repeat (first | refine blk_drewN ?_ _ | refine blk_drew ?_ | refine blk_alloc ?_ _)); exact BK249.out) hb); have n4_ := Aside0.mk (below_step (by repeat (first | (with_reducible first | exact HB.out | apply below_alloc | apply pw_below_drewN | apply below_drew1 | refine below_set ?_ GE249.out) | exact HB.out)) hb); clear HO267; clear HO273; clear HO276; clear BK249; clear HB; have HO267 := n0_; have HO273 := n1_; have HO276 := n2_; have BK249 := n3_; have HB := n4_; clear n0_ n1_ n2_ n3_ n4_; (try clear hb); (try clear hb2); (try clear hk); (try clear hi)) | ((with_reducible refine gate_callee (f := 42) rfl ?_); refine goesL_ (some 92) rfl rfl Try.func42 (by kernel_rfl) rfl #[.slice A0 l0.length c0, .int .u64 a3] rfl (by (try simp only [List.map_toArray, List.map_cons, List.map_nil]); first | done | rfl | (simp only [List.length_drop, List.length_take]; rfl)) ?_; (with_reducible refine (dyn_Find.calls kj12 _ _ l0 a3 t280 t281 _ ?side1 ?side2 A36.out).mono ?_); (case side1 => repeat (first | exact (Kd.C_below HR0.out HB.out) | (with_reducible refine Kd.C_alloc ?_ _) | (with_reducible refine Kd.C_drewN ?_ _) | (with_reducible refine Kd.C_drew ?_))); (case side2 => exact HC0.out); rintro e w50 ⟨rfl, hb⟩; refine ⟨_, rfl, ?_⟩; have n0_ := Aside0.mk (Kd.R_below (by (with_reducible repeat (first | apply Kd.R_alloc | apply Kd.R_drewN | apply Kd.R_drew)); exact HO267.out) hb); have n1_ := Aside0.mk (Kd.R_below (by (with_reducible repeat (first | apply Kd.R_alloc | apply Kd.R_drewN | apply Kd.R_drew)); exact HO273.out) hb); have n2_ := Aside0.mk (Kd.R_below (by (with_reducible repeat (first | apply Kd.R_alloc | apply Kd.R_drewN | apply Kd.R_drew)); exact HO276.out) hb); have n3_ := Aside0.mk (blk_below (g := gb249) (o := .cells #[.bool a1_0, .bool a1_1] 36 (0, 0)) (by (with_reducible repeat (first | refine blk_drewN ?_ _ | refine blk_drew ?_ | refine blk_alloc ?_ _)); exact BK249.out) hb); have n4_ := Aside0.mk (below_step (by repeat (first | (with_reducible first | exact HB.out | apply below_alloc | apply pw_below_drewN | apply below_drew1 | refine below_set ?_ GE249.out) | exact HB.out)) hb); clear HO267; clear HO273; clear HO276; clear BK249; clear HB; have HO267 := n0_; have HO273 := n1_; have HO276 := n2_; have BK249 := n3_; have HB := n4_; clear n0_ n1_ n2_ n3_ n4_; (try clear hb); (try clear hb2); (try clear hk); (try clear hi)) | ((with_reducible refine gate_callee (f := 43) rfl ?_); refine goesL_ (some 98) rfl rfl Try.func43 (by kernel_rfl) rfl #[.slice A0 l0.length c0, .int .u64 a3] rfl (by (try simp only [List.map_toArray, List.map_cons, List.map_nil]); first | done | rfl | (simp only [List.length_drop, List.length_take]; rfl)) ?_; (with_reducible refine (bezantref04_Find.calls kj12 _ _ l0 a3 t282 t283 _ ?side1 ?side2 A37.out).mono ?_); (case side1 => repeat (first | exact (Kd.C_below HR0.out HB.out) | (with_reducible refine Kd.C_alloc ?_ _) | (with_reducible refine Kd.C_drewN ?_ _) | (with_reducible refine Kd.C_drew ?_))); (case side2 => exact HC0.out); rintro e w' ⟨rfl, ⟨nd, rfl⟩⟩; refine ⟨_, rfl, ?_⟩; obtain ⟨Ao51, co51, eo51⟩ := Kd.R_slice HO267.out; subst eo51; obtain ⟨Ao52, co52, eo52⟩ := Kd.R_slice HO276.out; subst eo52) | (go_at_call 44; (with_reducible refine (bezantlaw10_same.calls kj12 _ _ t265 _ _ t274 t284 _ ?side1 ?side2 ?side3 ?side4 A39.out).mono ?_); (case side1 => repeat (first | exact (Kd.R_reads' HO267.out).2.2 | (with_reducible refine Kd.C_alloc ?_ _) | (with_reducible refine Kd.C_drewN ?_ _) | (with_reducible refine Kd.C_drew ?_))); (case side2 => exact (Kd.R_reads' HO267.out).2.1); (case side3 => repeat (first | exact (Kd.R_reads' HO276.out).2.2 | (with_reducible refine Kd.C_alloc ?_ _) | (with_reducible refine Kd.C_drewN ?_ _) | (with_reducible refine Kd.C_drew ?_))); (case side4 => exact (Kd.R_reads' HO276.out).2.1); rintro e w' ⟨rfl, ⟨nd, rfl⟩⟩))
                        go_ret
                        exact ⟨by first | rfl | (simp [errW_none, errW_some] <;> rfl) | (simp [*, errW_none, errW_some] <;> rfl), by repeat (first | (with_reducible first | exact HB.out | apply below_alloc | apply pw_below_drewN | apply below_drew1 | refine below_set ?_ GE249.out) | exact HB.out)⟩
                      · rw [if_neg c43] at H
                        exact absurd H (by simp)
                    · rw [if_neg c42] at H
                      have c42b0 : (t278 == 0) = false := beq_eq_false_iff_ne.mpr c42
                      have c42b1 : (t278 != 0) = true := bne_iff_ne.mpr c42
                      by_cases c53 : t277 ≥ 0
                      · rw [if_pos c53] at H
                        have c53b0 : decide (0 ≤ t277) = true := decide_eq_true c53
                        clear c53
                        by_cases c54 : t278 = 2
                        · rw [if_pos c54] at H
                          have c54b0 : (t278 == 2) = true := beq_iff_eq.mpr c54
                          have c54b1 : (t278 != 2) = false := bne_eq_false_iff_eq.mpr c54
                          clear c54
                          by_cases c55 : t279 = t277
                          · rw [if_pos c55] at H
                            have c55b0 : (t279 == t277) = true := beq_iff_eq.mpr c55
                            have c55b1 : (t279 != t277) = false := bne_eq_false_iff_eq.mpr c55
                            clear c55
                            by_cases c56 : t280 = t282
                            · rw [if_pos c56] at H
                              have c56b0 : (t280 == t282) = true := beq_iff_eq.mpr c56
                              have c56b1 : (t280 != t282) = false := bne_eq_false_iff_eq.mpr c56
                              clear c56
                              obtain rfl := Option.some.inj H
                              have hcz57_0 : wc.cell? ⟨gb249, 0, none⟩ = some (.bool a1_0) := (blk_cell BK249.out 0).trans rfl
                              have hcz57_1 : wc.cell? ⟨gb249, 1, none⟩ = some (.bool a1_1) := (blk_cell BK249.out 1).trans rfl
                              have hfz57_0 := blk_frozen BK249.out 0
                              have hfz57_1 := blk_frozen BK249.out 1
                              go_wp2_with (first | ((with_reducible refine gate_callee (f := 40) rfl ?_); refine goesL_ (some 75) rfl rfl Try.func40 (by kernel_rfl) rfl #[.slice A2 l2.length c2, .agg #[.bool a1_0, .bool a1_1]] rfl (by (try simp only [List.map_toArray, List.map_cons, List.map_nil]); first | done | rfl | (simp only [List.length_drop, List.length_take]; rfl)) ?_; (with_reducible refine (dyn_All.calls kj12 _ _ l2 a1_0 a1_1 t265 t268 t269 t270 t271 _ ?side1 ?side2 A33.out).mono ?_); (case side1 => repeat (first | exact (Kd.C_below HR2.out HB.out) | (with_reducible refine Kd.C_alloc ?_ _) | (with_reducible refine Kd.C_drewN ?_ _) | (with_reducible refine Kd.C_drew ?_))); (case side2 => exact HC2.out); rintro e w58 ⟨v266, v272, rfl, ho0, ho1, hb⟩; refine ⟨_, rfl, ?_⟩; have n0_ := Aside0.mk (Kd.R_lower ho0 (below_size (by repeat (first | (with_reducible first | exact HB.out | apply below_alloc | apply pw_below_drewN | apply below_drew1 | refine below_set ?_ GE249.out) | exact HB.out)))); have n1_ := Aside0.mk (Kd.R_lower ho1 (below_size (by repeat (first | (with_reducible first | exact HB.out | apply below_alloc | apply pw_below_drewN | apply below_drew1 | refine below_set ?_ GE249.out) | exact HB.out)))); have n2_ := Aside0.mk (blk_below (g := gb249) (o := .cells #[.bool a1_0, .bool a1_1] 36 (0, 0)) (by (with_reducible repeat (first | refine blk_drewN ?_ _ | refine blk_drew ?_ | refine blk_alloc ?_ _)); exact BK249.out) hb); have n3_ := Aside0.mk (below_step (by repeat (first | (with_reducible first | exact HB.out | apply below_alloc | apply pw_below_drewN | apply below_drew1 | refine below_set ?_ GE249.out) | exact HB.out)) hb); clear BK249; clear HB; have HO267 := n0_; have HO273 := n1_; have BK249 := n2_; have HB := n3_; clear n0_ n1_ n2_ n3_; (try clear hb); (try clear hb2); (try clear hk); (try clear hi); (try clear ho0); (try clear ho1); have hcz59_0 : w58.cell? ⟨gb249, 0, none⟩ = some (.bool a1_0) := (blk_cell BK249.out 0).trans rfl; have hcz59_1 : w58.cell? ⟨gb249, 1, none⟩ = some (.bool a1_1) := (blk_cell BK249.out 1).trans rfl; have hfz59_0 := blk_frozen BK249.out 0; have hfz59_1 := blk_frozen BK249.out 1) | ((with_reducible refine gate_callee (f := 41) rfl ?_); refine goesL_ (some 81) rfl rfl Try.func41 (by kernel_rfl) rfl #[.slice A2 l2.length c2, .agg #[.bool a1_0, .bool a1_1]] rfl (by (try simp only [List.map_toArray, List.map_cons, List.map_nil]); first | done | rfl | (simp only [List.length_drop, List.length_take]; rfl)) ?_; (with_reducible refine (bezantref04_Dyns.calls kj12 _ _ l2 a1_0 a1_1 t274 t277 _ ?side1 ?side2 A34.out).mono ?_); (case side1 => repeat (first | exact (Kd.C_below HR2.out HB.out) | (with_reducible refine Kd.C_alloc ?_ _) | (with_reducible refine Kd.C_drewN ?_ _) | (with_reducible refine Kd.C_drew ?_))); (case side2 => exact HC2.out); rintro e w60 ⟨v275, rfl, ho0, hb⟩; refine ⟨_, rfl, ?_⟩; have n0_ := Aside0.mk (Kd.R_elder' (by (with_reducible repeat (first | apply Kd.R_alloc | apply Kd.R_drewN | apply Kd.R_drew)); exact HO267.out) (Kd.R_base ho0) hb); have n1_ := Aside0.mk (Kd.R_below (by (with_reducible repeat (first | apply Kd.R_alloc | apply Kd.R_drewN | apply Kd.R_drew)); exact HO273.out) hb); have n2_ := Aside0.mk (Kd.R_lower (Kd.R_new' ho0 (Kd.R_lt (by (with_reducible repeat (first | apply Kd.R_alloc | apply Kd.R_drewN | apply Kd.R_drew)); exact HO267.out))) (below_size (by repeat (first | (with_reducible first | exact HB.out | apply below_alloc | apply pw_below_drewN | apply below_drew1 | refine below_set ?_ GE249.out) | exact HB.out)))); have n3_ := Aside0.mk (blk_below (g := gb249) (o := .cells #[.bool a1_0, .bool a1_1] 36 (0, 0)) (by (with_reducible repeat (first | refine blk_drewN ?_ _ | refine blk_drew ?_ | refine blk_alloc ?_ _)); exact BK249.out) hb); have n4_ := Aside0.mk (below_step (by repeat (first | (with_reducible first | exact HB.out | apply below_alloc | apply pw_below_drewN | apply below_drew1 | refine below_set ?_ GE249.out) | exact HB.out)) hb); clear HO267; clear HO273; clear BK249; clear HB; have HO267 := n0_; have HO273 := n1_; have HO276 := n2_; have BK249 := n3_; have HB := n4_; clear n0_ n1_ n2_ n3_ n4_; (try clear hb); (try clear hb2); (try clear hk); (try clear hi); (try clear ho0); obtain ⟨Ao61, co61, eo61⟩ := Kd.R_slice HO273.out; subst eo61) | ((with_reducible refine gate_callee (f := 23) rfl ?_); refine goesL_ (some 86) rfl rfl Try.func23 (by kernel_rfl) rfl #[errW2 (.bool t268) (.bool t269) (.int .i64 t270) (.slice Ao61 t271.length co61)] rfl (by (try simp only [List.map_toArray, List.map_cons, List.map_nil]); first | done | rfl | (simp only [List.length_drop, List.length_take]; rfl)) ?_; (with_reducible refine (bezantlaw00_Spot.calls t268 t269 t270 _ _ t271 t278 t279 _ ?side1 ?side2 A35.out).mono ?_); (case side1 => repeat (first | exact (Kd.R_reads' HO273.out).2.2 | (with_reducible refine Kd.C_alloc ?_ _) | (with_reducible refine Kd.C_drewN ?_ _) | (with_reducible refine Kd.C_drew ?_))); (case side2 => exact (Kd.R_reads' HO273.out).2.1); rintro e w62 ⟨rfl, hb⟩; refine ⟨_, rfl, ?_⟩; have n0_ := Aside0.mk (Kd.R_below (by (with_reducible repeat (first | apply Kd.R_alloc | apply Kd.R_drewN | apply Kd.R_drew)); exact HO267.out) hb); have n1_ := Aside0.mk (Kd.R_below (by (with_reducible repeat (first | apply Kd.R_alloc | apply Kd.R_drewN | apply Kd.R_drew)); exact HO273.out) hb); have n2_ := Aside0.mk (Kd.R_below (by (with_reducible repeat (first | apply Kd.R_alloc | apply Kd.R_drewN | apply Kd.R_drew)); exact HO276.out) hb); have n3_ := Aside0.mk (blk_below (g := gb249) (o := .cells #[.bool a1_0, .bool a1_1] 36 (0, 0)) (by (with_reducible repeat (first | refine blk_drewN ?_ _ | refine blk_drew ?_ | refine blk_alloc ?_ _)); exact BK249.out) hb); have n4_ := Aside0.mk (below_step (by repeat (first | (with_reducible first | exact HB.out | apply below_alloc | apply pw_below_drewN | apply below_drew1 | refine below_set ?_ GE249.out) | exact HB.out)) hb); clear HO267; clear HO273; clear HO276; clear BK249; clear HB; have HO267 := n0_; have HO273 := n1_; have HO276 := n2_; have BK249 := n3_; have HB := n4_; clear n0_ n1_ n2_ n3_ n4_; (try clear hb); (try clear hb2); (try clear hk); (try clear hi)) | ((with_reducible refine gate_callee (f := 42) rfl ?_); refine goesL_ (some 92) rfl rfl Try.func42 (by kernel_rfl) rfl #[.slice A0 l0.length c0, .int .u64 a3] rfl (by (try simp only [List.map_toArray, List.map_cons, List.map_nil]); first | done | rfl | (simp only [List.length_drop, List.length_take]; rfl)) ?_; (with_reducible refine (dyn_Find.calls kj12 _ _ l0 a3 t280 t281 _ ?side1 ?side2 A36.out).mono ?_); (case side1 => repeat (first | exact (Kd.C_below HR0.out HB.out) | (with_reducible refine Kd.C_alloc ?_ _) | (with_reducible refine Kd.C_drewN ?_ _) | (with_reducible refine Kd.C_drew ?_))); (case side2 => exact HC0.out); rintro e w63 ⟨rfl, hb⟩; refine ⟨_, rfl, ?_⟩; have n0_ := Aside0.mk (Kd.R_below (by (with_reducible repeat (first | apply Kd.R_alloc | apply Kd.R_drewN | apply Kd.R_drew)); exact HO267.out) hb); have n1_ := Aside0.mk (Kd.R_below (by (with_reducible repeat (first | apply Kd.R_alloc | apply Kd.R_drewN | apply Kd.R_drew)); exact HO273.out) hb); have n2_ := Aside0.mk (Kd.R_below (by (with_reducible repeat (first | apply Kd.R_alloc | apply Kd.R_drewN | apply Kd.R_drew)); exact HO276.out) hb); have n3_ := Aside0.mk (blk_below (g := gb249) (o := .cells #[.bool a1_0, .bool a1_1] 36 (0, 0)) (by (with_reducible repeat (first | refine blk_drewN ?_ _ | refine blk_drew ?_ | refine blk_alloc ?_ _)); exact BK249.out) hb); have n4_ := Aside0.mk (below_step (by repeat (first | (with_reducible first | exact HB.out | apply below_alloc | apply pw_below_drewN | apply below_drew1 | refine below_set ?_ GE249.out) | exact HB.out)) hb); clear HO267; clear HO273; clear HO276; clear BK249; clear HB; have HO267 := n0_; have HO273 := n1_; have HO276 := n2_; have BK249 := n3_; have HB := n4_; clear n0_ n1_ n2_ n3_ n4_; (try clear hb); (try clear hb2); (try clear hk); (try clear hi)) | ((with_reducible refine gate_callee (f := 43) rfl ?_); refine goesL_ (some 98) rfl rfl Try.func43 (by kernel_rfl) rfl #[.slice A0 l0.length c0, .int .u64 a3] rfl (by (try simp only [List.map_toArray, List.map_cons, List.map_nil]); first | done | rfl | (simp only [List.length_drop, List.length_take]; rfl)) ?_; (with_reducible refine (bezantref04_Find.calls kj12 _ _ l0 a3 t282 t283 _ ?side1 ?side2 A37.out).mono ?_); (case side1 => repeat (first | exact (Kd.C_below HR0.out HB.out) | (with_reducible refine Kd.C_alloc ?_ _) | (with_reducible refine Kd.C_drewN ?_ _) | (with_reducible refine Kd.C_drew ?_))); (case side2 => exact HC0.out); rintro e w' ⟨rfl, ⟨nd, rfl⟩⟩; refine ⟨_, rfl, ?_⟩; obtain ⟨Ao64, co64, eo64⟩ := Kd.R_slice HO267.out; subst eo64; obtain ⟨Ao65, co65, eo65⟩ := Kd.R_slice HO276.out; subst eo65) | (go_at_call 44; (with_reducible refine (bezantlaw10_same.calls kj12 _ _ t265 _ _ t274 t284 _ ?side1 ?side2 ?side3 ?side4 A39.out).mono ?_); (case side1 => repeat (first | exact (Kd.R_reads' HO267.out).2.2 | (with_reducible refine Kd.C_alloc ?_ _) | (with_reducible refine Kd.C_drewN ?_ _) | (with_reducible refine Kd.C_drew ?_))); (case side2 => exact (Kd.R_reads' HO267.out).2.1); (case side3 => repeat (first | exact (Kd.R_reads' HO276.out).2.2 | (with_reducible refine Kd.C_alloc ?_ _) | (with_reducible refine Kd.C_drewN ?_ _) | (with_reducible refine Kd.C_drew ?_))); (case side4 => exact (Kd.R_reads' HO276.out).2.1); rintro e w' ⟨rfl, ⟨nd, rfl⟩⟩))
                              go_ret
                              exact ⟨by first | rfl | (simp [errW_none, errW_some] <;> rfl) | (simp [*, errW_none, errW_some] <;> rfl), by repeat (first | (with_reducible first | exact HB.out | apply below_alloc | apply pw_below_drewN | apply below_drew1 | refine below_set ?_ GE249.out) | exact HB.out)⟩
                            · rw [if_neg c56] at H
                              exact absurd H (by simp)
                          · rw [if_neg c55] at H
                            exact absurd H (by simp)
                        · rw [if_neg c54] at H
                          exact absurd H (by simp)
                      · rw [if_neg c53] at H
                        exact absurd H (by simp)
                  · rw [if_neg c41] at H
                    have c41b0 : decide (t277 < 0) = false := decide_eq_false c41
                    clear c41
                    by_cases c66 : t277 ≥ 0
                    · rw [if_pos c66] at H
                      have c66b0 : decide (0 ≤ t277) = true := decide_eq_true c66
                      clear c66
                      by_cases c67 : t278 = 2
                      · rw [if_pos c67] at H
                        have c67b0 : (t278 == 2) = true := beq_iff_eq.mpr c67
                        have c67b1 : (t278 != 2) = false := bne_eq_false_iff_eq.mpr c67
                        clear c67
                        by_cases c68 : t279 = t277
                        · rw [if_pos c68] at H
                          have c68b0 : (t279 == t277) = true := beq_iff_eq.mpr c68
                          have c68b1 : (t279 != t277) = false := bne_eq_false_iff_eq.mpr c68
                          clear c68
                          by_cases c69 : t280 = t282
                          · rw [if_pos c69] at H
                            have c69b0 : (t280 == t282) = true := beq_iff_eq.mpr c69
                            have c69b1 : (t280 != t282) = false := bne_eq_false_iff_eq.mpr c69
                            clear c69
                            obtain rfl := Option.some.inj H
                            have hcz70_0 : wc.cell? ⟨gb249, 0, none⟩ = some (.bool a1_0) := (blk_cell BK249.out 0).trans rfl
                            have hcz70_1 : wc.cell? ⟨gb249, 1, none⟩ = some (.bool a1_1) := (blk_cell BK249.out 1).trans rfl
                            have hfz70_0 := blk_frozen BK249.out 0
                            have hfz70_1 := blk_frozen BK249.out 1
                            go_wp2_with (first | ((with_reducible refine gate_callee (f := 40) rfl ?_); refine goesL_ (some 75) rfl rfl Try.func40 (by kernel_rfl) rfl #[.slice A2 l2.length c2, .agg #[.bool a1_0, .bool a1_1]] rfl (by (try simp only [List.map_toArray, List.map_cons, List.map_nil]); first | done | rfl | (simp only [List.length_drop, List.length_take]; rfl)) ?_; (with_reducible refine (dyn_All.calls kj12 _ _ l2 a1_0 a1_1 t265 t268 t269 t270 t271 _ ?side1 ?side2 A33.out).mono ?_); (case side1 => repeat (first | exact (Kd.C_below HR2.out HB.out) | (with_reducible refine Kd.C_alloc ?_ _) | (with_reducible refine Kd.C_drewN ?_ _) | (with_reducible refine Kd.C_drew ?_))); (case side2 => exact HC2.out); rintro e w71 ⟨v266, v272, rfl, ho0, ho1, hb⟩; refine ⟨_, rfl, ?_⟩; have n0_ := Aside0.mk (Kd.R_lower ho0 (below_size (by repeat (first | (with_reducible first | exact HB.out | apply below_alloc | apply pw_below_drewN | apply below_drew1 | refine below_set ?_ GE249.out) | exact HB.out)))); have n1_ := Aside0.mk (Kd.R_lower ho1 (below_size (by repeat (first | (with_reducible first | exact HB.out | apply below_alloc | apply pw_below_drewN | apply below_drew1 | refine below_set ?_ GE249.out) | exact HB.out)))); have n2_ := Aside0.mk (blk_below (g := gb249) (o := .cells #[.bool a1_0, .bool a1_1] 36 (0, 0)) (by (with_reducible repeat (first | refine blk_drewN ?_ _ | refine blk_drew ?_ | refine blk_alloc ?_ _)); exact BK249.out) hb); have n3_ := Aside0.mk (below_step (by repeat (first | (with_reducible first | exact HB.out | apply below_alloc | apply pw_below_drewN | apply below_drew1 | refine below_set ?_ GE249.out) | exact HB.out)) hb); clear BK249; clear HB; have HO267 := n0_; have HO273 := n1_; have BK249 := n2_; have HB := n3_; clear n0_ n1_ n2_ n3_; (try clear hb); (try clear hb2); (try clear hk); (try clear hi); (try clear ho0); (try clear ho1); have hcz72_0 : w71.cell? ⟨gb249, 0, none⟩ = some (.bool a1_0) := (blk_cell BK249.out 0).trans rfl; have hcz72_1 : w71.cell? ⟨gb249, 1, none⟩ = some (.bool a1_1) := (blk_cell BK249.out 1).trans rfl; have hfz72_0 := blk_frozen BK249.out 0; have hfz72_1 := blk_frozen BK249.out 1) | ((with_reducible refine gate_callee (f := 41) rfl ?_); refine goesL_ (some 81) rfl rfl Try.func41 (by kernel_rfl) rfl #[.slice A2 l2.length c2, .agg #[.bool a1_0, .bool a1_1]] rfl (by (try simp only [List.map_toArray, List.map_cons, List.map_nil]); first | done | rfl | (simp only [List.length_drop, List.length_take]; rfl)) ?_; (with_reducible refine (bezantref04_Dyns.calls kj12 _ _ l2 a1_0 a1_1 t274 t277 _ ?side1 ?side2 A34.out).mono ?_); (case side1 => repeat (first | exact (Kd.C_below HR2.out HB.out) | (with_reducible refine Kd.C_alloc ?_ _) | (with_reducible refine Kd.C_drewN ?_ _) | (with_reducible refine Kd.C_drew ?_))); (case side2 => exact HC2.out); rintro e w73 ⟨v275, rfl, ho0, hb⟩; refine ⟨_, rfl, ?_⟩; have n0_ := Aside0.mk (Kd.R_elder' (by (with_reducible repeat (first | apply Kd.R_alloc | apply Kd.R_drewN | apply Kd.R_drew)); exact HO267.out) (Kd.R_base ho0) hb); have n1_ := Aside0.mk (Kd.R_below (by (with_reducible repeat (first | apply Kd.R_alloc | apply Kd.R_drewN | apply Kd.R_drew)); exact HO273.out) hb); have n2_ := Aside0.mk (Kd.R_lower (Kd.R_new' ho0 (Kd.R_lt (by (with_reducible repeat (first | apply Kd.R_alloc | apply Kd.R_drewN | apply Kd.R_drew)); exact HO267.out))) (below_size (by repeat (first | (with_reducible first | exact HB.out | apply below_alloc | apply pw_below_drewN | apply below_drew1 | refine below_set ?_ GE249.out) | exact HB.out)))); have n3_ := Aside0.mk (blk_below (g := gb249) (o := .cells #[.bool a1_0, .bool a1_1] 36 (0, 0)) (by (with_reducible repeat (first | refine blk_drewN ?_ _ | refine blk_drew ?_ | refine blk_alloc ?_ _)); exact BK249.out) hb); have n4_ := Aside0.mk (below_step (by repeat (first | (with_reducible first | exact HB.out | apply below_alloc | apply pw_below_drewN | apply below_drew1 | refine below_set ?_ GE249.out) | exact HB.out)) hb); clear HO267; clear HO273; clear BK249; clear HB; have HO267 := n0_; have HO273 := n1_; have HO276 := n2_; have BK249 := n3_; have HB := n4_; clear n0_ n1_ n2_ n3_ n4_; (try clear hb); (try clear hb2); (try clear hk); (try clear hi); (try clear ho0); obtain ⟨Ao74, co74, eo74⟩ := Kd.R_slice HO273.out; subst eo74) | ((with_reducible refine gate_callee (f := 23) rfl ?_); refine goesL_ (some 86) rfl rfl Try.func23 (by kernel_rfl) rfl #[errW2 (.bool t268) (.bool t269) (.int .i64 t270) (.slice Ao74 t271.length co74)] rfl (by (try simp only [List.map_toArray, List.map_cons, List.map_nil]); first | done | rfl | (simp only [List.length_drop, List.length_take]; rfl)) ?_; (with_reducible refine (bezantlaw00_Spot.calls t268 t269 t270 _ _ t271 t278 t279 _ ?side1 ?side2 A35.out).mono ?_); (case side1 => repeat (first | exact (Kd.R_reads' HO273.out).2.2 | (with_reducible refine Kd.C_alloc ?_ _) | (with_reducible refine Kd.C_drewN ?_ _) | (with_reducible refine Kd.C_drew ?_))); (case side2 => exact (Kd.R_reads' HO273.out).2.1); rintro e w75 ⟨rfl, hb⟩; refine ⟨_, rfl, ?_⟩; have n0_ := Aside0.mk (Kd.R_below (by (with_reducible repeat (first | apply Kd.R_alloc | apply Kd.R_drewN | apply Kd.R_drew)); exact HO267.out) hb); have n1_ := Aside0.mk (Kd.R_below (by (with_reducible repeat (first | apply Kd.R_alloc | apply Kd.R_drewN | apply Kd.R_drew)); exact HO273.out) hb); have n2_ := Aside0.mk (Kd.R_below (by (with_reducible repeat (first | apply Kd.R_alloc | apply Kd.R_drewN | apply Kd.R_drew)); exact HO276.out) hb); have n3_ := Aside0.mk (blk_below (g := gb249) (o := .cells #[.bool a1_0, .bool a1_1] 36 (0, 0)) (by (with_reducible repeat (first | refine blk_drewN ?_ _ | refine blk_drew ?_ | refine blk_alloc ?_ _)); exact BK249.out) hb); have n4_ := Aside0.mk (below_step (by repeat (first | (with_reducible first | exact HB.out | apply below_alloc | apply pw_below_drewN | apply below_drew1 | refine below_set ?_ GE249.out) | exact HB.out)) hb); clear HO267; clear HO273; clear HO276; clear BK249; clear HB; have HO267 := n0_; have HO273 := n1_; have HO276 := n2_; have BK249 := n3_; have HB := n4_; clear n0_ n1_ n2_ n3_ n4_; (try clear hb); (try clear hb2); (try clear hk); (try clear hi)) | ((with_reducible refine gate_callee (f := 42) rfl ?_); refine goesL_ (some 92) rfl rfl Try.func42 (by kernel_rfl) rfl #[.slice A0 l0.length c0, .int .u64 a3] rfl (by (try simp only [List.map_toArray, List.map_cons, List.map_nil]); first | done | rfl | (simp only [List.length_drop, List.length_take]; rfl)) ?_; (with_reducible refine (dyn_Find.calls kj12 _ _ l0 a3 t280 t281 _ ?side1 ?side2 A36.out).mono ?_); (case side1 => repeat (first | exact (Kd.C_below HR0.out HB.out) | (with_reducible refine Kd.C_alloc ?_ _) | (with_reducible refine Kd.C_drewN ?_ _) | (with_reducible refine Kd.C_drew ?_))); (case side2 => exact HC0.out); rintro e w76 ⟨rfl, hb⟩; refine ⟨_, rfl, ?_⟩; have n0_ := Aside0.mk (Kd.R_below (by (with_reducible repeat (first | apply Kd.R_alloc | apply Kd.R_drewN | apply Kd.R_drew)); exact HO267.out) hb); have n1_ := Aside0.mk (Kd.R_below (by (with_reducible repeat (first | apply Kd.R_alloc | apply Kd.R_drewN | apply Kd.R_drew)); exact HO273.out) hb); have n2_ := Aside0.mk (Kd.R_below (by (with_reducible repeat (first | apply Kd.R_alloc | apply Kd.R_drewN | apply Kd.R_drew)); exact HO276.out) hb); have n3_ := Aside0.mk (blk_below (g := gb249) (o := .cells #[.bool a1_0, .bool a1_1] 36 (0, 0)) (by (with_reducible repeat (first | refine blk_drewN ?_ _ | refine blk_drew ?_ | refine blk_alloc ?_ _)); exact BK249.out) hb); have n4_ := Aside0.mk (below_step (by repeat (first | (with_reducible first | exact HB.out | apply below_alloc | apply pw_below_drewN | apply below_drew1 | refine below_set ?_ GE249.out) | exact HB.out)) hb); clear HO267; clear HO273; clear HO276; clear BK249; clear HB; have HO267 := n0_; have HO273 := n1_; have HO276 := n2_; have BK249 := n3_; have HB := n4_; clear n0_ n1_ n2_ n3_ n4_; (try clear hb); (try clear hb2); (try clear hk); (try clear hi)) | ((with_reducible refine gate_callee (f := 43) rfl ?_); refine goesL_ (some 98) rfl rfl Try.func43 (by kernel_rfl) rfl #[.slice A0 l0.length c0, .int .u64 a3] rfl (by (try simp only [List.map_toArray, List.map_cons, List.map_nil]); first | done | rfl | (simp only [List.length_drop, List.length_take]; rfl)) ?_; (with_reducible refine (bezantref04_Find.calls kj12 _ _ l0 a3 t282 t283 _ ?side1 ?side2 A37.out).mono ?_); (case side1 => repeat (first | exact (Kd.C_below HR0.out HB.out) | (with_reducible refine Kd.C_alloc ?_ _) | (with_reducible refine Kd.C_drewN ?_ _) | (with_reducible refine Kd.C_drew ?_))); (case side2 => exact HC0.out); rintro e w' ⟨rfl, ⟨nd, rfl⟩⟩; refine ⟨_, rfl, ?_⟩; obtain ⟨Ao77, co77, eo77⟩ := Kd.R_slice HO267.out; subst eo77; obtain ⟨Ao78, co78, eo78⟩ := Kd.R_slice HO276.out; subst eo78) | (go_at_call 44; (with_reducible refine (bezantlaw10_same.calls kj12 _ _ t265 _ _ t274 t284 _ ?side1 ?side2 ?side3 ?side4 A39.out).mono ?_); (case side1 => repeat (first | exact (Kd.R_reads' HO267.out).2.2 | (with_reducible refine Kd.C_alloc ?_ _) | (with_reducible refine Kd.C_drewN ?_ _) | (with_reducible refine Kd.C_drew ?_))); (case side2 => exact (Kd.R_reads' HO267.out).2.1); (case side3 => repeat (first | exact (Kd.R_reads' HO276.out).2.2 | (with_reducible refine Kd.C_alloc ?_ _) | (with_reducible refine Kd.C_drewN ?_ _) | (with_reducible refine Kd.C_drew ?_))); (case side4 => exact (Kd.R_reads' HO276.out).2.1); rintro e w' ⟨rfl, ⟨nd, rfl⟩⟩))
                            go_ret
                            exact ⟨by first | rfl | (simp [errW_none, errW_some] <;> rfl) | (simp [*, errW_none, errW_some] <;> rfl), by repeat (first | (with_reducible first | exact HB.out | apply below_alloc | apply pw_below_drewN | apply below_drew1 | refine below_set ?_ GE249.out) | exact HB.out)⟩
                          · rw [if_neg c69] at H
                            exact absurd H (by simp)
                        · rw [if_neg c68] at H
                          exact absurd H (by simp)
                      · rw [if_neg c67] at H
                        exact absurd H (by simp)
                    · rw [if_neg c66] at H
                      exact absurd H (by simp)
                · rw [if_neg c40] at H
                  exact absurd H (by simp)
              · replace c38 := Bool.eq_false_iff.mpr c38
                subst c38
                have H1 : (none) = some r := by rw [if_neg (show ¬ (false = true) by decide)] at H; exact H
                clear H
                have H := H1
                clear H1
                exact absurd H (by simp)

end Go.Proofs.Yteohkpfacjjaeaa.QDyn

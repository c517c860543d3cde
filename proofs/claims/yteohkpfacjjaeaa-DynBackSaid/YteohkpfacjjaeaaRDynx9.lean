/- Functions told by the kit's print as plain Lean functions, and that the code comes to what they tell; set right by fixprint.py where the printed text fell. -/
/- Functions told by our printer (out of the kit's) as plain Lean functions, and that the code comes to what they tell: no statement of the set is proved in this text. -/
import Derived.Test.YteohkpfacjjaeaaQDynx0
import Derived.Test.YteohkpfacjjaeaaRDynx2
import Derived.Test.YteohkpfacjjaeaaRDynx4
import Derived.Test.YteohkpfacjjaeaaRDynx8
namespace Go.Proofs.Yteohkpfacjjaeaa.QDyn
open Go.RowKit Go.Proofs.YteohkpfacjjaeaaW.PrintWords Go.Proofs.YteohkpfacjjaeaaW.PrintLast Go.Proofs.YteohkpfacjjaeaaW.PrintMore
attribute [local go_sem] max2_int min2_int max_two min_two max_three min_three max_four min_four   -- for this text's walks alone
set_option linter.unusedVariables false
set_option linter.unusedSimpArgs false

/-! ### bezantlaw10_DynBack: function 10 -/
mutual
def bezantlaw10_DynBack.j0 : Nat → List (S73) → List Int → Bool → Bool → Bool → Bool → Option (Bool)
  | 0, _, _, _, _, _, _ => none
  | k + 1, x0, x2, x7, x23, x286000, x286001 => if x23 = true then (some x7) else (bezantlaw10_DynBack.l0 k x0 x2 x7 0 x286000 x286001)
def bezantlaw10_DynBack.j2 : Nat → List (S73) → List Int → Bool → Int → Bool → Bool → Option (Bool)
  | 0, _, _, _, _, _, _ => none
  | k + 1, x0, x2, x7, x8, x286000, x286001 => (dyn_Put.f k x0 x286000 x286001).bind fun bt288 => (if bt288.2.1 = true then (if x7 = true then (some (!x286000)) else (none)) else ((some (([] : List Int) : List Int)).bind fun y297 => (if y297.length + bt288.1.length < 140737488355328 then ((some (y297 ++ bt288.1 : List Int)).bind fun y300 => (if y300.length + 16 < 140737488355328 then ((some (y300 ++ List.replicate 16 0 : List Int)).bind fun y303 => (if y303.length + x2.length < 140737488355328 then ((dyn_All.f k (y303 ++ x2) x286000 x286001).bind fun bt309 => ((dyn_All.f k bt288.1 x286000 x286001).bind fun bt318 => (if x7 = true then (if bt309.2.1 = true then (none) else (if 0 ≤ x8 then (if x8 ≤ (x0.length : Int) then ((bezantlaw10_same.f k bt309.1 (x0.take (x8 : Int).toNat)).bind fun t331 => (if t331 = 1 then (some ((!bt318.2.1) == (decide (x8 < (x0.length : Int))))) else (none))) else (none)) else (none))) else (none)))) else (none))) else (none))) else (none))))
def bezantlaw10_DynBack.l0 : Nat → List (S73) → List Int → Bool → Int → Bool → Bool → Option (Bool)
  | 0, _, _, _, _, _, _ => none
  | k + 1, x0, x2, x7, x8, x286000, x286001 => if x8 < (x0.length : Int) then (if 0 ≤ x8 then (if ((rd_T73 x0 x8).f0) = 0 then (bezantlaw10_DynBack.j2 k x0 x2 x7 x8 x286000 x286001) else (bezantlaw10_DynBack.l0 k x0 x2 x7 (wrap64 (x8 + 1)) x286000 x286001)) else (none)) else (bezantlaw10_DynBack.j2 k x0 x2 x7 x8 x286000 x286001)
end
def bezantlaw10_DynBack.f (k : Nat) (l0 : List (S73)) (a1_0 : Bool) (a1_1 : Bool) (l2 : List Int) : Option (Bool) := (bezantlaw10_up.f k).bind fun t286 => (if (l0.length : Int) > 100 then (bezantlaw10_DynBack.j0 k l0 l2 t286 true a1_0 a1_1) else (bezantlaw10_DynBack.j0 k l0 l2 t286 (decide ((l2.length : Int) > 1000)) a1_0 a1_1))
theorem bezantlaw10_DynBack.mono_l : ∀ k, (∀ y0 y1 y2 y3 y4 y5, LeO (bezantlaw10_DynBack.j0 k y0 y1 y2 y3 y4 y5) (bezantlaw10_DynBack.j0 (k + 1) y0 y1 y2 y3 y4 y5)) ∧ (∀ y0 y1 y2 y3 y4 y5, LeO (bezantlaw10_DynBack.j2 k y0 y1 y2 y3 y4 y5) (bezantlaw10_DynBack.j2 (k + 1) y0 y1 y2 y3 y4 y5)) ∧ (∀ y0 y1 y2 y3 y4 y5, LeO (bezantlaw10_DynBack.l0 k y0 y1 y2 y3 y4 y5) (bezantlaw10_DynBack.l0 (k + 1) y0 y1 y2 y3 y4 y5))
  | 0 => ⟨fun _ _ _ _ _ _ r h => by simp [bezantlaw10_DynBack.j0] at h, fun _ _ _ _ _ _ r h => by simp [bezantlaw10_DynBack.j2] at h, fun _ _ _ _ _ _ r h => by simp [bezantlaw10_DynBack.l0] at h⟩
  | k + 1 => by
    obtain ⟨ih0, ih1, ih2⟩ := bezantlaw10_DynBack.mono_l k
    refine ⟨?_, ?_, ?_⟩
    · intro y0 y1 y2 y3 y4 y5
      unfold bezantlaw10_DynBack.j0
      repeat' first
      | (with_reducible exact ih0 _ _ _ _ _ _)
      | (with_reducible exact ih1 _ _ _ _ _ _)
      | (with_reducible exact ih2 _ _ _ _ _ _)
      | (with_reducible exact bezantlaw10_same.mono _ _ _)
      | (with_reducible exact bezantlaw10_up.mono _)
      | (with_reducible exact dyn_All.mono _ _ _ _)
      | (with_reducible exact dyn_Put.mono _ _ _ _)
      | (with_reducible exact LeO.refl _)
      | (with_reducible exact LeO.none _)
      | (with_reducible refine LeO.ite ?_ ?_)
      | (with_reducible refine LeO.bind ?_ (fun _ => ?_))
      | exact ih0 _ _ _ _ _ _
      | exact ih1 _ _ _ _ _ _
      | exact ih2 _ _ _ _ _ _
      | exact bezantlaw10_same.mono _ _ _
      | exact bezantlaw10_up.mono _
      | exact dyn_All.mono _ _ _ _
      | exact dyn_Put.mono _ _ _ _
      | exact LeO.none _
      | refine LeO.ite ?_ ?_
      | refine LeO.bind ?_ (fun _ => ?_)
    · intro y0 y1 y2 y3 y4 y5
      unfold bezantlaw10_DynBack.j2
      repeat' first
      | (with_reducible exact ih0 _ _ _ _ _ _)
      | (with_reducible exact ih1 _ _ _ _ _ _)
      | (with_reducible exact ih2 _ _ _ _ _ _)
      | (with_reducible exact bezantlaw10_same.mono _ _ _)
      | (with_reducible exact bezantlaw10_up.mono _)
      | (with_reducible exact dyn_All.mono _ _ _ _)
      | (with_reducible exact dyn_Put.mono _ _ _ _)
      | (with_reducible exact LeO.refl _)
      | (with_reducible exact LeO.none _)
      | (with_reducible refine LeO.ite ?_ ?_)
      | (with_reducible refine LeO.bind ?_ (fun _ => ?_))
      | exact ih0 _ _ _ _ _ _
      | exact ih1 _ _ _ _ _ _
      | exact ih2 _ _ _ _ _ _
      | exact bezantlaw10_same.mono _ _ _
      | exact bezantlaw10_up.mono _
      | exact dyn_All.mono _ _ _ _
      | exact dyn_Put.mono _ _ _ _
      | exact LeO.none _
      | refine LeO.ite ?_ ?_
      | refine LeO.bind ?_ (fun _ => ?_)
    · intro y0 y1 y2 y3 y4 y5
      unfold bezantlaw10_DynBack.l0
      repeat' first
      | (with_reducible exact ih0 _ _ _ _ _ _)
      | (with_reducible exact ih1 _ _ _ _ _ _)
      | (with_reducible exact ih2 _ _ _ _ _ _)
      | (with_reducible exact bezantlaw10_same.mono _ _ _)
      | (with_reducible exact bezantlaw10_up.mono _)
      | (with_reducible exact dyn_All.mono _ _ _ _)
      | (with_reducible exact dyn_Put.mono _ _ _ _)
      | (with_reducible exact LeO.refl _)
      | (with_reducible exact LeO.none _)
      | (with_reducible refine LeO.ite ?_ ?_)
      | (with_reducible refine LeO.bind ?_ (fun _ => ?_))
      | exact ih0 _ _ _ _ _ _
      | exact ih1 _ _ _ _ _ _
      | exact ih2 _ _ _ _ _ _
      | exact bezantlaw10_same.mono _ _ _
      | exact bezantlaw10_up.mono _
      | exact dyn_All.mono _ _ _ _
      | exact dyn_Put.mono _ _ _ _
      | exact LeO.none _
      | refine LeO.ite ?_ ?_
      | refine LeO.bind ?_ (fun _ => ?_)
theorem bezantlaw10_DynBack.mono : ∀ a0 a1 a2 a3 k, LeO (bezantlaw10_DynBack.f k a0 a1 a2 a3) (bezantlaw10_DynBack.f (k + 1) a0 a1 a2 a3) := by
  intro a0 a1 a2 a3 k
  obtain ⟨ih0, ih1, ih2⟩ := bezantlaw10_DynBack.mono_l k
  unfold bezantlaw10_DynBack.f
  repeat' first
      | (with_reducible exact ih0 _ _ _ _ _ _)
      | (with_reducible exact ih1 _ _ _ _ _ _)
      | (with_reducible exact ih2 _ _ _ _ _ _)
      | (with_reducible exact bezantlaw10_same.mono _ _ _)
      | (with_reducible exact bezantlaw10_up.mono _)
      | (with_reducible exact dyn_All.mono _ _ _ _)
      | (with_reducible exact dyn_Put.mono _ _ _ _)
      | (with_reducible exact LeO.refl _)
      | (with_reducible exact LeO.none _)
      | (with_reducible refine LeO.ite ?_ ?_)
      | (with_reducible refine LeO.bind ?_ (fun _ => ?_))
      | exact ih0 _ _ _ _ _ _
      | exact ih1 _ _ _ _ _ _
      | exact ih2 _ _ _ _ _ _
      | exact bezantlaw10_same.mono _ _ _
      | exact bezantlaw10_up.mono _
      | exact dyn_All.mono _ _ _ _
      | exact dyn_Put.mono _ _ _ _
      | exact LeO.none _
      | refine LeO.ite ?_ ?_
      | refine LeO.bind ?_ (fun _ => ?_)
def bezantlaw10_DynBack.T10 : Bool × List (List Nat × List Nat) := (true, [([], []), ([], []), ([0, 1], [0, 1]), ([2, 2], [2]), ([], []), ([3, 4, 3], [3, 4]), ([], []), ([5, 6, 5], [5, 6]), ([7], [7]), ([8], [8]), ([8], [8]), ([9, 7, 0, 1, 2, 3, 4, 5, 6, 7, 8, 9], [9]), ([10, 11, 0, 1, 2, 3, 4, 5, 6, 7, 8, 9, 10, 11], [10])])
def bezantlaw10_DynBack.B10 : List Nat := [0, 0, 3, 7, 0, 31, 0, 127, 255, 511, 511, 1023, 4095]
theorem bezantlaw10_DynBack.tab10 : rtab .any (opsOf Try.f10 10) = bezantlaw10_DynBack.T10 := by kernel_rfl
theorem bezantlaw10_DynBack.bits10 : waitsOk bezantlaw10_DynBack.T10.2 bezantlaw10_DynBack.B10 = true := by kernel_rfl
set_option maxHeartbeats 8000000 in
set_option maxRecDepth 100000 in
theorem bezantlaw10_DynBack.calls (k : Nat) (A0 : Option Addr) (c0 : Nat) (l0 : List (S73)) (a1_0 : Bool) (a1_1 : Bool) (A2 : Option Addr) (c2 : Nat) (l2 : List Int) (r : Bool) (w : World) (hr0 : Kd.C k73 w A0 l0.length l0) (hc0 : l0.length ≤ c0) (hr2 : Kd.C (Kd.int .u8) w A2 l2.length l2) (hc2 : l2.length ≤ c2) (h : bezantlaw10_DynBack.f k l0 a1_0 a1_1 l2 = some r) :
    Calls Try.prog 10 #[.slice A0 l0.length c0, .agg #[.bool a1_0, .bool a1_1], .slice A2 l2.length c2] w fun e w' => e = .returned (.bool r) ∧ Below w.heap.size w w' := by
  have hu36 := Try.underlying36
  have hu41 := Try.underlying41
  have hEeql : ∀ (e_ s_ : Bool) (c_ : Int) (v_ : Value) (W : World), (binOp .eql 41 (errW2 (.bool e_) (.bool s_) (.int .i64 c_) v_) .nilIface).run Try.prog W = .ok (.bool (!e_)) W := errW2_eql
  have hEneq : ∀ (e_ s_ : Bool) (c_ : Int) (v_ : Value) (W : World), (binOp .neq 41 (errW2 (.bool e_) (.bool s_) (.int .i64 c_) v_) .nilIface).run Try.prog W = .ok (.bool (e_)) W := errW2_neq
  have hGeql : ∀ (x_ : Operand) (e_ s_ : Bool) (c_ : Int) (v_ : Value), eqGuard .eql 41 x_ (.const .nilIface) (errW2 (.bool e_) (.bool s_) (.int .i64 c_) v_) .nilIface = pure () := errW2_geql
  have hGneq : ∀ (x_ : Operand) (e_ s_ : Bool) (c_ : Int) (v_ : Value), eqGuard .neq 41 x_ (.const .nilIface) (errW2 (.bool e_) (.bool s_) (.int .i64 c_) v_) .nilIface = pure () := errW2_gneq
  have HR0 := Aside0.mk hr0
  have HC0 := Aside0.mk hc0
  clear hr0 hc0
  have HR2 := Aside0.mk hr2
  have HC2 := Aside0.mk hc2
  clear hr2 hc2
  have HB := Aside0.mk (Below.refl w.heap.size w)
  have H : ((bezantlaw10_up.f k).bind fun t286 => (if (l0.length : Int) > 100 then (bezantlaw10_DynBack.j0 k l0 l2 t286 true a1_0 a1_1) else (bezantlaw10_DynBack.j0 k l0 l2 t286 (decide ((l2.length : Int) > 1000)) a1_0 a1_1))) = some r := h
  clear h
  replace H := Option.bind_eq_some_iff.mp H
  obtain ⟨t286, A40, H⟩ := H
  replace H : (if (l0.length : Int) > 100 then (bezantlaw10_DynBack.j0 k l0 l2 t286 true a1_0 a1_1) else (bezantlaw10_DynBack.j0 k l0 l2 t286 (decide ((l2.length : Int) > 1000)) a1_0 a1_1)) = some r := H
  have A4 := Aside0.mk A40
  clear A40
  have HC5 := Aside0.mk H
  clear H
  go_enter Try.func10, Try.ntmps10
  go_upto_region 2 with (first | ((with_reducible refine gate_dst (N := 4) rfl ?_); (try (refine gate_guard (by rfl) ?_; dsimp only)); refine box_event ?hg (N := 4) ?hd (cs := #[.bool a1_0, .bool a1_1]) (t := 36) ?hr ?_; (case hd => rfl); (case hg => rfl); (case hr => first | (go_simp; done) | (go_simp; rfl)); intro gb285 hg w6 hbox hb; have n0_ := Aside0.mk (below_step (by repeat (first | (with_reducible first | exact HB.out | apply below_alloc | apply pw_below_drewN | apply below_drew1) | exact HB.out)) hb); have n1_ := Aside0.mk (hbox); have n2_ := Aside0.mk ((by rw [hg]; exact (below_size (by repeat (first | (with_reducible first | exact HB.out | apply below_alloc | apply pw_below_drewN | apply below_drew1) | exact HB.out))) : w.heap.size ≤ gb285)); have n3_ := Aside0.mk ((by rw [hg]; exact (below_size (by repeat (first | (with_reducible first | exact HB.out | apply below_alloc | apply pw_below_drewN | apply below_drew1) | exact HB.out))) : w.heap.size ≤ gb285)); clear HB; have HB := n0_; have BK285 := n1_; have GW285 := n2_; have GE285 := n3_; clear n0_ n1_ n2_ n3_; clear hb hbox hg) | ((with_reducible refine gate_callee (f := 36) rfl ?_); refine goesL_ (some 15) rfl rfl Try.func36 (by kernel_rfl) rfl #[] rfl (by (try simp only [List.map_toArray, List.map_cons, List.map_nil]); first | done | rfl | (simp only [List.length_drop, List.length_take]; rfl)) ?_; (with_reducible refine (bezantlaw10_up.calls k  t286 _ A4.out).mono ?_); rintro e w7 ⟨rfl, hb⟩; refine ⟨_, rfl, ?_⟩; have n0_ := Aside0.mk (blk_below (g := gb285) (o := .cells #[.bool a1_0, .bool a1_1] 36 (0, 0)) (by (with_reducible repeat (first | refine blk_drewN ?_ _ | refine blk_drew ?_ | refine blk_alloc ?_ _)); exact BK285.out) hb); have n1_ := Aside0.mk (below_step (by repeat (first | (with_reducible first | exact HB.out | apply below_alloc | apply pw_below_drewN | apply below_drew1 | refine below_set ?_ GE285.out) | exact HB.out)) hb); clear BK285; clear HB; have BK285 := n0_; have HB := n1_; clear n0_ n1_; (try clear hb); (try clear hb2); (try clear hk); (try clear hi)))
  (try simp only [Act.put, List.setIfInBounds_toArray, List.set_cons_zero, List.set_cons_succ])
  go_cut [23] (fun v23 wc => ∃ (kq : Nat) (x23_4 : Bool), v23 = .bool x23_4 ∧ Aside0 (bezantlaw10_DynBack.j0 kq l0 l2 t286 x23_4 a1_0 a1_1 = some r) ∧ Aside0 (kq ≤ k) ∧ Aside0 (wc.heap[gb285]? = some (.cells #[.bool a1_0, .bool a1_1] 36 (0, 0))) ∧ Aside0 (Below w.heap.size w wc))
  case first =>
    have H := HC5.out
    clear HC5
    by_cases c8 : (l0.length : Int) > 100
    · rw [if_pos c8] at H
      have c8b0 : decide (100 < (l0.length : Int)) = true := decide_eq_true c8
      have c8b1 : decide (100 < l0.length) = true := decide_eq_true (by omega)
      clear c8
      (first | rw [c8b0] | (simp only [i64_w, i32_w]; rw [c8b0]) | skip)
      have H' := Aside0.mk H
      clear H
      go_wp2
      go_meet
      case rel => exact ⟨_, (true), (by first | rfl | (simp; done) | (simp [*]; done)), H', ⟨by first | omega | exact Nat.le_refl _⟩, ⟨by (with_reducible repeat (first | refine blk_drewN ?_ _ | refine blk_drew ?_ | refine blk_alloc ?_ _)); exact BK285.out⟩, ⟨by repeat (first | (with_reducible first | exact HB.out | apply below_alloc | apply pw_below_drewN | apply below_drew1 | refine below_set ?_ GE285.out) | exact HB.out)⟩⟩
    · rw [if_neg c8] at H
      have c8b0 : decide (100 < (l0.length : Int)) = false := decide_eq_false c8
      have c8b1 : decide (100 < l0.length) = false := decide_eq_false (by omega)
      clear c8
      (first | rw [c8b0] | (simp only [i64_w, i32_w]; rw [c8b0]) | skip)
      have H' := Aside0.mk H
      clear H
      go_wp2
      go_meet
      case rel => exact ⟨_, (decide ((l2.length : Int) > 1000)), (by first | rfl | (simp; done) | (simp [*]; done)), H', ⟨by first | omega | exact Nat.le_refl _⟩, ⟨by (with_reducible repeat (first | refine blk_drewN ?_ _ | refine blk_drew ?_ | refine blk_alloc ?_ _)); exact BK285.out⟩, ⟨by repeat (first | (with_reducible first | exact HB.out | apply below_alloc | apply pw_below_drewN | apply below_drew1 | refine below_set ?_ GE285.out) | exact HB.out)⟩⟩
  case rest =>
    clear HC5
    try clear c1
    try clear c2
    try clear p2
    try clear c3
    try clear c8
    try clear c8b0
    try clear c8b1
    obtain ⟨kq, x23_4, rfl, HA, HJ4, BK285, HB⟩ := hcut
    cases kq with
    | zero => exact absurd HA.out (by simp [bezantlaw10_DynBack.j0])
    | succ kj4 =>
      have H := HA.out
      clear HA
      simp only [bezantlaw10_DynBack.j0] at H
      by_cases c9 : x23_4 = true
      · subst c9
        have H1 : (some t286) = some r := by rw [if_pos rfl] at H; exact H
        clear H
        have H := H1
        clear H1
        obtain rfl := Option.some.inj H
        go_wp2
        go_ret
        exact ⟨by first | rfl | (simp [errW_none, errW_some] <;> rfl) | (simp [*, errW_none, errW_some] <;> rfl), by repeat (first | (with_reducible first | exact HB.out | apply below_alloc | apply pw_below_drewN | apply below_drew1 | refine below_set ?_ GE285.out) | exact HB.out)⟩
      · replace c9 := Bool.eq_false_iff.mpr c9
        subst c9
        have H1 : (bezantlaw10_DynBack.l0 kj4 l0 l2 t286 0 a1_0 a1_1) = some r := by rw [if_neg (show ¬ (false = true) by decide)] at H; exact H
        clear H
        have H := H1
        clear H1
        have HC10 := Aside0.mk H
        clear H
        go_upto_block 0 with (fail)
        go_cut [8] (fun v8 wc => ∃ (kq : Nat) (x8_9 : Int), v8 = .int .i64 x8_9 ∧ Aside0 (bezantlaw10_DynBack.j2 kq l0 l2 t286 x8_9 a1_0 a1_1 = some r) ∧ Aside0 (kq ≤ kj4) ∧ Aside0 (wc.heap[gb285]? = some (.cells #[.bool a1_0, .bool a1_1] 36 (0, 0))) ∧ Aside0 (Below w.heap.size w wc))
        case first =>
          have H := HC10.out
          clear HC10
          have H' := Aside0.mk H
          clear H
          go_wp2
          go_loopg [8] kj4 (fun kq v8 w' => ∃ (x8_2 : Int), v8 = .int .i64 x8_2 ∧ Aside0 (bezantlaw10_DynBack.l0 kq l0 l2 t286 x8_2 a1_0 a1_1 = some r) ∧ Aside0 (kq ≤ kj4) ∧ Aside0 (w'.heap[gb285]? = some (.cells #[.bool a1_0, .bool a1_1] 36 (0, 0))) ∧ Aside0 (Below w.heap.size w w'))
          case atStart => exact ⟨(0), (by first | rfl | (simp; done) | (simp [*]; done)), H', ⟨Nat.le_refl _⟩, ⟨by (with_reducible repeat (first | refine blk_drewN ?_ _ | refine blk_drew ?_ | refine blk_alloc ?_ _)); exact BK285.out⟩, ⟨by repeat (first | (with_reducible first | exact HB.out | apply below_alloc | apply pw_below_drewN | apply below_drew1 | refine below_set ?_ GE285.out) | exact HB.out)⟩⟩
          case round =>
            clear H'
            try clear c1
            try clear c2
            try clear p2
            try clear c3
            try clear c8
            try clear c8b0
            try clear c8b1
            try clear c9
            try clear c10
            try clear p2
            obtain ⟨x8_2, rfl, HA, HK2, BK285, HB⟩ := hrel
            cases gk with
            | zero => exact absurd HA.out (by simp [bezantlaw10_DynBack.l0])
            | succ k2 =>
              have H := HA.out
              clear HA
              simp only [bezantlaw10_DynBack.l0] at H
              by_cases c11 : x8_2 < (l0.length : Int)
              · rw [if_pos c11] at H
                have c11b0 : decide (x8_2 < (l0.length : Int)) = true := decide_eq_true c11
                clear c11
                (first | rw [c11b0] | (simp only [i64_w, i32_w]; rw [c11b0]) | skip)
                by_cases c12 : 0 ≤ x8_2
                · rw [if_pos c12] at H
                  have c12b0 : decide (0 ≤ x8_2) = true := decide_eq_true c12
                  clear c12
                  by_cases c13 : ((rd_T73 l0 x8_2).f0) = 0
                  · rw [if_pos c13] at H
                    have c13b0 : (((rd_T73 l0 x8_2).f0) == 0) = true := beq_iff_eq.mpr c13
                    have c13b1 : (((rd_T73 l0 x8_2).f0) != 0) = false := bne_eq_false_iff_eq.mpr c13
                    clear c13
                    have H' := Aside0.mk H
                    clear H
                    have p287 : 0 ≤ (x8_2 : Int) := of_decide_eq_true (by first | (with_reducible assumption) | assumption)
                    have q287 : x8_2 < (l0.length : Int) := of_decide_eq_true (by first | (with_reducible assumption) | assumption)
                    obtain ⟨ad287, e287, hx287_0, hx287_1⟩ := at_T73 HR0.out x8_2 p287 q287
                    cases e287
                    replace hx287_0 := (HB.out.cell (World.block_lt_of_cell? w _ hx287_0)).trans hx287_0
                    replace hx287_1 := (HB.out.cell (World.block_lt_of_cell? w _ hx287_1)).trans hx287_1
                    replace p287 := eq_true p287
                    replace q287 := eq_true q287
                    go_wp2
                    go_meet
                    case rel => exact ⟨_, (x8_2), (by first | rfl | (simp; done) | (simp [*]; done)), H', ⟨by have := HJ4.out; have := HK2.out; first | omega | exact Nat.le_refl _⟩, ⟨by (with_reducible repeat (first | refine blk_drewN ?_ _ | refine blk_drew ?_ | refine blk_alloc ?_ _)); exact BK285.out⟩, ⟨by repeat (first | (with_reducible first | exact HB.out | apply below_alloc | apply pw_below_drewN | apply below_drew1 | refine below_set ?_ GE285.out) | exact HB.out)⟩⟩
                  · rw [if_neg c13] at H
                    have c13b0 : (((rd_T73 l0 x8_2).f0) == 0) = false := beq_eq_false_iff_ne.mpr c13
                    have c13b1 : (((rd_T73 l0 x8_2).f0) != 0) = true := bne_iff_ne.mpr c13
                    have H' := Aside0.mk H
                    clear H
                    have p287 : 0 ≤ (x8_2 : Int) := of_decide_eq_true (by first | (with_reducible assumption) | assumption)
                    have q287 : x8_2 < (l0.length : Int) := of_decide_eq_true (by first | (with_reducible assumption) | assumption)
                    obtain ⟨ad287, e287, hx287_0, hx287_1⟩ := at_T73 HR0.out x8_2 p287 q287
                    cases e287
                    replace hx287_0 := (HB.out.cell (World.block_lt_of_cell? w _ hx287_0)).trans hx287_0
                    replace hx287_1 := (HB.out.cell (World.block_lt_of_cell? w _ hx287_1)).trans hx287_1
                    replace p287 := eq_true p287
                    replace q287 := eq_true q287
                    go_wp2
                    go_roundg k2
                    case measure => have := HJ4.out; have := HK2.out; omega
                    case rel => exact ⟨(wrap64 (x8_2 + 1)), (by first | rfl | (simp; done) | (simp [*]; done)), H', ⟨by have := HJ4.out; have := HK2.out; omega⟩, ⟨by (with_reducible repeat (first | refine blk_drewN ?_ _ | refine blk_drew ?_ | refine blk_alloc ?_ _)); exact BK285.out⟩, ⟨by repeat (first | (with_reducible first | exact HB.out | apply below_alloc | apply pw_below_drewN | apply below_drew1 | refine below_set ?_ GE285.out) | exact HB.out)⟩⟩
                · rw [if_neg c12] at H
                  exact absurd H (by simp)
              · rw [if_neg c11] at H
                have c11b0 : decide (x8_2 < (l0.length : Int)) = false := decide_eq_false c11
                clear c11
                (first | rw [c11b0] | (simp only [i64_w, i32_w]; rw [c11b0]) | skip)
                have H' := Aside0.mk H
                clear H
                go_wp2
                go_meet
                case rel => exact ⟨_, (x8_2), (by first | rfl | (simp; done) | (simp [*]; done)), H', ⟨by have := HJ4.out; have := HK2.out; first | omega | exact Nat.le_refl _⟩, ⟨by (with_reducible repeat (first | refine blk_drewN ?_ _ | refine blk_drew ?_ | refine blk_alloc ?_ _)); exact BK285.out⟩, ⟨by repeat (first | (with_reducible first | exact HB.out | apply below_alloc | apply pw_below_drewN | apply below_drew1 | refine below_set ?_ GE285.out) | exact HB.out)⟩⟩
        case rest =>
          clear HC10
          try clear c1
          try clear c2
          try clear p2
          try clear q2
          try clear hx2
          try clear c3
          try clear p6
          try clear c8
          try clear c8b0
          try clear c8b1
          try clear c9
          try clear c10
          try clear c11
          try clear c11b0
          try clear c12
          try clear c12b0
          try clear c13
          try clear c13b0
          try clear c13b1
          try clear hx287_0
          try clear hx287_1
          try clear p2
          try clear p287
          try clear q287
          obtain ⟨kq, x8_9, rfl, HA, HJ9, BK285, HB⟩ := hcut
          cases kq with
          | zero => exact absurd HA.out (by simp [bezantlaw10_DynBack.j2])
          | succ kj9 =>
            have H := HA.out
            clear HA
            simp only [bezantlaw10_DynBack.j2] at H
            replace H := Option.bind_eq_some_iff.mp H
            obtain ⟨⟨t288, t291, t292, t293, t294⟩, A140, H⟩ := H
            replace H : (if t291 = true then (if t286 = true then (some (!a1_0)) else (none)) else ((some (([] : List Int) : List Int)).bind fun y297 => (if y297.length + t288.length < 140737488355328 then ((some (y297 ++ t288 : List Int)).bind fun y300 => (if y300.length + 16 < 140737488355328 then ((some (y300 ++ List.replicate 16 0 : List Int)).bind fun y303 => (if y303.length + l2.length < 140737488355328 then ((dyn_All.f kj9 (y303 ++ l2) a1_0 a1_1).bind fun bt309 => ((dyn_All.f kj9 t288 a1_0 a1_1).bind fun bt318 => (if t286 = true then (if bt309.2.1 = true then (none) else (if 0 ≤ x8_9 then (if x8_9 ≤ (l0.length : Int) then ((bezantlaw10_same.f kj9 bt309.1 (l0.take (x8_9 : Int).toNat)).bind fun t331 => (if t331 = 1 then (some ((!bt318.2.1) == (decide (x8_9 < (l0.length : Int))))) else (none))) else (none)) else (none))) else (none)))) else (none))) else (none))) else (none)))) = some r := H
            have A14 := Aside0.mk A140
            clear A140
            by_cases c15 : t291 = true
            · subst c15
              have H1 : (if t286 = true then (some (!a1_0)) else (none)) = some r := by rw [if_pos rfl] at H; exact H
              clear H
              have H := H1
              clear H1
              by_cases c16 : t286 = true
              · subst c16
                have H1 : (some (!a1_0)) = some r := by rw [if_pos rfl] at H; exact H
                clear H
                have H := H1
                clear H1
                obtain rfl := Option.some.inj H
                have hcz17_0 : wc.cell? ⟨gb285, 0, none⟩ = some (.bool a1_0) := (blk_cell BK285.out 0).trans rfl
                have hcz17_1 : wc.cell? ⟨gb285, 1, none⟩ = some (.bool a1_1) := (blk_cell BK285.out 1).trans rfl
                have hfz17_0 := blk_frozen BK285.out 0
                have hfz17_1 := blk_frozen BK285.out 1
                go_wp2_with (first | ((with_reducible refine gate_callee (f := 37) rfl ?_); refine goesL_ (some 42) rfl rfl Try.func37 (by kernel_rfl) rfl #[.slice A0 l0.length c0, .agg #[.bool a1_0, .bool a1_1]] rfl (by (try simp only [List.map_toArray, List.map_cons, List.map_nil]); first | done | rfl | (simp only [List.length_drop, List.length_take]; rfl)) ?_; (with_reducible refine (dyn_Put.calls kj9 _ _ l0 a1_0 a1_1 t288 true t292 t293 t294 _ ?side1 ?side2 A14.out).mono ?_); (case side1 => repeat (first | exact (Kd.C_below HR0.out HB.out) | (with_reducible refine Kd.C_alloc ?_ _) | (with_reducible refine Kd.C_drewN ?_ _) | (with_reducible refine Kd.C_drew ?_))); (case side2 => exact HC0.out); rintro e w18 ⟨v289, v295, rfl, ho0, ho1, hb⟩; refine ⟨_, rfl, ?_⟩; have n0_ := Aside0.mk (Kd.R_lower ho0 (below_size (by repeat (first | (with_reducible first | exact HB.out | apply below_alloc | apply pw_below_drewN | apply below_drew1 | refine below_set ?_ GE285.out) | exact HB.out)))); have n1_ := Aside0.mk (Kd.R_lower ho1 (below_size (by repeat (first | (with_reducible first | exact HB.out | apply below_alloc | apply pw_below_drewN | apply below_drew1 | refine below_set ?_ GE285.out) | exact HB.out)))); have n2_ := Aside0.mk (blk_below (g := gb285) (o := .cells #[.bool a1_0, .bool a1_1] 36 (0, 0)) (by (with_reducible repeat (first | refine blk_drewN ?_ _ | refine blk_drew ?_ | refine blk_alloc ?_ _)); exact BK285.out) hb); have n3_ := Aside0.mk (below_step (by repeat (first | (with_reducible first | exact HB.out | apply below_alloc | apply pw_below_drewN | apply below_drew1 | refine below_set ?_ GE285.out) | exact HB.out)) hb); clear BK285; clear HB; have HO290 := n0_; have HO296 := n1_; have BK285 := n2_; have HB := n3_; clear n0_ n1_ n2_ n3_; (try clear hb); (try clear hb2); (try clear hk); (try clear hi); (try clear ho0); (try clear ho1); have hcz19_0 : w18.cell? ⟨gb285, 0, none⟩ = some (.bool a1_0) := (blk_cell BK285.out 0).trans rfl; have hcz19_1 : w18.cell? ⟨gb285, 1, none⟩ = some (.bool a1_1) := (blk_cell BK285.out 1).trans rfl; have hfz19_0 := blk_frozen BK285.out 0; have hfz19_1 := blk_frozen BK285.out 1))
                go_ret
                exact ⟨by first | rfl | (simp [errW_none, errW_some] <;> rfl) | (simp [*, errW_none, errW_some] <;> rfl), by repeat (first | (with_reducible first | exact HB.out | apply below_alloc | apply pw_below_drewN | apply below_drew1 | refine below_set ?_ GE285.out) | exact HB.out)⟩
              · replace c16 := Bool.eq_false_iff.mpr c16
                subst c16
                have H1 : (none) = some r := by rw [if_neg (show ¬ (false = true) by decide)] at H; exact H
                clear H
                have H := H1
                clear H1
                exact absurd H (by simp)
            · replace c15 := Bool.eq_false_iff.mpr c15
              subst c15
              have H1 : ((some (([] : List Int) : List Int)).bind fun y297 => (if y297.length + t288.length < 140737488355328 then ((some (y297 ++ t288 : List Int)).bind fun y300 => (if y300.length + 16 < 140737488355328 then ((some (y300 ++ List.replicate 16 0 : List Int)).bind fun y303 => (if y303.length + l2.length < 140737488355328 then ((dyn_All.f kj9 (y303 ++ l2) a1_0 a1_1).bind fun bt309 => ((dyn_All.f kj9 t288 a1_0 a1_1).bind fun bt318 => (if t286 = true then (if bt309.2.1 = true then (none) else (if 0 ≤ x8_9 then (if x8_9 ≤ (l0.length : Int) then ((bezantlaw10_same.f kj9 bt309.1 (l0.take (x8_9 : Int).toNat)).bind fun t331 => (if t331 = 1 then (some ((!bt318.2.1) == (decide (x8_9 < (l0.length : Int))))) else (none))) else (none)) else (none))) else (none)))) else (none))) else (none))) else (none))) = some r := by rw [if_neg (show ¬ (false = true) by decide)] at H; exact H
              clear H
              have H := H1
              clear H1
              obtain ⟨y297, hy297⟩ : ∃ y_ : List Int, y_ = (([] : List Int)) := ⟨_, rfl⟩
              replace H : (if y297.length + t288.length < 140737488355328 then ((some (y297 ++ t288 : List Int)).bind fun y300 => (if y300.length + 16 < 140737488355328 then ((some (y300 ++ List.replicate 16 0 : List Int)).bind fun y303 => (if y303.length + l2.length < 140737488355328 then ((dyn_All.f kj9 (y303 ++ l2) a1_0 a1_1).bind fun bt309 => ((dyn_All.f kj9 t288 a1_0 a1_1).bind fun bt318 => (if t286 = true then (if bt309.2.1 = true then (none) else (if 0 ≤ x8_9 then (if x8_9 ≤ (l0.length : Int) then ((bezantlaw10_same.f kj9 bt309.1 (l0.take (x8_9 : Int).toNat)).bind fun t331 => (if t331 = 1 then (some ((!bt318.2.1) == (decide (x8_9 < (l0.length : Int))))) else (none))) else (none)) else (none))) else (none)))) else (none))) else (none))) else (none)) = some r := by first | (rw [hy297]; with_reducible exact H) | (have H2_ := (Option.bind_some _ _).symm.trans H; rw [hy297]; with_reducible exact H2_) | (have H2_ := (Option.bind_some _ _).symm.trans H; with_reducible exact H2_) | with_reducible exact H | (rw [hy297]; exact H) | exact H
              have Ny297 := Aside0.mk hy297
              clear hy297
              by_cases c20 : y297.length + t288.length < 140737488355328
              · rw [if_pos c20] at H
                have LMc20 := Aside0.mk c20
                clear c20
                obtain ⟨y300, hy300⟩ : ∃ y_ : List Int, y_ = (y297 ++ t288) := ⟨_, rfl⟩
                replace H : (if y300.length + 16 < 140737488355328 then ((some (y300 ++ List.replicate 16 0 : List Int)).bind fun y303 => (if y303.length + l2.length < 140737488355328 then ((dyn_All.f kj9 (y303 ++ l2) a1_0 a1_1).bind fun bt309 => ((dyn_All.f kj9 t288 a1_0 a1_1).bind fun bt318 => (if t286 = true then (if bt309.2.1 = true then (none) else (if 0 ≤ x8_9 then (if x8_9 ≤ (l0.length : Int) then ((bezantlaw10_same.f kj9 bt309.1 (l0.take (x8_9 : Int).toNat)).bind fun t331 => (if t331 = 1 then (some ((!bt318.2.1) == (decide (x8_9 < (l0.length : Int))))) else (none))) else (none)) else (none))) else (none)))) else (none))) else (none)) = some r := by first | (rw [hy300]; with_reducible exact H) | (have H2_ := (Option.bind_some _ _).symm.trans H; rw [hy300]; with_reducible exact H2_) | (have H2_ := (Option.bind_some _ _).symm.trans H; with_reducible exact H2_) | with_reducible exact H | (rw [hy300]; exact H) | exact H
                have Ny300 := Aside0.mk hy300
                clear hy300
                by_cases c21 : y300.length + 16 < 140737488355328
                · rw [if_pos c21] at H
                  have LMc21 := Aside0.mk c21
                  clear c21
                  obtain ⟨y303, hy303⟩ : ∃ y_ : List Int, y_ = (y300 ++ List.replicate 16 0) := ⟨_, rfl⟩
                  replace H : (if y303.length + l2.length < 140737488355328 then ((dyn_All.f kj9 (y303 ++ l2) a1_0 a1_1).bind fun bt309 => ((dyn_All.f kj9 t288 a1_0 a1_1).bind fun bt318 => (if t286 = true then (if bt309.2.1 = true then (none) else (if 0 ≤ x8_9 then (if x8_9 ≤ (l0.length : Int) then ((bezantlaw10_same.f kj9 bt309.1 (l0.take (x8_9 : Int).toNat)).bind fun t331 => (if t331 = 1 then (some ((!bt318.2.1) == (decide (x8_9 < (l0.length : Int))))) else (none))) else (none)) else (none))) else (none)))) else (none)) = some r := by first | (rw [hy303]; with_reducible exact H) | (have H2_ := (Option.bind_some _ _).symm.trans H; rw [hy303]; with_reducible exact H2_) | (have H2_ := (Option.bind_some _ _).symm.trans H; with_reducible exact H2_) | with_reducible exact H | (rw [hy303]; exact H) | exact H
                  have Ny303 := Aside0.mk hy303
                  clear hy303
                  by_cases c22 : y303.length + l2.length < 140737488355328
                  · rw [if_pos c22] at H
                    have LMc22 := Aside0.mk c22
                    clear c22
                    obtain ⟨y306, hy306⟩ : ∃ y_ : List Int, y_ = (y303 ++ l2) := ⟨_, rfl⟩
                    replace H : ((dyn_All.f kj9 y306 a1_0 a1_1).bind fun bt309 => ((dyn_All.f kj9 t288 a1_0 a1_1).bind fun bt318 => (if t286 = true then (if bt309.2.1 = true then (none) else (if 0 ≤ x8_9 then (if x8_9 ≤ (l0.length : Int) then ((bezantlaw10_same.f kj9 bt309.1 (l0.take (x8_9 : Int).toNat)).bind fun t331 => (if t331 = 1 then (some ((!bt318.2.1) == (decide (x8_9 < (l0.length : Int))))) else (none))) else (none)) else (none))) else (none)))) = some r := by first | (rw [hy306]; with_reducible exact H) | (have H2_ := (Option.bind_some _ _).symm.trans H; rw [hy306]; with_reducible exact H2_) | (have H2_ := (Option.bind_some _ _).symm.trans H; with_reducible exact H2_) | with_reducible exact H | (rw [hy306]; exact H) | exact H
                    have Ny306 := Aside0.mk hy306
                    clear hy306
                    replace H := Option.bind_eq_some_iff.mp H
                    obtain ⟨⟨t309, t312, t313, t314, t315⟩, A230, H⟩ := H
                    replace H : ((dyn_All.f kj9 t288 a1_0 a1_1).bind fun bt318 => (if t286 = true then (if t312 = true then (none) else (if 0 ≤ x8_9 then (if x8_9 ≤ (l0.length : Int) then ((bezantlaw10_same.f kj9 t309 (l0.take (x8_9 : Int).toNat)).bind fun t331 => (if t331 = 1 then (some ((!bt318.2.1) == (decide (x8_9 < (l0.length : Int))))) else (none))) else (none)) else (none))) else (none))) = some r := H
                    have A23 := Aside0.mk A230
                    clear A230
                    replace H := Option.bind_eq_some_iff.mp H
                    obtain ⟨⟨t318, t321, t322, t323, t324⟩, A240, H⟩ := H
                    replace H : (if t286 = true then (if t312 = true then (none) else (if 0 ≤ x8_9 then (if x8_9 ≤ (l0.length : Int) then ((bezantlaw10_same.f kj9 t309 (l0.take (x8_9 : Int).toNat)).bind fun t331 => (if t331 = 1 then (some ((!t321) == (decide (x8_9 < (l0.length : Int))))) else (none))) else (none)) else (none))) else (none)) = some r := H
                    have A24 := Aside0.mk A240
                    clear A240
                    by_cases c25 : t286 = true
                    · subst c25
                      have H1 : (if t312 = true then (none) else (if 0 ≤ x8_9 then (if x8_9 ≤ (l0.length : Int) then ((bezantlaw10_same.f kj9 t309 (l0.take (x8_9 : Int).toNat)).bind fun t331 => (if t331 = 1 then (some ((!t321) == (decide (x8_9 < (l0.length : Int))))) else (none))) else (none)) else (none))) = some r := by rw [if_pos rfl] at H; exact H
                      clear H
                      have H := H1
                      clear H1
                      by_cases c26 : t312 = true
                      · subst c26
                        have H1 : (none) = some r := by rw [if_pos rfl] at H; exact H
                        clear H
                        have H := H1
                        clear H1
                        exact absurd H (by simp)
                      · replace c26 := Bool.eq_false_iff.mpr c26
                        subst c26
                        have H1 : (if 0 ≤ x8_9 then (if x8_9 ≤ (l0.length : Int) then ((bezantlaw10_same.f kj9 t309 (l0.take (x8_9 : Int).toNat)).bind fun t331 => (if t331 = 1 then (some ((!t321) == (decide (x8_9 < (l0.length : Int))))) else (none))) else (none)) else (none)) = some r := by rw [if_neg (show ¬ (false = true) by decide)] at H; exact H
                        clear H
                        have H := H1
                        clear H1
                        by_cases c27 : 0 ≤ x8_9
                        · rw [if_pos c27] at H
                          have c27b0 := eq_true c27
                          have c27b1 : decide (0 ≤ x8_9) = true := decide_eq_true c27
                          clear c27
                          by_cases c28 : x8_9 ≤ (l0.length : Int)
                          · rw [if_pos c28] at H
                            have c28b0 := eq_true c28
                            have c28b1 : decide (x8_9 ≤ (l0.length : Int)) = true := decide_eq_true c28
                            clear c28
                            obtain ⟨y327, hy327⟩ : ∃ y_ : List (S73), y_ = (l0.take (x8_9 : Int).toNat) := ⟨_, rfl⟩
                            replace H : ((bezantlaw10_same.f kj9 t309 y327).bind fun t331 => (if t331 = 1 then (some ((!t321) == (decide (x8_9 < (l0.length : Int))))) else (none))) = some r := by first | (rw [hy327]; with_reducible exact H) | (have H2_ := (Option.bind_some _ _).symm.trans H; rw [hy327]; with_reducible exact H2_) | (have H2_ := (Option.bind_some _ _).symm.trans H; with_reducible exact H2_) | with_reducible exact H | (rw [hy327]; exact H) | exact H
                            have Ny327 := Aside0.mk hy327
                            clear hy327
                            replace H := Option.bind_eq_some_iff.mp H
                            obtain ⟨t331, A290, H⟩ := H
                            replace H : (if t331 = 1 then (some ((!t321) == (decide (x8_9 < (l0.length : Int))))) else (none)) = some r := H
                            have A29 := Aside0.mk A290
                            clear A290
                            by_cases c30 : t331 = 1
                            · rw [if_pos c30] at H
                              have c30b0 : (t331 == 1) = true := beq_iff_eq.mpr c30
                              have c30b1 : (t331 != 1) = false := bne_eq_false_iff_eq.mpr c30
                              clear c30
                              obtain rfl := Option.some.inj H
                              have hcz31_0 : wc.cell? ⟨gb285, 0, none⟩ = some (.bool a1_0) := (blk_cell BK285.out 0).trans rfl
                              have hcz31_1 : wc.cell? ⟨gb285, 1, none⟩ = some (.bool a1_1) := (blk_cell BK285.out 1).trans rfl
                              have hfz31_0 := blk_frozen BK285.out 0
                              have hfz31_1 := blk_frozen BK285.out 1
                              try go_wp2_with (first | ((with_reducible refine gate_callee (f := 37) rfl ?_); refine goesL_ (some 42) rfl rfl Try.func37 (by kernel_rfl) rfl #[.slice A0 l0.length c0, .agg #[.bool a1_0, .bool a1_1]] rfl (by (try simp only [List.map_toArray, List.map_cons, List.map_nil]); first | done | rfl | (simp only [List.length_drop, List.length_take]; rfl)) ?_; (with_reducible refine (dyn_Put.calls kj9 _ _ l0 a1_0 a1_1 t288 false t292 t293 t294 _ ?side1 ?side2 A14.out).mono ?_); (case side1 => repeat (first | exact (Kd.C_below HR0.out HB.out) | (with_reducible refine Kd.C_alloc ?_ _) | (with_reducible refine Kd.C_drewN ?_ _) | (with_reducible refine Kd.C_drew ?_))); (case side2 => exact HC0.out); rintro e w32 ⟨v289, v295, rfl, ho0, ho1, hb⟩; refine ⟨_, rfl, ?_⟩; have n0_ := Aside0.mk (Kd.R_lower ho0 (below_size (by repeat (first | (with_reducible first | exact HB.out | apply below_alloc | apply pw_below_drewN | apply below_drew1 | refine below_set ?_ GE285.out) | exact HB.out)))); have n1_ := Aside0.mk (Kd.R_lower ho1 (below_size (by repeat (first | (with_reducible first | exact HB.out | apply below_alloc | apply pw_below_drewN | apply below_drew1 | refine below_set ?_ GE285.out) | exact HB.out)))); have n2_ := Aside0.mk (blk_below (g := gb285) (o := .cells #[.bool a1_0, .bool a1_1] 36 (0, 0)) (by (with_reducible repeat (first | refine blk_drewN ?_ _ | refine blk_drew ?_ | refine blk_alloc ?_ _)); exact BK285.out) hb); have n3_ := Aside0.mk (below_step (by repeat (first | (with_reducible first | exact HB.out | apply below_alloc | apply pw_below_drewN | apply below_drew1 | refine below_set ?_ GE285.out) | exact HB.out)) hb); clear BK285; clear HB; have HO290 := n0_; have HO296 := n1_; have BK285 := n2_; have HB := n3_; clear n0_ n1_ n2_ n3_; (try clear hb); (try clear hb2); (try clear hk); (try clear hi); (try clear ho0); (try clear ho1)))
                              have n0_ := Aside0.mk (Kd.R_drew HO290.out)
                              have n1_ := Aside0.mk (Kd.R_drew HO296.out)
                              have n2_ := Aside0.mk (blk_drew BK285.out)
                              have n3_ := Aside0.mk (below_drew1 HB.out)
                              clear HO290
                              clear HO296
                              clear BK285
                              clear HB
                              have HO290 := n0_
                              have HO296 := n1_
                              have BK285 := n2_
                              have HB := n3_
                              clear n0_ n1_ n2_ n3_
                              refine start_ (n := 13) (S := fun w' => w'.cell? ⟨gb285, 0, none⟩ = some (.bool a1_0) ∧ w'.cell? ⟨gb285, 1, none⟩ = some (.bool a1_1)) (ds := []) #[false, false, false, false, false, false, false, false, false, false, false, false, false] (by kernel_rfl) rfl rfl ⟨(blk_cell BK285.out 0).trans rfl, (blk_cell BK285.out 1).trans rfl⟩ (fun hHeld => ?_); refine with_tabW bezantlaw10_DynBack.tab10 bezantlaw10_DynBack.bits10 (fun HT_ HW_ => ?_)
                              generalize w32.drew = w33 at HO290 HO296 BK285 HB hHeld ⊢
                              refine pure_ (i := 1) (N := some 55) (v := ?_) (a' := ?_) #[false, true, false, false, false, false, false, false, false, false, false, false, false] rfl rfl (any_of HT_.out (by kernel_rfl)) (fun _ _ _ h => h) (Or.inl ⟨by rfl, ?_⟩) ?_ ?_
                              rotate_left
                              · intro w'
                                go_simp
                                with_reducible rfl
                              rotate_left
                              · simp only [Act.put, List.setIfInBounds_toArray, List.set_cons_zero, List.set_cons_succ, i64_w, i32_w]
                                rfl
                              refine pure_ (i := 4) (N := some 58) (v := ?_) (a' := ?_) #[false, true, false, false, true, false, false, false, false, false, false, false, false] rfl rfl (any_of HT_.out (by kernel_rfl)) (fun _ _ _ h => h) (Or.inl ⟨by rfl, ?_⟩) ?_ ?_
                              rotate_left
                              · intro w'
                                go_simp
                                with_reducible rfl
                              rotate_left
                              · simp only [Act.put, List.setIfInBounds_toArray, List.set_cons_zero, List.set_cons_succ, i64_w, i32_w]
                                rfl
                              refine take_ (i := 6) (N := some 60) (v := ?_) (a' := ?_) #[false, true, false, false, true, false, true, false, false, false, false, false, false] rfl rfl (take_ofW HT_.out HW_.out (by kernel_rfl)) (fun _ _ _ h => h) (Or.inl ⟨by rfl, ?_⟩) hHeld ?_ ?_
                              rotate_left
                              · rintro w' ⟨s0, s1⟩
                                go_simp
                                with_reducible rfl
                              rotate_left
                              · simp only [Act.put, List.setIfInBounds_toArray, List.set_cons_zero, List.set_cons_succ, i64_w, i32_w]
                                rfl
                              refine one_ (i := 0) (N := some 54) #[true, true, false, false, true, false, true, false, false, false, false, false, false] rfl rfl (one_of HT_.out (by kernel_rfl)) (by decide) (fun K hK => ?_)
                              refine Kd.R_lit_step (Kd.int .u8) _ 5 ?hg (N := 54) ?hd (xs := ([] : List Int)) (inner := []) (ok := fun _ => True) (okp := fun _ => True) ?hr ?hp (fun _ hk => hk) trivial (Below.refl _ _) (Nat.le_refl _) (by simp) ?_; (case hd => rfl); (case hg => rfl); (case hr => first | (go_simp; done) | (go_simp; rfl)); (case hp => exact (Reps.none _ _))
                              intro v298 w34 ho35 hb hg_ hnew_
                              clear hg_ hnew_
                              (first | rw [← Ny297.out] at ho35 | (simp only [Int.reduceToNat] at ho35; rw [← Ny297.out] at ho35))
                              have n0_ := Aside0.mk (Kd.R_elder' (by (with_reducible repeat (first | apply Kd.R_alloc | apply Kd.R_drewN | apply Kd.R_drew)); exact HO290.out) (Kd.R_base ho35) hb)
                              have n1_ := Aside0.mk (Kd.R_below (by (with_reducible repeat (first | apply Kd.R_alloc | apply Kd.R_drewN | apply Kd.R_drew)); exact HO296.out) hb)
                              have n2_ := Aside0.mk (Kd.R_lower (Kd.R_new' ho35 (Kd.R_lt (by (with_reducible repeat (first | apply Kd.R_alloc | apply Kd.R_drewN | apply Kd.R_drew)); exact HO290.out))) (below_size (by repeat (first | (with_reducible first | exact HB.out | apply below_alloc | apply pw_below_drewN | apply below_drew1 | refine below_set ?_ GE285.out) | exact HB.out))))
                              have n3_ := Aside0.mk (blk_below (g := gb285) (o := .cells #[.bool a1_0, .bool a1_1] 36 (0, 0)) (by (with_reducible repeat (first | refine blk_drewN ?_ _ | refine blk_drew ?_ | refine blk_alloc ?_ _)); exact BK285.out) hb)
                              have n4_ := Aside0.mk (below_step (by repeat (first | (with_reducible first | exact HB.out | apply below_alloc | apply pw_below_drewN | apply below_drew1 | refine below_set ?_ GE285.out) | exact HB.out)) hb)
                              clear HO290
                              clear HO296
                              clear BK285
                              clear HB
                              have HO290 := n0_
                              have HO296 := n1_
                              have HO299 := n2_
                              have BK285 := n3_
                              have HB := n4_
                              clear n0_ n1_ n2_ n3_ n4_
                              clear hb ho35
                              obtain ⟨Ao37, co37, eo37⟩ := Kd.R_slice HO290.out
                              (first | subst eo37 | (injection eo37 with f1_ f2_ f3_; have f4_ := f1_.symm; have f5_ := f3_.symm; clear f1_ f2_ f3_; subst f4_; subst f5_))
                              refine hK.out _ _ ⟨(blk_cell BK285.out 0).trans rfl, (blk_cell BK285.out 1).trans rfl⟩ (fun hHeld => ?_)
                              clear hK K
                              refine norm_ (a' := ?_) ?_ ?_
                              rotate_left
                              · show Act.put _ (some 54) _ = _
                                simp only [Act.put, List.setIfInBounds_toArray, List.set_cons_zero, List.set_cons_succ, i64_w, i32_w]
                                rfl
                              refine one_ (i := 2) (N := some 56) #[true, true, true, false, true, false, true, false, false, false, false, false, false] rfl rfl (one_of HT_.out (by kernel_rfl)) (by decide) (fun K hK => ?_)
                              refine Kd.R_append_rows_step (Kd.int .u8) (w0 := w) w.heap.size (by rfl) (.tmp 54) (.tmp 55) 39 5 (.int .u8 0) 1 rfl Try.underlying39 info5 rfl (by decide) (by omega) v298 y297 t288 _ _ _ (fun k_ => some k_ ≠ (.slice Ao37 t288.length co37 : Value).ownBlock) (fun _ => False) rfl rfl ?aO ?aR (fun _ _ h => h) (fun _ h => h.elim) ?aF ?aB ?aS ?aL ?_
                              (case aR => repeat (first | exact (Kd.R_reads' HO290.out).2.2 | (with_reducible refine Kd.C_alloc ?_ _) | (with_reducible refine Kd.C_drewN ?_ _) | (with_reducible refine Kd.C_drew ?_)))
                              (case aB => exact (by repeat (first | (with_reducible first | exact HB.out | apply below_alloc | apply pw_below_drewN | apply below_drew1 | refine below_set ?_ GE285.out) | exact HB.out)))
                              (case aF => exact (fun k_ hk => Kd.fresh' (Kd.R_lt (by (with_reducible repeat (first | apply Kd.R_alloc | apply Kd.R_drewN | apply Kd.R_drew)); exact HO290.out)) k_ hk))
                              (case aO => exact (by (with_reducible repeat (first | apply Kd.R_alloc | apply Kd.R_drewN | apply Kd.R_drew)); exact Kd.R_mono HO299.out (fun _ hk => hk.2)))
                              (case aS => exact (below_size (by repeat (first | (with_reducible first | exact HB.out | apply below_alloc | apply pw_below_drewN | apply below_drew1 | refine below_set ?_ GE285.out) | exact HB.out))))
                              (case aL => have := LMc20.out; omega)
                              intro v301 w36 ho hb hg hat
                              (try simp only [Int.reduceToNat] at ho)
                              rw [← Ny300.out] at ho
                              have n0_ := Aside0.mk (blk_grown (g := gb285) (o := .cells #[.bool a1_0, .bool a1_1] 36 (0, 0)) (by (with_reducible repeat (first | refine blk_drewN ?_ _ | refine blk_drew ?_ | refine blk_alloc ?_ _)); exact BK285.out) hg (Kd.R_ne HO299.out BK285.out (by decide)))
                              have n1_ := Aside0.mk (Kd.R_after (ok := (fun _ => True)) (by (with_reducible repeat (first | apply Kd.R_alloc | apply Kd.R_drewN | apply Kd.R_drew)); exact HO290.out) hg hat)
                              have n2_ := Aside0.mk (Kd.R_over' (by (with_reducible repeat (first | apply Kd.R_alloc | apply Kd.R_drewN | apply Kd.R_drew)); exact HO296.out) (Kd.R_typed (by (with_reducible repeat (first | apply Kd.R_alloc | apply Kd.R_drewN | apply Kd.R_drew)); exact HO299.out)) (by decide) hg)
                              have n3_ := Aside0.mk (hb)
                              have n4_ := Aside0.mk (ho)
                              clear BK285
                              clear HO290
                              clear HO296
                              clear HB
                              clear HO299
                              have BK285 := n0_
                              have HO290 := n1_
                              have HO296 := n2_
                              have HB := n3_
                              have HO302 := n4_
                              clear n0_ n1_ n2_ n3_ n4_
                              clear ho hb hg hat
                              refine hK.out _ _ ⟨(blk_cell BK285.out 0).trans rfl, (blk_cell BK285.out 1).trans rfl⟩ (fun hHeld => ?_)
                              clear hK K
                              refine norm_ (a' := ?_) ?_ ?_
                              rotate_left
                              · show Act.put _ (some 56) _ = _
                                simp only [Act.put, List.setIfInBounds_toArray, List.set_cons_zero, List.set_cons_succ, i64_w, i32_w]
                                rfl
                              refine one_ (i := 3) (N := some 57) #[true, true, true, true, true, false, true, false, false, false, false, false, false] rfl rfl (one_of HT_.out (by kernel_rfl)) (by decide) (fun K hK => ?_)
                              refine Kd.R_append_zeros_step (Kd.int .u8) (w0 := w) w.heap.size (by rfl) (.tmp 56) (.const (.int .i64 16)) 39 3 5 (.int .u8 0) 1 rfl Try.underlying39 Try.underlying3 info5 rfl (by decide) (by omega) v301 y300 0 (16 : Int) (fun k_ => some k_ ≠ (.slice Ao37 t288.length co37 : Value).ownBlock) rfl rfl rfl ?aF ?aO (by omega) ?aB ?aS ?aL ?_
                              (case aB => exact (by repeat (first | (with_reducible first | exact HB.out | apply below_alloc | apply pw_below_drewN | apply below_drew1 | refine below_set ?_ GE285.out) | exact HB.out)))
                              (case aF => exact (fun k_ hk => Kd.fresh' (Kd.R_lt (by (with_reducible repeat (first | apply Kd.R_alloc | apply Kd.R_drewN | apply Kd.R_drew)); exact HO290.out)) k_ hk))
                              (case aO => exact (by (with_reducible repeat (first | apply Kd.R_alloc | apply Kd.R_drewN | apply Kd.R_drew)); exact HO302.out))
                              (case aS => exact (below_size (by repeat (first | (with_reducible first | exact HB.out | apply below_alloc | apply pw_below_drewN | apply below_drew1 | refine below_set ?_ GE285.out) | exact HB.out))))
                              (case aL => have := LMc21.out; omega)
                              intro v304 w38 ho hb hg hat
                              (try simp only [Int.reduceToNat] at ho)
                              rw [← Ny303.out] at ho
                              have n0_ := Aside0.mk (blk_grown (g := gb285) (o := .cells #[.bool a1_0, .bool a1_1] 36 (0, 0)) (by (with_reducible repeat (first | refine blk_drewN ?_ _ | refine blk_drew ?_ | refine blk_alloc ?_ _)); exact BK285.out) hg (Kd.R_ne HO302.out BK285.out (by decide)))
                              have n1_ := Aside0.mk (Kd.R_after (ok := (fun _ => True)) (by (with_reducible repeat (first | apply Kd.R_alloc | apply Kd.R_drewN | apply Kd.R_drew)); exact HO290.out) hg hat)
                              have n2_ := Aside0.mk (Kd.R_over' (by (with_reducible repeat (first | apply Kd.R_alloc | apply Kd.R_drewN | apply Kd.R_drew)); exact HO296.out) (Kd.R_typed (by (with_reducible repeat (first | apply Kd.R_alloc | apply Kd.R_drewN | apply Kd.R_drew)); exact HO302.out)) (by decide) hg)
                              have n3_ := Aside0.mk (hb)
                              have n4_ := Aside0.mk (ho)
                              clear BK285
                              clear HO290
                              clear HO296
                              clear HB
                              clear HO302
                              have BK285 := n0_
                              have HO290 := n1_
                              have HO296 := n2_
                              have HB := n3_
                              have HO305 := n4_
                              clear n0_ n1_ n2_ n3_ n4_
                              clear ho hb hg hat
                              refine hK.out _ _ ⟨(blk_cell BK285.out 0).trans rfl, (blk_cell BK285.out 1).trans rfl⟩ (fun hHeld => ?_)
                              clear hK K
                              refine norm_ (a' := ?_) ?_ ?_
                              rotate_left
                              · show Act.put _ (some 57) _ = _
                                simp only [Act.put, List.setIfInBounds_toArray, List.set_cons_zero, List.set_cons_succ, i64_w, i32_w]
                                rfl
                              refine one_ (i := 5) (N := some 59) #[true, true, true, true, true, true, true, false, false, false, false, false, false] rfl rfl (one_of HT_.out (by kernel_rfl)) (by decide) (fun K hK => ?_)
                              refine Kd.R_append_rows_step (Kd.int .u8) (w0 := w) w.heap.size (by rfl) (.tmp 57) (.tmp 58) 39 5 (.int .u8 0) 1 rfl Try.underlying39 info5 rfl (by decide) (by omega) v304 y303 l2 _ _ _ (fun k_ => some k_ ≠ (.slice Ao37 t288.length co37 : Value).ownBlock) (fun _ => False) rfl rfl ?aO ?aR (fun _ _ h => h) (fun _ h => h.elim) ?aF ?aB ?aS ?aL ?_
                              (case aR => repeat (first | exact (Kd.C_below HR2.out HB.out) | (with_reducible refine Kd.C_alloc ?_ _) | (with_reducible refine Kd.C_drewN ?_ _) | (with_reducible refine Kd.C_drew ?_)))
                              (case aB => exact (by repeat (first | (with_reducible first | exact HB.out | apply below_alloc | apply pw_below_drewN | apply below_drew1 | refine below_set ?_ GE285.out) | exact HB.out)))
                              (case aF => exact (fun k_ hk => Kd.fresh' (Kd.R_lt (by (with_reducible repeat (first | apply Kd.R_alloc | apply Kd.R_drewN | apply Kd.R_drew)); exact HO290.out)) k_ hk))
                              (case aO => exact (by (with_reducible repeat (first | apply Kd.R_alloc | apply Kd.R_drewN | apply Kd.R_drew)); exact HO305.out))
                              (case aS => exact (below_size (by repeat (first | (with_reducible first | exact HB.out | apply below_alloc | apply pw_below_drewN | apply below_drew1 | refine below_set ?_ GE285.out) | exact HB.out))))
                              (case aL => have := LMc22.out; omega)
                              intro v307 w39 ho hb hg hat
                              (try simp only [Int.reduceToNat] at ho)
                              rw [← Ny306.out] at ho
                              have n0_ := Aside0.mk (blk_grown (g := gb285) (o := .cells #[.bool a1_0, .bool a1_1] 36 (0, 0)) (by (with_reducible repeat (first | refine blk_drewN ?_ _ | refine blk_drew ?_ | refine blk_alloc ?_ _)); exact BK285.out) hg (Kd.R_ne HO305.out BK285.out (by decide)))
                              have n1_ := Aside0.mk (Kd.R_after (ok := (fun _ => True)) (by (with_reducible repeat (first | apply Kd.R_alloc | apply Kd.R_drewN | apply Kd.R_drew)); exact HO290.out) hg hat)
                              have n2_ := Aside0.mk (Kd.R_over' (by (with_reducible repeat (first | apply Kd.R_alloc | apply Kd.R_drewN | apply Kd.R_drew)); exact HO296.out) (Kd.R_typed (by (with_reducible repeat (first | apply Kd.R_alloc | apply Kd.R_drewN | apply Kd.R_drew)); exact HO305.out)) (by decide) hg)
                              have n3_ := Aside0.mk (hb)
                              have n4_ := Aside0.mk (ho)
                              clear BK285
                              clear HO290
                              clear HO296
                              clear HB
                              clear HO305
                              have BK285 := n0_
                              have HO290 := n1_
                              have HO296 := n2_
                              have HB := n3_
                              have HO308 := n4_
                              clear n0_ n1_ n2_ n3_ n4_
                              clear ho hb hg hat
                              obtain ⟨Ao40, co40, eo40⟩ := Kd.R_slice HO308.out
                              (first | subst eo40 | (injection eo40 with f1_ f2_ f3_; have f4_ := f1_.symm; have f5_ := f3_.symm; clear f1_ f2_ f3_; subst f4_; subst f5_))
                              refine hK.out _ _ ⟨(blk_cell BK285.out 0).trans rfl, (blk_cell BK285.out 1).trans rfl⟩ (fun hHeld => ?_)
                              clear hK K
                              refine norm_ (a' := ?_) ?_ ?_
                              rotate_left
                              · show Act.put _ (some 59) _ = _
                                simp only [Act.put, List.setIfInBounds_toArray, List.set_cons_zero, List.set_cons_succ, i64_w, i32_w]
                                rfl
                              refine one_ (i := 7) (N := some 61) #[true, true, true, true, true, true, true, true, false, false, false, false, false] rfl rfl (one_of HT_.out (by kernel_rfl)) (by decide) (fun K hK => ?_)
                              refine goes_ Try.func40 (by kernel_rfl) rfl #[.slice Ao40 y306.length co40, .agg #[.bool a1_0, .bool a1_1]] (by rfl) rfl rfl (by (try simp only [List.map_toArray, List.map_cons, List.map_nil]); first | done | rfl | (simp only [List.length_drop, List.length_take]; rfl)) ?_
                              with_reducible refine (dyn_All.calls kj9 _ _ y306 a1_0 a1_1 t309 false t313 t314 t315 _ ?side1 ?side2 A23.out).mono ?_
                              (case side1 => repeat (first | exact (Kd.R_reads' HO308.out).2.2 | (with_reducible refine Kd.C_alloc ?_ _) | (with_reducible refine Kd.C_drewN ?_ _) | (with_reducible refine Kd.C_drew ?_)))
                              (case side2 => exact (Kd.R_reads' HO308.out).2.1)
                              rintro e w41 ⟨v310, v316, rfl, ho0, ho1, hb⟩
                              refine ⟨_, rfl, ?_⟩
                              have n0_ := Aside0.mk (Kd.R_below (by (with_reducible repeat (first | apply Kd.R_alloc | apply Kd.R_drewN | apply Kd.R_drew)); exact HO290.out) hb)
                              have n1_ := Aside0.mk (Kd.R_elder' (by (with_reducible repeat (first | apply Kd.R_alloc | apply Kd.R_drewN | apply Kd.R_drew)); exact HO296.out) (Kd.R_base ho1) hb)
                              have n2_ := Aside0.mk (Kd.R_below (by (with_reducible repeat (first | apply Kd.R_alloc | apply Kd.R_drewN | apply Kd.R_drew)); exact HO308.out) hb)
                              have n3_ := Aside0.mk (Kd.R_lower ho0 (below_size (by repeat (first | (with_reducible first | exact HB.out | apply below_alloc | apply pw_below_drewN | apply below_drew1 | refine below_set ?_ GE285.out) | exact HB.out))))
                              have n4_ := Aside0.mk (Kd.R_lower (Kd.R_new' ho1 (Kd.R_lt (by (with_reducible repeat (first | apply Kd.R_alloc | apply Kd.R_drewN | apply Kd.R_drew)); exact HO296.out))) (below_size (by repeat (first | (with_reducible first | exact HB.out | apply below_alloc | apply pw_below_drewN | apply below_drew1 | refine below_set ?_ GE285.out) | exact HB.out))))
                              have n5_ := Aside0.mk (blk_below (g := gb285) (o := .cells #[.bool a1_0, .bool a1_1] 36 (0, 0)) (by (with_reducible repeat (first | refine blk_drewN ?_ _ | refine blk_drew ?_ | refine blk_alloc ?_ _)); exact BK285.out) hb)
                              have n6_ := Aside0.mk (below_step (by repeat (first | (with_reducible first | exact HB.out | apply below_alloc | apply pw_below_drewN | apply below_drew1 | refine below_set ?_ GE285.out) | exact HB.out)) hb)
                              clear HO290
                              clear HO296
                              clear HO308
                              clear BK285
                              clear HB
                              have HO290 := n0_
                              have HO296 := n1_
                              have HO308 := n2_
                              have HO311 := n3_
                              have HO317 := n4_
                              have BK285 := n5_
                              have HB := n6_
                              clear n0_ n1_ n2_ n3_ n4_ n5_ n6_
                              (try clear hb)
                              (try clear hb2)
                              (try clear hk)
                              (try clear hi)
                              (try clear ho0)
                              (try clear ho1)
                              refine hK.out _ _ ⟨(blk_cell BK285.out 0).trans rfl, (blk_cell BK285.out 1).trans rfl⟩ (fun hHeld => ?_)
                              clear hK K
                              refine norm_ (a' := ?_) ?_ ?_
                              rotate_left
                              · show Act.put _ (some 61) _ = _
                                simp only [Act.put, List.setIfInBounds_toArray, List.set_cons_zero, List.set_cons_succ, i64_w, i32_w]
                                rfl
                              refine pure_ (i := 8) (N := some 53) (v := ?_) (a' := ?_) #[true, true, true, true, true, true, true, true, true, false, false, false, false] rfl rfl (any_of HT_.out (by kernel_rfl)) (fun _ _ _ h => h) (Or.inl ⟨by rfl, ?_⟩) ?_ ?_
                              rotate_left
                              · intro w'
                                go_simp
                                with_reducible rfl
                              rotate_left
                              · simp only [Act.put, List.setIfInBounds_toArray, List.set_cons_zero, List.set_cons_succ, i64_w, i32_w]
                                rfl
                              refine pure_ (i := 9) (N := some 62) (v := ?_) (a' := ?_) #[true, true, true, true, true, true, true, true, true, true, false, false, false] rfl rfl (any_of HT_.out (by kernel_rfl)) (fun _ _ _ h => h) (Or.inl ⟨by rfl, ?_⟩) ?_ ?_
                              rotate_left
                              · intro w'
                                go_simp
                                with_reducible rfl
                              rotate_left
                              · simp only [Act.put, List.setIfInBounds_toArray, List.set_cons_zero, List.set_cons_succ, i64_w, i32_w]
                                rfl
                              refine pure_ (i := 10) (N := some 63) (v := ?_) (a' := ?_) #[true, true, true, true, true, true, true, true, true, true, true, false, false] rfl rfl (any_of HT_.out (by kernel_rfl)) (fun _ _ _ h => h) (Or.inl ⟨by rfl, ?_⟩) ?_ ?_
                              rotate_left
                              · intro w'
                                go_simp
                                with_reducible rfl
                              rotate_left
                              · simp only [Act.put, List.setIfInBounds_toArray, List.set_cons_zero, List.set_cons_succ, i64_w, i32_w]
                                rfl
                              refine pure_ (i := 11) (N := some 11) (v := ?_) (a' := ?_) #[true, true, true, true, true, true, true, true, true, true, true, true, false] rfl rfl (any_of HT_.out (by kernel_rfl)) (fun _ _ _ h => h) (Or.inl ⟨by rfl, ?_⟩) ?_ ?_
                              rotate_left
                              · intro w'
                                go_simp
                                with_reducible rfl
                              rotate_left
                              · simp only [Act.put, List.setIfInBounds_toArray, List.set_cons_zero, List.set_cons_succ, i64_w, i32_w]
                                rfl
                              refine pure_ (i := 12) (N := some 12) (v := ?_) (a' := ?_) #[true, true, true, true, true, true, true, true, true, true, true, true, true] rfl rfl (any_of HT_.out (by kernel_rfl)) (fun _ _ _ h => h) (Or.inl ⟨by rfl, ?_⟩) ?_ ?_
                              rotate_left
                              · intro w'
                                go_simp
                                with_reducible rfl
                              rotate_left
                              · simp only [Act.put, List.setIfInBounds_toArray, List.set_cons_zero, List.set_cons_succ, i64_w, i32_w]
                                rfl
                              refine done_ (done_of HT_.out (by kernel_rfl)) ?_
                              have hcz42_0 : w41.cell? ⟨gb285, 0, none⟩ = some (.bool a1_0) := (blk_cell BK285.out 0).trans rfl
                              have hcz42_1 : w41.cell? ⟨gb285, 1, none⟩ = some (.bool a1_1) := (blk_cell BK285.out 1).trans rfl
                              have hfz42_0 := blk_frozen BK285.out 0
                              have hfz42_1 := blk_frozen BK285.out 1
                              try go_wp2_with (first | ((with_reducible refine gate_callee (f := 40) rfl ?_); refine goesL_ (some 67) rfl rfl Try.func40 (by kernel_rfl) rfl #[.slice Ao37 t288.length co37, .agg #[.bool a1_0, .bool a1_1]] rfl (by (try simp only [List.map_toArray, List.map_cons, List.map_nil]); first | done | rfl | (simp only [List.length_drop, List.length_take]; rfl)) ?_; (with_reducible refine (dyn_All.calls kj9 _ _ t288 a1_0 a1_1 t318 t321 t322 t323 t324 _ ?side1 ?side2 A24.out).mono ?_); (case side1 => repeat (first | exact (Kd.R_reads' HO290.out).2.2 | (with_reducible refine Kd.C_alloc ?_ _) | (with_reducible refine Kd.C_drewN ?_ _) | (with_reducible refine Kd.C_drew ?_))); (case side2 => exact (Kd.R_reads' HO290.out).2.1); rintro e w43 ⟨v319, v325, rfl, ho0, ho1, hb⟩; refine ⟨_, rfl, ?_⟩; have n0_ := Aside0.mk (Kd.R_below (by (with_reducible repeat (first | apply Kd.R_alloc | apply Kd.R_drewN | apply Kd.R_drew)); exact HO290.out) hb); have n1_ := Aside0.mk (Kd.R_elder' (by (with_reducible repeat (first | apply Kd.R_alloc | apply Kd.R_drewN | apply Kd.R_drew)); exact HO296.out) (Kd.R_base ho1) hb); have n2_ := Aside0.mk (Kd.R_below (by (with_reducible repeat (first | apply Kd.R_alloc | apply Kd.R_drewN | apply Kd.R_drew)); exact HO308.out) hb); have n3_ := Aside0.mk (Kd.R_elder' (by (with_reducible repeat (first | apply Kd.R_alloc | apply Kd.R_drewN | apply Kd.R_drew)); exact HO311.out) (Kd.R_base ho0) hb); have n4_ := Aside0.mk (Kd.R_elder' (by (with_reducible repeat (first | apply Kd.R_alloc | apply Kd.R_drewN | apply Kd.R_drew)); exact HO317.out) (Kd.R_base ho1) hb); have n5_ := Aside0.mk (Kd.R_lower (Kd.R_new' ho0 (Kd.R_lt (by (with_reducible repeat (first | apply Kd.R_alloc | apply Kd.R_drewN | apply Kd.R_drew)); exact HO311.out))) (below_size (by repeat (first | (with_reducible first | exact HB.out | apply below_alloc | apply pw_below_drewN | apply below_drew1 | refine below_set ?_ GE285.out) | exact HB.out)))); have n6_ := Aside0.mk (Kd.R_lower (Kd.R_new' (Kd.R_new' ho1 (Kd.R_lt (by (with_reducible repeat (first | apply Kd.R_alloc | apply Kd.R_drewN | apply Kd.R_drew)); exact HO296.out))) (Kd.R_lt (by (with_reducible repeat (first | apply Kd.R_alloc | apply Kd.R_drewN | apply Kd.R_drew)); exact HO317.out))) (below_size (by repeat (first | (with_reducible first | exact HB.out | apply below_alloc | apply pw_below_drewN | apply below_drew1 | refine below_set ?_ GE285.out) | exact HB.out)))); have n7_ := Aside0.mk (blk_below (g := gb285) (o := .cells #[.bool a1_0, .bool a1_1] 36 (0, 0)) (by (with_reducible repeat (first | refine blk_drewN ?_ _ | refine blk_drew ?_ | refine blk_alloc ?_ _)); exact BK285.out) hb); have n8_ := Aside0.mk (below_step (by repeat (first | (with_reducible first | exact HB.out | apply below_alloc | apply pw_below_drewN | apply below_drew1 | refine below_set ?_ GE285.out) | exact HB.out)) hb); clear HO290; clear HO296; clear HO308; clear HO311; clear HO317; clear BK285; clear HB; have HO290 := n0_; have HO296 := n1_; have HO308 := n2_; have HO311 := n3_; have HO317 := n4_; have HO320 := n5_; have HO326 := n6_; have BK285 := n7_; have HB := n8_; clear n0_ n1_ n2_ n3_ n4_ n5_ n6_ n7_ n8_; (try clear hb); (try clear hb2); (try clear hk); (try clear hi); (try clear ho0); (try clear ho1); have q44 : (x8_9 : Int) ≤ ((l0.length : Int) : Int) := of_decide_eq_true (by first | (with_reducible assumption) | assumption); obtain ⟨i044, hi044, _, hsz44, _⟩ := info_parts info73; have hroom44 : l0.length ≤ c0 := HC0.out; have hC44 : Kd.C k73 _ A0 l0.length l0 := HR0.out; have hcut44 := cut_to (P := Try.prog) 59 73 .i64 Try.underlying59 hi044 A0 l0.length c0 x8_9 (of_decide_eq_true (by first | (with_reducible assumption) | assumption)) q44 hroom44; have hr44 := Kd.C_take (m := (x8_9 : Int).toNat) hC44 (by omega); have hy44 : y327.length = (x8_9 : Int).toNat := (by rw [Ny327.out, List.length_take]; omega); rw [← Ny327.out] at hr44; rw [← hy44] at hcut44; have HR330 := Aside0.mk hr44; have HC330 := Aside0.mk (show y327.length ≤ c0 from by omega); clear hr44 hC44 hroom44 hi044 hsz44; have KY44 := Aside0.mk hy44; clear hy44; replace q44 := eq_true q44; obtain ⟨Ao45, co45, eo45⟩ := Kd.R_slice HO311.out; subst eo45) | (go_at_call 44; (with_reducible refine (bezantlaw10_same.calls kj9 _ _ t309 _ _ y327 t331 _ ?side1 ?side2 ?side3 ?side4 A29.out).mono ?_); (case side1 => repeat (first | exact (Kd.R_reads' HO311.out).2.2 | (with_reducible refine Kd.C_alloc ?_ _) | (with_reducible refine Kd.C_drewN ?_ _) | (with_reducible refine Kd.C_drew ?_))); (case side2 => exact (Kd.R_reads' HO311.out).2.1); (case side3 => repeat (first | exact (Kd.C_below HR330.out HB.out) | (with_reducible refine Kd.C_alloc ?_ _) | (with_reducible refine Kd.C_drewN ?_ _) | (with_reducible refine Kd.C_drew ?_))); (case side4 => exact HC330.out); rintro e w' ⟨rfl, ⟨nd, rfl⟩⟩))
                              go_ret
                              exact ⟨by first | rfl | (simp [errW_none, errW_some] <;> rfl) | (simp [*, errW_none, errW_some] <;> rfl), by repeat (first | (with_reducible first | exact HB.out | apply below_alloc | apply pw_below_drewN | apply below_drew1 | refine below_set ?_ GE285.out) | exact HB.out)⟩
                            · rw [if_neg c30] at H
                              exact absurd H (by simp)
                          · rw [if_neg c28] at H
                            exact absurd H (by simp)
                        · rw [if_neg c27] at H
                          exact absurd H (by simp)
                    · replace c25 := Bool.eq_false_iff.mpr c25
                      subst c25
                      have H1 : (none) = some r := by rw [if_neg (show ¬ (false = true) by decide)] at H; exact H
                      clear H
                      have H := H1
                      clear H1
                      exact absurd H (by simp)
                  · rw [if_neg c22] at H
                    exact absurd H (by simp)
                · rw [if_neg c21] at H
                  exact absurd H (by simp)
              · rw [if_neg c20] at H
                exact absurd H (by simp)

end Go.Proofs.Yteohkpfacjjaeaa.QDyn

/- Functions told by the kit's print as plain Lean functions, and that the code comes to what they tell; set right by fixprint.py where the printed text fell. -/
/- Functions told by our printer (out of the kit's) as plain Lean functions, and that the code comes to what they tell: no statement of the set is proved in this text. -/
import Derived.Test.YteohkpfacjjaeaaQDynx0
import Derived.Test.YteohkpfacjjaeaaRDynx4
import Derived.Test.YteohkpfacjjaeaaRDynx5
namespace Go.Proofs.Yteohkpfacjjaeaa.QDyn
open Go.RowKit Go.Proofs.YteohkpfacjjaeaaW.PrintWords Go.Proofs.YteohkpfacjjaeaaW.PrintLast Go.Proofs.YteohkpfacjjaeaaW.PrintMore
attribute [local go_sem] max2_int min2_int max_two min_two max_three min_three max_four min_four   -- for this text's walks alone
set_option linter.unusedVariables false
set_option linter.unusedSimpArgs false

/-! ### bezantref04_PutDyns: function 38 -/
def bezantref04_PutDyns.l0 : Nat → List (S73) → List Int → Int → Int → Bool → Bool → Option (List Int × Bool)
  | 0, _, _, _, _, _, _ => none
  | k + 1, x0, x6, x7, x8, x204000, x204001 => if x8 < (x0.length : Int) then (if 0 ≤ x8 then ((bezantref04_Row.f k (([(rd_T73 x0 x8).f0, (rd_T73 x0 x8).f1] : List Int)) (([x7, x7] : List Int)) x204001).bind fun bt213 => (if bt213.2 = true then (if x6.length + bt213.1.length < 140737488355328 then (bezantref04_PutDyns.l0 k x0 (x6 ++ bt213.1) x7 (wrap64 (x8 + 1)) x204000 x204001) else (none)) else (some (([] : List Int), false)))) else (none)) else (some (x6, true))
def bezantref04_PutDyns.f (k : Nat) (l0 : List (S73)) (a1_0 : Bool) (a1_1 : Bool) : Option (List Int × Bool) := (bezantref04_Word.f a1_0 a1_1).bind fun t204 => (bezantref04_PutDyns.l0 k l0 ([] : List Int) t204 0 a1_0 a1_1)
theorem bezantref04_PutDyns.mono_l : ∀ k, (∀ y0 y1 y2 y3 y4 y5, LeO (bezantref04_PutDyns.l0 k y0 y1 y2 y3 y4 y5) (bezantref04_PutDyns.l0 (k + 1) y0 y1 y2 y3 y4 y5))
  | 0 => fun _ _ _ _ _ _ r h => by simp [bezantref04_PutDyns.l0] at h
  | k + 1 => by
    have ih0 := bezantref04_PutDyns.mono_l k
    · intro y0 y1 y2 y3 y4 y5
      unfold bezantref04_PutDyns.l0
      repeat' first
      | (with_reducible exact ih0 _ _ _ _ _ _)
      | (with_reducible exact bezantref04_Row.mono _ _ _ _)
      | (with_reducible exact LeO.refl _)
      | (with_reducible exact LeO.none _)
      | (with_reducible refine LeO.ite ?_ ?_)
      | (with_reducible refine LeO.bind ?_ (fun _ => ?_))
      | exact ih0 _ _ _ _ _ _
      | exact bezantref04_Row.mono _ _ _ _
      | exact LeO.none _
      | refine LeO.ite ?_ ?_
      | refine LeO.bind ?_ (fun _ => ?_)
theorem bezantref04_PutDyns.mono : ∀ a0 a1 a2 k, LeO (bezantref04_PutDyns.f k a0 a1 a2) (bezantref04_PutDyns.f (k + 1) a0 a1 a2) := by
  intro a0 a1 a2 k
  have ih0 := bezantref04_PutDyns.mono_l k
  unfold bezantref04_PutDyns.f
  repeat' first
      | (with_reducible exact ih0 _ _ _ _ _ _)
      | (with_reducible exact bezantref04_Row.mono _ _ _ _)
      | (with_reducible exact LeO.refl _)
      | (with_reducible exact LeO.none _)
      | (with_reducible refine LeO.ite ?_ ?_)
      | (with_reducible refine LeO.bind ?_ (fun _ => ?_))
      | exact ih0 _ _ _ _ _ _
      | exact bezantref04_Row.mono _ _ _ _
      | exact LeO.none _
      | refine LeO.ite ?_ ?_
      | refine LeO.bind ?_ (fun _ => ?_)
def bezantref04_PutDyns.T6 : Bool × List (List Nat × List Nat) := (true, [([], []), ([], []), ([0, 1], [0, 1]), ([2], [2]), ([3], [3]), ([], []), ([], []), ([5, 6], [5, 6]), ([7], [7]), ([8], [8]), ([4, 9], [4, 9]), ([], []), ([], []), ([11, 12], [11, 12]), ([], []), ([14], [14]), ([10, 13, 15], [10, 13, 15]), ([16], [16]), ([17], [17]), ([17], [17]), ([18, 16, 0, 1, 2, 3, 4, 5, 6, 7, 8, 9, 10, 11, 12, 13, 14, 15, 16, 17, 18], [18]), ([19, 20, 0, 1, 2, 3, 4, 5, 6, 7, 8, 9, 10, 11, 12, 13, 14, 15, 16, 17, 18, 19, 20], [19])])
def bezantref04_PutDyns.B6 : List Nat := [0, 0, 3, 7, 15, 0, 0, 96, 224, 480, 1023, 0, 0, 6144, 0, 16384, 65535, 131071, 262143, 262143, 524287, 2097151]
theorem bezantref04_PutDyns.tab6 : rtab .any (opsOf Try.f38 6) = bezantref04_PutDyns.T6 := by kernel_rfl
theorem bezantref04_PutDyns.bits6 : waitsOk bezantref04_PutDyns.T6.2 bezantref04_PutDyns.B6 = true := by kernel_rfl
set_option maxHeartbeats 8000000 in
set_option maxRecDepth 100000 in
theorem bezantref04_PutDyns.calls (k : Nat) (A0 : Option Addr) (c0 : Nat) (l0 : List (S73)) (a1_0 : Bool) (a1_1 : Bool) (r1 : List Int) (r2 : Bool) (w : World) (hr0 : Kd.C k73 w A0 l0.length l0) (hc0 : l0.length ≤ c0) (h : bezantref04_PutDyns.f k l0 a1_0 a1_1 = some (r1, r2)) :
    Calls Try.prog 38 #[.slice A0 l0.length c0, .agg #[.bool a1_0, .bool a1_1]] w fun e w' => ∃ v0_ : Value, e = .returned (.tuple #[v0_, .bool r2]) ∧ Kd.R (Kd.int .u8) 5 w' w.heap.size (fun _ => True) v0_ r1 ∧ Below w.heap.size w w' := by
  have hu36 := Try.underlying36
  have HR0 := Aside0.mk hr0
  have HC0 := Aside0.mk hc0
  clear hr0 hc0
  have HB := Aside0.mk (Below.refl w.heap.size w)
  have H : ((bezantref04_Word.f a1_0 a1_1).bind fun t204 => (bezantref04_PutDyns.l0 k l0 ([] : List Int) t204 0 a1_0 a1_1)) = some (r1, r2) := h
  clear h
  replace H := Option.bind_eq_some_iff.mp H
  obtain ⟨t204, A30, H⟩ := H
  replace H : (bezantref04_PutDyns.l0 k l0 ([] : List Int) t204 0 a1_0 a1_1) = some (r1, r2) := H
  have A3 := Aside0.mk A30
  clear A30
  have H' := Aside0.mk H
  clear H
  go_enter Try.func38, Try.ntmps38
  go_wp2_with (first | ((with_reducible refine gate_dst (N := 3) rfl ?_); refine box_event ?hg (N := 3) ?hd (cs := #[.bool a1_0, .bool a1_1]) (t := 36) ?hr ?_; (case hd => rfl); (case hg => rfl); (case hr => first | (go_simp; done) | (go_simp; rfl)); intro gb203 hg w4 hbox hb; have n0_ := Aside0.mk (below_step (by repeat (first | (with_reducible first | exact HB.out | apply below_alloc | apply pw_below_drewN | apply below_drew1) | exact HB.out)) hb); have n1_ := Aside0.mk (hbox); have n2_ := Aside0.mk ((by rw [hg]; exact (below_size (by repeat (first | (with_reducible first | exact HB.out | apply below_alloc | apply pw_below_drewN | apply below_drew1) | exact HB.out))) : w.heap.size ≤ gb203)); have n3_ := Aside0.mk ((by rw [hg]; exact (below_size (by repeat (first | (with_reducible first | exact HB.out | apply below_alloc | apply pw_below_drewN | apply below_drew1) | exact HB.out))) : w.heap.size ≤ gb203)); clear HB; have HB := n0_; have BK203 := n1_; have GW203 := n2_; have GE203 := n3_; clear n0_ n1_ n2_ n3_; clear hb hbox hg; have hcz5_0 : w4.cell? ⟨gb203, 0, none⟩ = some (.bool a1_0) := (blk_cell BK203.out 0).trans rfl; have hcz5_1 : w4.cell? ⟨gb203, 1, none⟩ = some (.bool a1_1) := (blk_cell BK203.out 1).trans rfl; have hfz5_0 := blk_frozen BK203.out 0; have hfz5_1 := blk_frozen BK203.out 1) | ((with_reducible refine gate_callee (f := 66) rfl ?_); refine goesL_ (some 12) rfl rfl Try.func66 (by kernel_rfl) rfl #[.agg #[.bool a1_0, .bool a1_1]] rfl (by (try simp only [List.map_toArray, List.map_cons, List.map_nil]); first | done | rfl | (simp only [List.length_drop, List.length_take]; rfl)) ?_; (with_reducible refine (bezantref04_Word.calls a1_0 a1_1 t204 _ A3.out).mono ?_); rintro e w6 ⟨rfl, hb⟩; refine ⟨_, rfl, ?_⟩; have n0_ := Aside0.mk (blk_below (g := gb203) (o := .cells #[.bool a1_0, .bool a1_1] 36 (0, 0)) (by (with_reducible repeat (first | refine blk_drewN ?_ _ | refine blk_drew ?_ | refine blk_alloc ?_ _)); exact BK203.out) hb); have n1_ := Aside0.mk (below_step (by repeat (first | (with_reducible first | exact HB.out | apply below_alloc | apply pw_below_drewN | apply below_drew1 | refine below_set ?_ GE203.out) | exact HB.out)) hb); clear BK203; clear HB; have BK203 := n0_; have HB := n1_; clear n0_ n1_; (try clear hb); (try clear hb2); (try clear hk); (try clear hi)))
  go_loopg [6, 8] k (fun kq v6 v8 w' => ∃ (x6_1 : List Int) (x8_1 : Int), v8 = .int .i64 x8_1 ∧ Aside0 (bezantref04_PutDyns.l0 kq l0 x6_1 t204 x8_1 a1_0 a1_1 = some (r1, r2)) ∧ Aside0 (kq ≤ k) ∧ Aside0 (Kd.R (Kd.int .u8) 5 w' w.heap.size (fun _ => True) v6 x6_1) ∧ Aside0 (w'.heap[gb203]? = some (.cells #[.bool a1_0, .bool a1_1] 36 (0, 0))) ∧ Aside0 (Below w.heap.size w w'))
  case atStart => exact ⟨(([] : List Int)), (0), (by first | rfl | (simp; done) | (simp [*]; done)), H', ⟨Nat.le_refl _⟩, ⟨by first | exact Kd.R_nil _ _ _ _ _ | exact Kd.N_nil _ _ _ _ _ | exact Kd.V_nil _ _ _ _ _ | exact Kd.Q_nil _ _ _ _ _ | exact Kd.S_nil _ _ _ _ _⟩, ⟨by (with_reducible repeat (first | refine blk_drewN ?_ _ | refine blk_drew ?_ | refine blk_alloc ?_ _)); exact BK203.out⟩, ⟨by repeat (first | (with_reducible first | exact HB.out | apply below_alloc | apply pw_below_drewN | apply below_drew1 | refine below_set ?_ GE203.out) | exact HB.out)⟩⟩
  case round =>
    clear H'
    try clear p2
    try clear c3
    try clear c6
    try clear hcz5_0
    try clear hcz5_1
    try clear hfz5_0
    try clear hfz5_1
    obtain ⟨x6_1, x8_1, rfl, HA, HK1, HO_6, BK203, HB⟩ := hrel
    cases gk with
    | zero => exact absurd HA.out (by simp [bezantref04_PutDyns.l0])
    | succ k1 =>
      have H := HA.out
      clear HA
      simp only [bezantref04_PutDyns.l0] at H
      by_cases c7 : x8_1 < (l0.length : Int)
      · rw [if_pos c7] at H
        have c7b0 : decide (x8_1 < (l0.length : Int)) = true := decide_eq_true c7
        clear c7
        by_cases c8 : 0 ≤ x8_1
        · rw [if_pos c8] at H
          have c8b0 : decide (0 ≤ x8_1) = true := decide_eq_true c8
          clear c8
          obtain ⟨y207, hy207⟩ : ∃ y_ : List Int, y_ = (([(rd_T73 l0 x8_1).f0, (rd_T73 l0 x8_1).f1] : List Int)) := ⟨_, rfl⟩
          replace H : ((bezantref04_Row.f k1 y207 (([t204, t204] : List Int)) a1_1).bind fun bt213 => (if bt213.2 = true then (if x6_1.length + bt213.1.length < 140737488355328 then (bezantref04_PutDyns.l0 k1 l0 (x6_1 ++ bt213.1) t204 (wrap64 (x8_1 + 1)) a1_0 a1_1) else (none)) else (some (([] : List Int), false)))) = some (r1, r2) := by first | (rw [hy207]; with_reducible exact H) | (have H2_ := (Option.bind_some _ _).symm.trans H; rw [hy207]; with_reducible exact H2_) | (have H2_ := (Option.bind_some _ _).symm.trans H; with_reducible exact H2_) | with_reducible exact H | (rw [hy207]; exact H) | exact H
          have Ny207 := Aside0.mk hy207
          clear hy207
          obtain ⟨y210, hy210⟩ : ∃ y_ : List Int, y_ = (([t204, t204] : List Int)) := ⟨_, rfl⟩
          replace H : ((bezantref04_Row.f k1 y207 y210 a1_1).bind fun bt213 => (if bt213.2 = true then (if x6_1.length + bt213.1.length < 140737488355328 then (bezantref04_PutDyns.l0 k1 l0 (x6_1 ++ bt213.1) t204 (wrap64 (x8_1 + 1)) a1_0 a1_1) else (none)) else (some (([] : List Int), false)))) = some (r1, r2) := by first | (rw [hy210]; with_reducible exact H) | (have H2_ := (Option.bind_some _ _).symm.trans H; rw [hy210]; with_reducible exact H2_) | (have H2_ := (Option.bind_some _ _).symm.trans H; with_reducible exact H2_) | with_reducible exact H | (rw [hy210]; exact H) | exact H
          have Ny210 := Aside0.mk hy210
          clear hy210
          replace H := Option.bind_eq_some_iff.mp H
          obtain ⟨⟨t213, t214⟩, A90, H⟩ := H
          replace H : (if t214 = true then (if x6_1.length + t213.length < 140737488355328 then (bezantref04_PutDyns.l0 k1 l0 (x6_1 ++ t213) t204 (wrap64 (x8_1 + 1)) a1_0 a1_1) else (none)) else (some (([] : List Int), false))) = some (r1, r2) := H
          have A9 := Aside0.mk A90
          clear A90
          by_cases c10 : t214 = true
          · subst c10
            have H1 : (if x6_1.length + t213.length < 140737488355328 then (bezantref04_PutDyns.l0 k1 l0 (x6_1 ++ t213) t204 (wrap64 (x8_1 + 1)) a1_0 a1_1) else (none)) = some (r1, r2) := by rw [if_pos rfl] at H; exact H
            clear H
            have H := H1
            clear H1
            by_cases c11 : x6_1.length + t213.length < 140737488355328
            · rw [if_pos c11] at H
              have LMc11 := Aside0.mk c11
              clear c11
              obtain ⟨y217, hy217⟩ : ∃ y_ : List Int, y_ = (x6_1 ++ t213) := ⟨_, rfl⟩
              replace H : (bezantref04_PutDyns.l0 k1 l0 y217 t204 (wrap64 (x8_1 + 1)) a1_0 a1_1) = some (r1, r2) := by first | (rw [hy217]; with_reducible exact H) | (have H2_ := (Option.bind_some _ _).symm.trans H; rw [hy217]; with_reducible exact H2_) | (have H2_ := (Option.bind_some _ _).symm.trans H; with_reducible exact H2_) | with_reducible exact H | (rw [hy217]; exact H) | exact H
              have Ny217 := Aside0.mk hy217
              clear hy217
              have H' := Aside0.mk H
              clear H
              try go_wp2
              have n0_ := Aside0.mk (Kd.R_drew HO_6.out)
              have n1_ := Aside0.mk (blk_drew BK203.out)
              have n2_ := Aside0.mk (below_drew1 HB.out)
              clear HO_6
              clear BK203
              clear HB
              have HO_6 := n0_
              have BK203 := n1_
              have HB := n2_
              clear n0_ n1_ n2_
              have p205 : 0 ≤ (x8_1 : Int) := of_decide_eq_true (by first | (with_reducible assumption) | assumption)
              have q205 : x8_1 < (l0.length : Int) := of_decide_eq_true (by first | (with_reducible assumption) | assumption)
              obtain ⟨ad205, e205, hx205_0, hx205_1⟩ := at_T73 HR0.out x8_1 p205 q205
              have hw205_1 := hx205_1
              have hw205_0 := hx205_0
              cases e205
              replace hx205_0 := (HB.out.cell (World.block_lt_of_cell? w _ hx205_0)).trans hx205_0
              replace hx205_1 := (HB.out.cell (World.block_lt_of_cell? w _ hx205_1)).trans hx205_1
              replace p205 := eq_true p205
              replace q205 := eq_true q205
              have p206 : 0 ≤ (x8_1 : Int) := of_decide_eq_true (by first | (with_reducible assumption) | assumption)
              have q206 : x8_1 < (l0.length : Int) := of_decide_eq_true (by first | (with_reducible assumption) | assumption)
              obtain ⟨ad206, e206, hx206_0, hx206_1⟩ := at_T73 HR0.out x8_1 p206 q206
              have hw206_1 := hx206_1
              have hw206_0 := hx206_0
              obtain rfl : ad205 = ad206 := (by injection e206)
              replace hx206_0 := (HB.out.cell (World.block_lt_of_cell? w _ hx206_0)).trans hx206_0
              replace hx206_1 := (HB.out.cell (World.block_lt_of_cell? w _ hx206_1)).trans hx206_1
              replace p206 := eq_true p206
              replace q206 := eq_true q206
              refine start_ (n := 22) (S := fun w' => w'.cell? ⟨gb203, 0, none⟩ = some (.bool a1_0) ∧ w'.cell? ⟨gb203, 1, none⟩ = some (.bool a1_1) ∧ w'.cell? (ad205.add ((x8_1).toNat * 2)) = some (.int .u64 ((rd_T73 l0 x8_1).f0)) ∧ w'.cell? ⟨(ad205.add ((x8_1).toNat * 2)).block, (ad205.add ((x8_1).toNat * 2)).off + 1, none⟩ = some (.int .u64 ((rd_T73 l0 x8_1).f1)) ∧ w'.cell? (ad205.add ((x8_1).toNat * 2)) = some (.int .u64 ((rd_T73 l0 x8_1).f0)) ∧ w'.cell? ⟨(ad205.add ((x8_1).toNat * 2)).block, (ad205.add ((x8_1).toNat * 2)).off + 1, none⟩ = some (.int .u64 ((rd_T73 l0 x8_1).f1))) (ds := []) #[false, false, false, false, false, false, false, false, false, false, false, false, false, false, false, false, false, false, false, false, false, false] (by kernel_rfl) rfl rfl ⟨(blk_cell BK203.out 0).trans rfl, (blk_cell BK203.out 1).trans rfl, ((HB.out.cell (World.block_lt_of_cell? w _ hw205_0)).trans hw205_0), ((HB.out.cell (World.block_lt_of_cell? w _ hw205_1)).trans hw205_1), ((HB.out.cell (World.block_lt_of_cell? w _ hw206_0)).trans hw206_0), ((HB.out.cell (World.block_lt_of_cell? w _ hw206_1)).trans hw206_1)⟩ (fun hHeld => ?_); refine with_tabW bezantref04_PutDyns.tab6 bezantref04_PutDyns.bits6 (fun HT_ HW_ => ?_)
              generalize wr.drew = w12 at HO_6 BK203 HB hx205_0 hx205_1 hx206_0 hx206_1 hHeld ⊢
              refine pure_ (i := 0) (N := some 20) (v := ?_) (a' := ?_) #[true, false, false, false, false, false, false, false, false, false, false, false, false, false, false, false, false, false, false, false, false, false] rfl rfl (any_of HT_.out (by kernel_rfl)) (fun _ _ _ h => h) (Or.inl ⟨by rfl, ?_⟩) ?_ ?_
              rotate_left
              · intro w'
                go_simp
                with_reducible rfl
              rotate_left
              · simp only [Act.put, List.setIfInBounds_toArray, List.set_cons_zero, List.set_cons_succ, i64_w, i32_w]
                rfl
              refine pure_ (i := 1) (N := some 21) (v := ?_) (a' := ?_) #[true, true, false, false, false, false, false, false, false, false, false, false, false, false, false, false, false, false, false, false, false, false] rfl rfl (any_of HT_.out (by kernel_rfl)) (fun _ _ _ h => h) (Or.inl ⟨by rfl, ?_⟩) ?_ ?_
              rotate_left
              · intro w'
                go_simp
                with_reducible rfl
              rotate_left
              · simp only [Act.put, List.setIfInBounds_toArray, List.set_cons_zero, List.set_cons_succ, i64_w, i32_w]
                rfl
              refine pure_ (i := 2) (N := some 22) (v := ?_) (a' := ?_) #[true, true, true, false, false, false, false, false, false, false, false, false, false, false, false, false, false, false, false, false, false, false] rfl rfl (any_of HT_.out (by kernel_rfl)) (fun _ _ _ h => h) (Or.inl ⟨by rfl, ?_⟩) ?_ ?_
              rotate_left
              · intro w'
                go_simp
                with_reducible rfl
              rotate_left
              · simp only [Act.put, List.setIfInBounds_toArray, List.set_cons_zero, List.set_cons_succ, i64_w, i32_w]
                rfl
              refine pure_ (i := 3) (N := some 23) (v := ?_) (a' := ?_) #[true, true, true, true, false, false, false, false, false, false, false, false, false, false, false, false, false, false, false, false, false, false] rfl rfl (any_of HT_.out (by kernel_rfl)) (fun _ _ _ h => h) (Or.inl ⟨by rfl, ?_⟩) ?_ ?_
              rotate_left
              · intro w'
                go_simp
                with_reducible rfl
              rotate_left
              · simp only [Act.put, List.setIfInBounds_toArray, List.set_cons_zero, List.set_cons_succ, i64_w, i32_w]
                rfl
              refine pure_ (i := 5) (N := some 25) (v := ?_) (a' := ?_) #[true, true, true, true, false, true, false, false, false, false, false, false, false, false, false, false, false, false, false, false, false, false] rfl rfl (any_of HT_.out (by kernel_rfl)) (fun _ _ _ h => h) (Or.inl ⟨by rfl, ?_⟩) ?_ ?_
              rotate_left
              · intro w'
                go_simp
                with_reducible rfl
              rotate_left
              · simp only [Act.put, List.setIfInBounds_toArray, List.set_cons_zero, List.set_cons_succ, i64_w, i32_w]
                rfl
              refine pure_ (i := 6) (N := some 26) (v := ?_) (a' := ?_) #[true, true, true, true, false, true, true, false, false, false, false, false, false, false, false, false, false, false, false, false, false, false] rfl rfl (any_of HT_.out (by kernel_rfl)) (fun _ _ _ h => h) (Or.inl ⟨by rfl, ?_⟩) ?_ ?_
              rotate_left
              · intro w'
                go_simp
                with_reducible rfl
              rotate_left
              · simp only [Act.put, List.setIfInBounds_toArray, List.set_cons_zero, List.set_cons_succ, i64_w, i32_w]
                rfl
              refine pure_ (i := 7) (N := some 27) (v := ?_) (a' := ?_) #[true, true, true, true, false, true, true, true, false, false, false, false, false, false, false, false, false, false, false, false, false, false] rfl rfl (any_of HT_.out (by kernel_rfl)) (fun _ _ _ h => h) (Or.inl ⟨by rfl, ?_⟩) ?_ ?_
              rotate_left
              · intro w'
                go_simp
                with_reducible rfl
              rotate_left
              · simp only [Act.put, List.setIfInBounds_toArray, List.set_cons_zero, List.set_cons_succ, i64_w, i32_w]
                rfl
              refine pure_ (i := 8) (N := some 28) (v := ?_) (a' := ?_) #[true, true, true, true, false, true, true, true, true, false, false, false, false, false, false, false, false, false, false, false, false, false] rfl rfl (any_of HT_.out (by kernel_rfl)) (fun _ _ _ h => h) (Or.inl ⟨by rfl, ?_⟩) ?_ ?_
              rotate_left
              · intro w'
                go_simp
                with_reducible rfl
              rotate_left
              · simp only [Act.put, List.setIfInBounds_toArray, List.set_cons_zero, List.set_cons_succ, i64_w, i32_w]
                rfl
              refine pure_ (i := 11) (N := some 31) (v := ?_) (a' := ?_) #[true, true, true, true, false, true, true, true, true, false, false, true, false, false, false, false, false, false, false, false, false, false] rfl rfl (any_of HT_.out (by kernel_rfl)) (fun _ _ _ h => h) (Or.inl ⟨by rfl, ?_⟩) ?_ ?_
              rotate_left
              · intro w'
                go_simp
                with_reducible rfl
              rotate_left
              · simp only [Act.put, List.setIfInBounds_toArray, List.set_cons_zero, List.set_cons_succ, i64_w, i32_w]
                rfl
              refine pure_ (i := 12) (N := some 32) (v := ?_) (a' := ?_) #[true, true, true, true, false, true, true, true, true, false, false, true, true, false, false, false, false, false, false, false, false, false] rfl rfl (any_of HT_.out (by kernel_rfl)) (fun _ _ _ h => h) (Or.inl ⟨by rfl, ?_⟩) ?_ ?_
              rotate_left
              · intro w'
                go_simp
                with_reducible rfl
              rotate_left
              · simp only [Act.put, List.setIfInBounds_toArray, List.set_cons_zero, List.set_cons_succ, i64_w, i32_w]
                rfl
              refine pure_ (i := 14) (N := some 34) (v := ?_) (a' := ?_) #[true, true, true, true, false, true, true, true, true, false, false, true, true, false, true, false, false, false, false, false, false, false] rfl rfl (any_of HT_.out (by kernel_rfl)) (fun _ _ _ h => h) (Or.inl ⟨by rfl, ?_⟩) ?_ ?_
              rotate_left
              · intro w'
                go_simp
                with_reducible rfl
              rotate_left
              · simp only [Act.put, List.setIfInBounds_toArray, List.set_cons_zero, List.set_cons_succ, i64_w, i32_w]
                rfl
              refine take_ (i := 4) (N := some 24) (v := ?_) (a' := ?_) #[true, true, true, true, true, true, true, true, true, false, false, true, true, false, true, false, false, false, false, false, false, false] rfl rfl (take_ofW HT_.out HW_.out (by kernel_rfl)) (fun _ _ _ h => h) (Or.inl ⟨by rfl, ?_⟩) hHeld ?_ ?_
              rotate_left
              · rintro w' ⟨s0, s1, s2, s3, s4, s5⟩
                go_simp
                with_reducible rfl
              rotate_left
              · simp only [Act.put, List.setIfInBounds_toArray, List.set_cons_zero, List.set_cons_succ, i64_w, i32_w]
                rfl
              refine take_ (i := 9) (N := some 29) (v := ?_) (a' := ?_) #[true, true, true, true, true, true, true, true, true, true, false, true, true, false, true, false, false, false, false, false, false, false] rfl rfl (take_ofW HT_.out HW_.out (by kernel_rfl)) (fun _ _ _ h => h) (Or.inl ⟨by rfl, ?_⟩) hHeld ?_ ?_
              rotate_left
              · rintro w' ⟨s0, s1, s2, s3, s4, s5⟩
                go_simp
                with_reducible rfl
              rotate_left
              · simp only [Act.put, List.setIfInBounds_toArray, List.set_cons_zero, List.set_cons_succ, i64_w, i32_w]
                rfl
              refine take_ (i := 15) (N := some 35) (v := ?_) (a' := ?_) #[true, true, true, true, true, true, true, true, true, true, false, true, true, false, true, true, false, false, false, false, false, false] rfl rfl (take_ofW HT_.out HW_.out (by kernel_rfl)) (fun _ _ _ h => h) (Or.inl ⟨by rfl, ?_⟩) hHeld ?_ ?_
              rotate_left
              · rintro w' ⟨s0, s1, s2, s3, s4, s5⟩
                go_simp
                with_reducible rfl
              rotate_left
              · simp only [Act.put, List.setIfInBounds_toArray, List.set_cons_zero, List.set_cons_succ, i64_w, i32_w]
                rfl
              refine join_ (σ := Value × Value) 6 #[true, true, true, true, true, true, true, true, true, true, true, true, true, true, true, true, false, false, false, false, false, false] (fun s_ => [(30, s_.1), (33, s_.2)]) (fun s_ w' => (w'.cell? ⟨gb203, 0, none⟩ = some (.bool a1_0) ∧ w'.cell? ⟨gb203, 1, none⟩ = some (.bool a1_1) ∧ w'.cell? (ad205.add ((x8_1).toNat * 2)) = some (.int .u64 ((rd_T73 l0 x8_1).f0)) ∧ w'.cell? ⟨(ad205.add ((x8_1).toNat * 2)).block, (ad205.add ((x8_1).toNat * 2)).off + 1, none⟩ = some (.int .u64 ((rd_T73 l0 x8_1).f1)) ∧ w'.cell? (ad205.add ((x8_1).toNat * 2)) = some (.int .u64 ((rd_T73 l0 x8_1).f0)) ∧ w'.cell? ⟨(ad205.add ((x8_1).toNat * 2)).block, (ad205.add ((x8_1).toNat * 2)).off + 1, none⟩ = some (.int .u64 ((rd_T73 l0 x8_1).f1))) ∧ (Kd.R (Kd.int .u64) 23 w' w.heap.size (fun _ => True) s_.1 y207) ∧ (Kd.R (Kd.int .i64) 3 w' w.heap.size (fun _ => True) s_.2 y210) ∧ (Kd.R (Kd.int .u8) 5 w' w.heap.size (fun _ => True) u6 x6_1) ∧ (w'.heap[gb203]? = some (.cells #[.bool a1_0, .bool a1_1] 36 (0, 0))) ∧ (Below w.heap.size w w')) ?_ ?_
              rotate_left
              · intro hCont
                refine two_ (i := 10) (j := 13) (Ni := some 30) (Nj := some 33) #[true, true, true, true, true, true, true, true, true, true, true, true, true, false, true, true, false, false, false, false, false, false] #[true, true, true, true, true, true, true, true, true, true, false, true, true, true, true, true, false, false, false, false, false, false] rfl rfl rfl rfl (two_of HT_.out (by kernel_rfl)) (by decide) (by decide) (fun K hK => ?_) (fun K hK => ?_)
                · skip
                  refine Kd.R_lit_step (Kd.int .u64) _ 23 ?hg (N := 30) ?hd (xs := ([(rd_T73 l0 x8_1).f0, (rd_T73 l0 x8_1).f1] : List Int)) (inner := [.int .u64 ((rd_T73 l0 x8_1).f0), .int .u64 ((rd_T73 l0 x8_1).f1)]) (ok := fun _ => True) (okp := fun _ => True) ?hr ?hp (fun _ hk => hk) trivial (Below.refl _ _) (Nat.le_refl _) (by simp) ?_; (case hd => rfl); (case hg => rfl); (case hr => first | (go_simp; done) | (go_simp; rfl)); (case hp => exact (Reps.one (show Kd.M (Kd.int .u64) _ _ _ ((rd_T73 l0 x8_1).f0) [.int .u64 ((rd_T73 l0 x8_1).f0)] from rfl) (Reps.one (show Kd.M (Kd.int .u64) _ _ _ ((rd_T73 l0 x8_1).f1) [.int .u64 ((rd_T73 l0 x8_1).f1)] from rfl) (Reps.none _ _))))
                  intro v208 w13 ho14 hb hg_ hnew_
                  clear hg_ hnew_
                  (first | rw [← Ny207.out] at ho14 | (simp only [Int.reduceToNat] at ho14; rw [← Ny207.out] at ho14))
                  have n0_ := Aside0.mk (Kd.R_below (by (with_reducible repeat (first | apply Kd.R_alloc | apply Kd.R_drewN | apply Kd.R_drew)); exact HO_6.out) hb)
                  have n1_ := Aside0.mk (Kd.R_lower ho14 (below_size (by repeat (first | (with_reducible first | exact HB.out | apply below_alloc | apply pw_below_drewN | apply below_drew1 | refine below_set ?_ GE203.out) | exact HB.out))))
                  have n2_ := Aside0.mk (blk_below (g := gb203) (o := .cells #[.bool a1_0, .bool a1_1] 36 (0, 0)) (by (with_reducible repeat (first | refine blk_drewN ?_ _ | refine blk_drew ?_ | refine blk_alloc ?_ _)); exact BK203.out) hb)
                  have n3_ := Aside0.mk (below_step (by repeat (first | (with_reducible first | exact HB.out | apply below_alloc | apply pw_below_drewN | apply below_drew1 | refine below_set ?_ GE203.out) | exact HB.out)) hb)
                  clear HO_6
                  clear BK203
                  clear HB
                  have HO_6 := n0_
                  have HO209 := n1_
                  have BK203 := n2_
                  have HB := n3_
                  clear n0_ n1_ n2_ n3_
                  clear hb ho14
                  refine hK.out _ _ ⟨(blk_cell BK203.out 0).trans rfl, (blk_cell BK203.out 1).trans rfl, ((HB.out.cell (World.block_lt_of_cell? w _ hw205_0)).trans hw205_0), ((HB.out.cell (World.block_lt_of_cell? w _ hw205_1)).trans hw205_1), ((HB.out.cell (World.block_lt_of_cell? w _ hw206_0)).trans hw206_0), ((HB.out.cell (World.block_lt_of_cell? w _ hw206_1)).trans hw206_1)⟩ (fun hHeld => ?_)
                  clear hK K
                  refine norm_ (a' := ?_) ?_ ?_
                  rotate_left
                  · show Act.put _ (some 30) _ = _
                    simp only [Act.put, List.setIfInBounds_toArray, List.set_cons_zero, List.set_cons_succ, i64_w, i32_w]
                    rfl
                  refine one_ (i := 13) (N := some 33) #[true, true, true, true, true, true, true, true, true, true, true, true, true, true, true, true, false, false, false, false, false, false] rfl rfl (one_of HT_.out (by kernel_rfl)) (by decide) (fun K hK => ?_)
                  refine Kd.R_lit_step (Kd.int .i64) _ 3 ?hg (N := 33) ?hd (xs := ([t204, t204] : List Int)) (inner := [.int .i64 t204, .int .i64 t204]) (ok := fun _ => True) (okp := fun _ => True) ?hr ?hp (fun _ hk => hk) trivial (Below.refl _ _) (Nat.le_refl _) (by simp) ?_; (case hd => rfl); (case hg => rfl); (case hr => first | (go_simp; done) | (go_simp; rfl)); (case hp => exact (Reps.one (show Kd.M (Kd.int .i64) _ _ _ t204 [.int .i64 t204] from rfl) (Reps.one (show Kd.M (Kd.int .i64) _ _ _ t204 [.int .i64 t204] from rfl) (Reps.none _ _))))
                  intro v211 w15 ho16 hb hg_ hnew_
                  clear hg_ hnew_
                  (first | rw [← Ny210.out] at ho16 | (simp only [Int.reduceToNat] at ho16; rw [← Ny210.out] at ho16))
                  have n0_ := Aside0.mk (Kd.R_below (by (with_reducible repeat (first | apply Kd.R_alloc | apply Kd.R_drewN | apply Kd.R_drew)); exact HO_6.out) hb)
                  have n1_ := Aside0.mk (Kd.R_below (by (with_reducible repeat (first | apply Kd.R_alloc | apply Kd.R_drewN | apply Kd.R_drew)); exact HO209.out) hb)
                  have n2_ := Aside0.mk (Kd.R_lower ho16 (below_size (by repeat (first | (with_reducible first | exact HB.out | apply below_alloc | apply pw_below_drewN | apply below_drew1 | refine below_set ?_ GE203.out) | exact HB.out))))
                  have n3_ := Aside0.mk (blk_below (g := gb203) (o := .cells #[.bool a1_0, .bool a1_1] 36 (0, 0)) (by (with_reducible repeat (first | refine blk_drewN ?_ _ | refine blk_drew ?_ | refine blk_alloc ?_ _)); exact BK203.out) hb)
                  have n4_ := Aside0.mk (below_step (by repeat (first | (with_reducible first | exact HB.out | apply below_alloc | apply pw_below_drewN | apply below_drew1 | refine below_set ?_ GE203.out) | exact HB.out)) hb)
                  clear HO_6
                  clear HO209
                  clear BK203
                  clear HB
                  have HO_6 := n0_
                  have HO209 := n1_
                  have HO212 := n2_
                  have BK203 := n3_
                  have HB := n4_
                  clear n0_ n1_ n2_ n3_ n4_
                  clear hb ho16
                  refine hK.out _ _ ⟨(blk_cell BK203.out 0).trans rfl, (blk_cell BK203.out 1).trans rfl, ((HB.out.cell (World.block_lt_of_cell? w _ hw205_0)).trans hw205_0), ((HB.out.cell (World.block_lt_of_cell? w _ hw205_1)).trans hw205_1), ((HB.out.cell (World.block_lt_of_cell? w _ hw206_0)).trans hw206_0), ((HB.out.cell (World.block_lt_of_cell? w _ hw206_1)).trans hw206_1)⟩ (fun hHeld => ?_)
                  clear hK K
                  refine norm_ (a' := ?_) ?_ ?_
                  rotate_left
                  · show Act.put _ (some 33) _ = _
                    simp only [Act.put, List.setIfInBounds_toArray, List.set_cons_zero, List.set_cons_succ, i64_w, i32_w]
                    rfl
                  exact norm_ (by simp only [putAll, Act.put, List.setIfInBounds_toArray, List.set_cons_zero, List.set_cons_succ]) (hCont (v208, v211) _ ⟨hHeld, (by (with_reducible repeat (first | apply Kd.R_alloc | apply Kd.R_drewN | apply Kd.R_drew)); exact HO209.out), (by (with_reducible repeat (first | apply Kd.R_alloc | apply Kd.R_drewN | apply Kd.R_drew)); exact HO212.out), (by (with_reducible repeat (first | apply Kd.R_alloc | apply Kd.R_drewN | apply Kd.R_drew)); exact HO_6.out), (by (with_reducible repeat (first | refine blk_drewN ?_ _ | refine blk_drew ?_ | refine blk_alloc ?_ _)); exact BK203.out), (by repeat (first | (with_reducible first | exact HB.out | apply below_alloc | apply pw_below_drewN | apply below_drew1 | refine below_set ?_ GE203.out) | exact HB.out))⟩)
                · skip
                  refine Kd.R_lit_step (Kd.int .i64) _ 3 ?hg (N := 33) ?hd (xs := ([t204, t204] : List Int)) (inner := [.int .i64 t204, .int .i64 t204]) (ok := fun _ => True) (okp := fun _ => True) ?hr ?hp (fun _ hk => hk) trivial (Below.refl _ _) (Nat.le_refl _) (by simp) ?_; (case hd => rfl); (case hg => rfl); (case hr => first | (go_simp; done) | (go_simp; rfl)); (case hp => exact (Reps.one (show Kd.M (Kd.int .i64) _ _ _ t204 [.int .i64 t204] from rfl) (Reps.one (show Kd.M (Kd.int .i64) _ _ _ t204 [.int .i64 t204] from rfl) (Reps.none _ _))))
                  intro v211 w13 ho14 hb hg_ hnew_
                  clear hg_ hnew_
                  (first | rw [← Ny210.out] at ho14 | (simp only [Int.reduceToNat] at ho14; rw [← Ny210.out] at ho14))
                  have n0_ := Aside0.mk (Kd.R_below (by (with_reducible repeat (first | apply Kd.R_alloc | apply Kd.R_drewN | apply Kd.R_drew)); exact HO_6.out) hb)
                  have n1_ := Aside0.mk (Kd.R_lower ho14 (below_size (by repeat (first | (with_reducible first | exact HB.out | apply below_alloc | apply pw_below_drewN | apply below_drew1 | refine below_set ?_ GE203.out) | exact HB.out))))
                  have n2_ := Aside0.mk (blk_below (g := gb203) (o := .cells #[.bool a1_0, .bool a1_1] 36 (0, 0)) (by (with_reducible repeat (first | refine blk_drewN ?_ _ | refine blk_drew ?_ | refine blk_alloc ?_ _)); exact BK203.out) hb)
                  have n3_ := Aside0.mk (below_step (by repeat (first | (with_reducible first | exact HB.out | apply below_alloc | apply pw_below_drewN | apply below_drew1 | refine below_set ?_ GE203.out) | exact HB.out)) hb)
                  clear HO_6
                  clear BK203
                  clear HB
                  have HO_6 := n0_
                  have HO212 := n1_
                  have BK203 := n2_
                  have HB := n3_
                  clear n0_ n1_ n2_ n3_
                  clear hb ho14
                  refine hK.out _ _ ⟨(blk_cell BK203.out 0).trans rfl, (blk_cell BK203.out 1).trans rfl, ((HB.out.cell (World.block_lt_of_cell? w _ hw205_0)).trans hw205_0), ((HB.out.cell (World.block_lt_of_cell? w _ hw205_1)).trans hw205_1), ((HB.out.cell (World.block_lt_of_cell? w _ hw206_0)).trans hw206_0), ((HB.out.cell (World.block_lt_of_cell? w _ hw206_1)).trans hw206_1)⟩ (fun hHeld => ?_)
                  clear hK K
                  refine norm_ (a' := ?_) ?_ ?_
                  rotate_left
                  · show Act.put _ (some 33) _ = _
                    simp only [Act.put, List.setIfInBounds_toArray, List.set_cons_zero, List.set_cons_succ, i64_w, i32_w]
                    rfl
                  refine one_ (i := 10) (N := some 30) #[true, true, true, true, true, true, true, true, true, true, true, true, true, true, true, true, false, false, false, false, false, false] rfl rfl (one_of HT_.out (by kernel_rfl)) (by decide) (fun K hK => ?_)
                  refine Kd.R_lit_step (Kd.int .u64) _ 23 ?hg (N := 30) ?hd (xs := ([(rd_T73 l0 x8_1).f0, (rd_T73 l0 x8_1).f1] : List Int)) (inner := [.int .u64 ((rd_T73 l0 x8_1).f0), .int .u64 ((rd_T73 l0 x8_1).f1)]) (ok := fun _ => True) (okp := fun _ => True) ?hr ?hp (fun _ hk => hk) trivial (Below.refl _ _) (Nat.le_refl _) (by simp) ?_; (case hd => rfl); (case hg => rfl); (case hr => first | (go_simp; done) | (go_simp; rfl)); (case hp => exact (Reps.one (show Kd.M (Kd.int .u64) _ _ _ ((rd_T73 l0 x8_1).f0) [.int .u64 ((rd_T73 l0 x8_1).f0)] from rfl) (Reps.one (show Kd.M (Kd.int .u64) _ _ _ ((rd_T73 l0 x8_1).f1) [.int .u64 ((rd_T73 l0 x8_1).f1)] from rfl) (Reps.none _ _))))
                  intro v208 w15 ho16 hb hg_ hnew_
                  clear hg_ hnew_
                  (first | rw [← Ny207.out] at ho16 | (simp only [Int.reduceToNat] at ho16; rw [← Ny207.out] at ho16))
                  have n0_ := Aside0.mk (Kd.R_below (by (with_reducible repeat (first | apply Kd.R_alloc | apply Kd.R_drewN | apply Kd.R_drew)); exact HO_6.out) hb)
                  have n1_ := Aside0.mk (Kd.R_below (by (with_reducible repeat (first | apply Kd.R_alloc | apply Kd.R_drewN | apply Kd.R_drew)); exact HO212.out) hb)
                  have n2_ := Aside0.mk (Kd.R_lower ho16 (below_size (by repeat (first | (with_reducible first | exact HB.out | apply below_alloc | apply pw_below_drewN | apply below_drew1 | refine below_set ?_ GE203.out) | exact HB.out))))
                  have n3_ := Aside0.mk (blk_below (g := gb203) (o := .cells #[.bool a1_0, .bool a1_1] 36 (0, 0)) (by (with_reducible repeat (first | refine blk_drewN ?_ _ | refine blk_drew ?_ | refine blk_alloc ?_ _)); exact BK203.out) hb)
                  have n4_ := Aside0.mk (below_step (by repeat (first | (with_reducible first | exact HB.out | apply below_alloc | apply pw_below_drewN | apply below_drew1 | refine below_set ?_ GE203.out) | exact HB.out)) hb)
                  clear HO_6
                  clear HO212
                  clear BK203
                  clear HB
                  have HO_6 := n0_
                  have HO212 := n1_
                  have HO209 := n2_
                  have BK203 := n3_
                  have HB := n4_
                  clear n0_ n1_ n2_ n3_ n4_
                  clear hb ho16
                  refine hK.out _ _ ⟨(blk_cell BK203.out 0).trans rfl, (blk_cell BK203.out 1).trans rfl, ((HB.out.cell (World.block_lt_of_cell? w _ hw205_0)).trans hw205_0), ((HB.out.cell (World.block_lt_of_cell? w _ hw205_1)).trans hw205_1), ((HB.out.cell (World.block_lt_of_cell? w _ hw206_0)).trans hw206_0), ((HB.out.cell (World.block_lt_of_cell? w _ hw206_1)).trans hw206_1)⟩ (fun hHeld => ?_)
                  clear hK K
                  refine norm_ (a' := ?_) ?_ ?_
                  rotate_left
                  · show Act.put _ (some 30) _ = _
                    simp only [Act.put, List.setIfInBounds_toArray, List.set_cons_zero, List.set_cons_succ, i64_w, i32_w]
                    rfl
                  exact norm_ (by simp only [putAll, Act.put, List.setIfInBounds_toArray, List.set_cons_zero, List.set_cons_succ]) (hCont (v208, v211) _ ⟨hHeld, (by (with_reducible repeat (first | apply Kd.R_alloc | apply Kd.R_drewN | apply Kd.R_drew)); exact HO209.out), (by (with_reducible repeat (first | apply Kd.R_alloc | apply Kd.R_drewN | apply Kd.R_drew)); exact HO212.out), (by (with_reducible repeat (first | apply Kd.R_alloc | apply Kd.R_drewN | apply Kd.R_drew)); exact HO_6.out), (by (with_reducible repeat (first | refine blk_drewN ?_ _ | refine blk_drew ?_ | refine blk_alloc ?_ _)); exact BK203.out), (by repeat (first | (with_reducible first | exact HB.out | apply below_alloc | apply pw_below_drewN | apply below_drew1 | refine below_set ?_ GE203.out) | exact HB.out))⟩)
              rintro ⟨v208, v211⟩ w17 ⟨hS_, h0_, h1_, h2_, h3_, h4_⟩
              have n0_ : Aside0 (Kd.R (Kd.int .u64) 23 w17 w.heap.size (fun _ => True) v208 y207) := ⟨h0_⟩
              have n1_ : Aside0 (Kd.R (Kd.int .i64) 3 w17 w.heap.size (fun _ => True) v211 y210) := ⟨h1_⟩
              have n2_ : Aside0 (Kd.R (Kd.int .u8) 5 w17 w.heap.size (fun _ => True) u6 x6_1) := ⟨h2_⟩
              have n3_ : Aside0 (w17.heap[gb203]? = some (.cells #[.bool a1_0, .bool a1_1] 36 (0, 0))) := ⟨h3_⟩
              have n4_ : Aside0 (Below w.heap.size w w17) := ⟨h4_⟩
              clear HO_6
              clear BK203
              clear HB
              clear h0_ h1_ h2_ h3_ h4_
              have HO209 := n0_
              have HO212 := n1_
              have HO_6 := n2_
              have BK203 := n3_
              have HB := n4_
              clear n0_ n1_ n2_ n3_ n4_
              have hHeld : w17.cell? ⟨gb203, 0, none⟩ = some (.bool a1_0) ∧ w17.cell? ⟨gb203, 1, none⟩ = some (.bool a1_1) ∧ w17.cell? (ad205.add ((x8_1).toNat * 2)) = some (.int .u64 ((rd_T73 l0 x8_1).f0)) ∧ w17.cell? ⟨(ad205.add ((x8_1).toNat * 2)).block, (ad205.add ((x8_1).toNat * 2)).off + 1, none⟩ = some (.int .u64 ((rd_T73 l0 x8_1).f1)) ∧ w17.cell? (ad205.add ((x8_1).toNat * 2)) = some (.int .u64 ((rd_T73 l0 x8_1).f0)) ∧ w17.cell? ⟨(ad205.add ((x8_1).toNat * 2)).block, (ad205.add ((x8_1).toNat * 2)).off + 1, none⟩ = some (.int .u64 ((rd_T73 l0 x8_1).f1)) := hS_
              obtain ⟨Ao18, co18, eo18⟩ := Kd.R_slice HO209.out
              (first | subst eo18 | (injection eo18 with f1_ f2_ f3_; have f4_ := f1_.symm; have f5_ := f3_.symm; clear f1_ f2_ f3_; subst f4_; subst f5_))
              obtain ⟨Ao19, co19, eo19⟩ := Kd.R_slice HO212.out
              (first | subst eo19 | (injection eo19 with f1_ f2_ f3_; have f4_ := f1_.symm; have f5_ := f3_.symm; clear f1_ f2_ f3_; subst f4_; subst f5_))
              refine norm_ (a' := ?_) ?_ ?_
              rotate_left
              · simp only [putAll, Act.put, List.setIfInBounds_toArray, List.set_cons_zero, List.set_cons_succ]
                rfl
              refine one_ (i := 16) (N := some 36) #[true, true, true, true, true, true, true, true, true, true, true, true, true, true, true, true, true, false, false, false, false, false] rfl rfl (one_of HT_.out (by kernel_rfl)) (by decide) (fun K hK => ?_)
              refine goes_ Try.func67 (by kernel_rfl) rfl #[.slice Ao18 y207.length co18, .slice Ao19 y210.length co19, .bool a1_1] (by rfl) rfl rfl (by (try simp only [List.map_toArray, List.map_cons, List.map_nil]); first | done | rfl | (simp only [List.length_drop, List.length_take]; rfl)) ?_
              with_reducible refine (bezantref04_Row.calls k1 _ _ y207 _ _ y210 a1_1 t213 true _ ?side1 ?side2 ?side3 ?side4 A9.out).mono ?_
              (case side1 => repeat (first | exact (Kd.R_reads' HO209.out).2.2 | (with_reducible refine Kd.C_alloc ?_ _) | (with_reducible refine Kd.C_drewN ?_ _) | (with_reducible refine Kd.C_drew ?_)))
              (case side2 => exact (Kd.R_reads' HO209.out).2.1)
              (case side3 => repeat (first | exact (Kd.R_reads' HO212.out).2.2 | (with_reducible refine Kd.C_alloc ?_ _) | (with_reducible refine Kd.C_drewN ?_ _) | (with_reducible refine Kd.C_drew ?_)))
              (case side4 => exact (Kd.R_reads' HO212.out).2.1)
              rintro e w20 ⟨v215, rfl, ho0, hb⟩
              refine ⟨_, rfl, ?_⟩
              have n0_ := Aside0.mk (Kd.R_elder' (by (with_reducible repeat (first | apply Kd.R_alloc | apply Kd.R_drewN | apply Kd.R_drew)); exact HO_6.out) (Kd.R_base ho0) hb)
              have n1_ := Aside0.mk (Kd.R_below (by (with_reducible repeat (first | apply Kd.R_alloc | apply Kd.R_drewN | apply Kd.R_drew)); exact HO209.out) hb)
              have n2_ := Aside0.mk (Kd.R_below (by (with_reducible repeat (first | apply Kd.R_alloc | apply Kd.R_drewN | apply Kd.R_drew)); exact HO212.out) hb)
              have n3_ := Aside0.mk (Kd.R_lower (Kd.R_new' ho0 (Kd.R_lt (by (with_reducible repeat (first | apply Kd.R_alloc | apply Kd.R_drewN | apply Kd.R_drew)); exact HO_6.out))) (below_size (by repeat (first | (with_reducible first | exact HB.out | apply below_alloc | apply pw_below_drewN | apply below_drew1 | refine below_set ?_ GE203.out) | exact HB.out))))
              have n4_ := Aside0.mk (blk_below (g := gb203) (o := .cells #[.bool a1_0, .bool a1_1] 36 (0, 0)) (by (with_reducible repeat (first | refine blk_drewN ?_ _ | refine blk_drew ?_ | refine blk_alloc ?_ _)); exact BK203.out) hb)
              have n5_ := Aside0.mk (below_step (by repeat (first | (with_reducible first | exact HB.out | apply below_alloc | apply pw_below_drewN | apply below_drew1 | refine below_set ?_ GE203.out) | exact HB.out)) hb)
              clear HO_6
              clear HO209
              clear HO212
              clear BK203
              clear HB
              have HO_6 := n0_
              have HO209 := n1_
              have HO212 := n2_
              have HO216 := n3_
              have BK203 := n4_
              have HB := n5_
              clear n0_ n1_ n2_ n3_ n4_ n5_
              (try clear hb)
              (try clear hb2)
              (try clear hk)
              (try clear hi)
              (try clear ho0)
              refine hK.out _ _ ⟨(blk_cell BK203.out 0).trans rfl, (blk_cell BK203.out 1).trans rfl, ((HB.out.cell (World.block_lt_of_cell? w _ hw205_0)).trans hw205_0), ((HB.out.cell (World.block_lt_of_cell? w _ hw205_1)).trans hw205_1), ((HB.out.cell (World.block_lt_of_cell? w _ hw206_0)).trans hw206_0), ((HB.out.cell (World.block_lt_of_cell? w _ hw206_1)).trans hw206_1)⟩ (fun hHeld => ?_)
              clear hK K
              refine norm_ (a' := ?_) ?_ ?_
              rotate_left
              · show Act.put _ (some 36) _ = _
                simp only [Act.put, List.setIfInBounds_toArray, List.set_cons_zero, List.set_cons_succ, i64_w, i32_w]
                rfl
              refine pure_ (i := 17) (N := some 19) (v := ?_) (a' := ?_) #[true, true, true, true, true, true, true, true, true, true, true, true, true, true, true, true, true, true, false, false, false, false] rfl rfl (any_of HT_.out (by kernel_rfl)) (fun _ _ _ h => h) (Or.inl ⟨by rfl, ?_⟩) ?_ ?_
              rotate_left
              · intro w'
                go_simp
                with_reducible rfl
              rotate_left
              · simp only [Act.put, List.setIfInBounds_toArray, List.set_cons_zero, List.set_cons_succ, i64_w, i32_w]
                rfl
              refine pure_ (i := 18) (N := some 37) (v := ?_) (a' := ?_) #[true, true, true, true, true, true, true, true, true, true, true, true, true, true, true, true, true, true, true, false, false, false] rfl rfl (any_of HT_.out (by kernel_rfl)) (fun _ _ _ h => h) (Or.inl ⟨by rfl, ?_⟩) ?_ ?_
              rotate_left
              · intro w'
                go_simp
                with_reducible rfl
              rotate_left
              · simp only [Act.put, List.setIfInBounds_toArray, List.set_cons_zero, List.set_cons_succ, i64_w, i32_w]
                rfl
              refine pure_ (i := 19) (N := some 38) (v := ?_) (a' := ?_) #[true, true, true, true, true, true, true, true, true, true, true, true, true, true, true, true, true, true, true, true, false, false] rfl rfl (any_of HT_.out (by kernel_rfl)) (fun _ _ _ h => h) (Or.inl ⟨by rfl, ?_⟩) ?_ ?_
              rotate_left
              · intro w'
                go_simp
                with_reducible rfl
              rotate_left
              · simp only [Act.put, List.setIfInBounds_toArray, List.set_cons_zero, List.set_cons_succ, i64_w, i32_w]
                rfl
              refine pure_ (i := 20) (N := some 9) (v := ?_) (a' := ?_) #[true, true, true, true, true, true, true, true, true, true, true, true, true, true, true, true, true, true, true, true, true, false] rfl rfl (any_of HT_.out (by kernel_rfl)) (fun _ _ _ h => h) (Or.inl ⟨by rfl, ?_⟩) ?_ ?_
              rotate_left
              · intro w'
                go_simp
                with_reducible rfl
              rotate_left
              · simp only [Act.put, List.setIfInBounds_toArray, List.set_cons_zero, List.set_cons_succ, i64_w, i32_w]
                rfl
              refine pure_ (i := 21) (N := some 10) (v := ?_) (a' := ?_) #[true, true, true, true, true, true, true, true, true, true, true, true, true, true, true, true, true, true, true, true, true, true] rfl rfl (any_of HT_.out (by kernel_rfl)) (fun _ _ _ h => h) (Or.inl ⟨by rfl, ?_⟩) ?_ ?_
              rotate_left
              · intro w'
                go_simp
                with_reducible rfl
              rotate_left
              · simp only [Act.put, List.setIfInBounds_toArray, List.set_cons_zero, List.set_cons_succ, i64_w, i32_w]
                rfl
              refine done_ (done_of HT_.out (by kernel_rfl)) ?_
              obtain ⟨Ao22, co22, eo22⟩ := Kd.R_slice HO216.out
              subst eo22
              try go_wp2_with (first | ((with_reducible refine gate_builtin (b := .append) (xs := #[.tmp 41, .tmp 42]) rfl ?_); at_builtin; refine Kd.R_append_rows (Kd.int .u8) (w0 := w) w.heap.size rfl (.tmp 41) (.tmp 42) 39 5 (.int .u8 0) 1 rfl Try.underlying39 info5 rfl (by decide) (by omega) u6 x6_1 t213 _ _ _ (fun k_ => some k_ ≠ (.slice Ao22 t213.length co22 : Value).ownBlock) (fun _ => False) rfl rfl ?aO ?aR (fun _ _ h => h) (fun _ h => h.elim) ?aF ?aB ?aS ?aL ?_; (case aR => repeat (first | exact (Kd.R_reads' HO216.out).2.2 | (with_reducible refine Kd.C_alloc ?_ _) | (with_reducible refine Kd.C_drewN ?_ _) | (with_reducible refine Kd.C_drew ?_))); (case aB => exact (by repeat (first | (with_reducible first | exact HB.out | apply below_alloc | apply pw_below_drewN | apply below_drew1 | refine below_set ?_ GE203.out) | exact HB.out))); (case aF => exact (fun k_ hk => Kd.fresh' (Kd.R_lt (by (with_reducible repeat (first | apply Kd.R_alloc | apply Kd.R_drewN | apply Kd.R_drew)); exact HO216.out)) k_ hk)); (case aO => exact (by (with_reducible repeat (first | apply Kd.R_alloc | apply Kd.R_drewN | apply Kd.R_drew)); exact Kd.R_mono HO_6.out (fun _ hk => hk.2))); (case aS => exact (below_size (by repeat (first | (with_reducible first | exact HB.out | apply below_alloc | apply pw_below_drewN | apply below_drew1 | refine below_set ?_ GE203.out) | exact HB.out)))); (case aL => have := LMc11.out; omega); intro v218 w21 ho hb hg hat; rw [← Ny217.out] at ho; have n0_ := Aside0.mk (blk_grown (g := gb203) (o := .cells #[.bool a1_0, .bool a1_1] 36 (0, 0)) (by (with_reducible repeat (first | refine blk_drewN ?_ _ | refine blk_drew ?_ | refine blk_alloc ?_ _)); exact BK203.out) hg (Kd.R_ne HO_6.out BK203.out (by decide))); have n1_ := Aside0.mk (Kd.R_over' (by (with_reducible repeat (first | apply Kd.R_alloc | apply Kd.R_drewN | apply Kd.R_drew)); exact HO209.out) (Kd.R_typed (by (with_reducible repeat (first | apply Kd.R_alloc | apply Kd.R_drewN | apply Kd.R_drew)); exact HO_6.out)) (by decide) hg); have n2_ := Aside0.mk (Kd.R_over' (by (with_reducible repeat (first | apply Kd.R_alloc | apply Kd.R_drewN | apply Kd.R_drew)); exact HO212.out) (Kd.R_typed (by (with_reducible repeat (first | apply Kd.R_alloc | apply Kd.R_drewN | apply Kd.R_drew)); exact HO_6.out)) (by decide) hg); have n3_ := Aside0.mk (Kd.R_after (ok := (fun _ => True)) (by (with_reducible repeat (first | apply Kd.R_alloc | apply Kd.R_drewN | apply Kd.R_drew)); exact HO216.out) hg hat); have n4_ := Aside0.mk (hb); have n5_ := Aside0.mk (ho); clear BK203; clear HO209; clear HO212; clear HO216; clear HB; clear HO_6; have BK203 := n0_; have HO209 := n1_; have HO212 := n2_; have HO216 := n3_; have HB := n4_; have HO219 := n5_; clear n0_ n1_ n2_ n3_ n4_ n5_; clear ho hb hg hat))
              go_roundg k1
              case measure => have := HK1.out; omega
              case rel => exact ⟨(y217), (wrap64 (x8_1 + 1)), (by first | rfl | (simp; done) | (simp [*]; done)), H', ⟨by have := HK1.out; omega⟩, ⟨by (with_reducible repeat (first | apply Kd.R_alloc | apply Kd.R_drewN | apply Kd.R_drew)); exact Kd.R_mono HO219.out (fun _ hk => trivial)⟩, ⟨by (with_reducible repeat (first | refine blk_drewN ?_ _ | refine blk_drew ?_ | refine blk_alloc ?_ _)); exact BK203.out⟩, ⟨by repeat (first | (with_reducible first | exact HB.out | apply below_alloc | apply pw_below_drewN | apply below_drew1 | refine below_set ?_ GE203.out) | exact HB.out)⟩⟩
            · rw [if_neg c11] at H
              exact absurd H (by simp)
          · replace c10 := Bool.eq_false_iff.mpr c10
            subst c10
            have H1 : (some (([] : List Int), false)) = some (r1, r2) := by rw [if_neg (show ¬ (false = true) by decide)] at H; exact H
            clear H
            have H := H1
            clear H1
            simp only [Option.some.injEq, Prod.mk.injEq] at H
            obtain ⟨rfl, rfl⟩ := H
            try go_wp2
            have n0_ := Aside0.mk (Kd.R_drew HO_6.out)
            have n1_ := Aside0.mk (blk_drew BK203.out)
            have n2_ := Aside0.mk (below_drew1 HB.out)
            clear HO_6
            clear BK203
            clear HB
            have HO_6 := n0_
            have BK203 := n1_
            have HB := n2_
            clear n0_ n1_ n2_
            have p205 : 0 ≤ (x8_1 : Int) := of_decide_eq_true (by first | (with_reducible assumption) | assumption)
            have q205 : x8_1 < (l0.length : Int) := of_decide_eq_true (by first | (with_reducible assumption) | assumption)
            obtain ⟨ad205, e205, hx205_0, hx205_1⟩ := at_T73 HR0.out x8_1 p205 q205
            have hw205_1 := hx205_1
            have hw205_0 := hx205_0
            cases e205
            replace hx205_0 := (HB.out.cell (World.block_lt_of_cell? w _ hx205_0)).trans hx205_0
            replace hx205_1 := (HB.out.cell (World.block_lt_of_cell? w _ hx205_1)).trans hx205_1
            replace p205 := eq_true p205
            replace q205 := eq_true q205
            have p206 : 0 ≤ (x8_1 : Int) := of_decide_eq_true (by first | (with_reducible assumption) | assumption)
            have q206 : x8_1 < (l0.length : Int) := of_decide_eq_true (by first | (with_reducible assumption) | assumption)
            obtain ⟨ad206, e206, hx206_0, hx206_1⟩ := at_T73 HR0.out x8_1 p206 q206
            have hw206_1 := hx206_1
            have hw206_0 := hx206_0
            obtain rfl : ad205 = ad206 := (by injection e206)
            replace hx206_0 := (HB.out.cell (World.block_lt_of_cell? w _ hx206_0)).trans hx206_0
            replace hx206_1 := (HB.out.cell (World.block_lt_of_cell? w _ hx206_1)).trans hx206_1
            replace p206 := eq_true p206
            replace q206 := eq_true q206
            refine start_ (n := 22) (S := fun w' => w'.cell? ⟨gb203, 0, none⟩ = some (.bool a1_0) ∧ w'.cell? ⟨gb203, 1, none⟩ = some (.bool a1_1) ∧ w'.cell? (ad205.add ((x8_1).toNat * 2)) = some (.int .u64 ((rd_T73 l0 x8_1).f0)) ∧ w'.cell? ⟨(ad205.add ((x8_1).toNat * 2)).block, (ad205.add ((x8_1).toNat * 2)).off + 1, none⟩ = some (.int .u64 ((rd_T73 l0 x8_1).f1)) ∧ w'.cell? (ad205.add ((x8_1).toNat * 2)) = some (.int .u64 ((rd_T73 l0 x8_1).f0)) ∧ w'.cell? ⟨(ad205.add ((x8_1).toNat * 2)).block, (ad205.add ((x8_1).toNat * 2)).off + 1, none⟩ = some (.int .u64 ((rd_T73 l0 x8_1).f1))) (ds := []) #[false, false, false, false, false, false, false, false, false, false, false, false, false, false, false, false, false, false, false, false, false, false] (by kernel_rfl) rfl rfl ⟨(blk_cell BK203.out 0).trans rfl, (blk_cell BK203.out 1).trans rfl, ((HB.out.cell (World.block_lt_of_cell? w _ hw205_0)).trans hw205_0), ((HB.out.cell (World.block_lt_of_cell? w _ hw205_1)).trans hw205_1), ((HB.out.cell (World.block_lt_of_cell? w _ hw206_0)).trans hw206_0), ((HB.out.cell (World.block_lt_of_cell? w _ hw206_1)).trans hw206_1)⟩ (fun hHeld => ?_); refine with_tabW bezantref04_PutDyns.tab6 bezantref04_PutDyns.bits6 (fun HT_ HW_ => ?_)
            generalize wr.drew = w23 at HO_6 BK203 HB hx205_0 hx205_1 hx206_0 hx206_1 hHeld ⊢
            refine pure_ (i := 0) (N := some 20) (v := ?_) (a' := ?_) #[true, false, false, false, false, false, false, false, false, false, false, false, false, false, false, false, false, false, false, false, false, false] rfl rfl (any_of HT_.out (by kernel_rfl)) (fun _ _ _ h => h) (Or.inl ⟨by rfl, ?_⟩) ?_ ?_
            rotate_left
            · intro w'
              go_simp
              with_reducible rfl
            rotate_left
            · simp only [Act.put, List.setIfInBounds_toArray, List.set_cons_zero, List.set_cons_succ, i64_w, i32_w]
              rfl
            refine pure_ (i := 1) (N := some 21) (v := ?_) (a' := ?_) #[true, true, false, false, false, false, false, false, false, false, false, false, false, false, false, false, false, false, false, false, false, false] rfl rfl (any_of HT_.out (by kernel_rfl)) (fun _ _ _ h => h) (Or.inl ⟨by rfl, ?_⟩) ?_ ?_
            rotate_left
            · intro w'
              go_simp
              with_reducible rfl
            rotate_left
            · simp only [Act.put, List.setIfInBounds_toArray, List.set_cons_zero, List.set_cons_succ, i64_w, i32_w]
              rfl
            refine pure_ (i := 2) (N := some 22) (v := ?_) (a' := ?_) #[true, true, true, false, false, false, false, false, false, false, false, false, false, false, false, false, false, false, false, false, false, false] rfl rfl (any_of HT_.out (by kernel_rfl)) (fun _ _ _ h => h) (Or.inl ⟨by rfl, ?_⟩) ?_ ?_
            rotate_left
            · intro w'
              go_simp
              with_reducible rfl
            rotate_left
            · simp only [Act.put, List.setIfInBounds_toArray, List.set_cons_zero, List.set_cons_succ, i64_w, i32_w]
              rfl
            refine pure_ (i := 3) (N := some 23) (v := ?_) (a' := ?_) #[true, true, true, true, false, false, false, false, false, false, false, false, false, false, false, false, false, false, false, false, false, false] rfl rfl (any_of HT_.out (by kernel_rfl)) (fun _ _ _ h => h) (Or.inl ⟨by rfl, ?_⟩) ?_ ?_
            rotate_left
            · intro w'
              go_simp
              with_reducible rfl
            rotate_left
            · simp only [Act.put, List.setIfInBounds_toArray, List.set_cons_zero, List.set_cons_succ, i64_w, i32_w]
              rfl
            refine pure_ (i := 5) (N := some 25) (v := ?_) (a' := ?_) #[true, true, true, true, false, true, false, false, false, false, false, false, false, false, false, false, false, false, false, false, false, false] rfl rfl (any_of HT_.out (by kernel_rfl)) (fun _ _ _ h => h) (Or.inl ⟨by rfl, ?_⟩) ?_ ?_
            rotate_left
            · intro w'
              go_simp
              with_reducible rfl
            rotate_left
            · simp only [Act.put, List.setIfInBounds_toArray, List.set_cons_zero, List.set_cons_succ, i64_w, i32_w]
              rfl
            refine pure_ (i := 6) (N := some 26) (v := ?_) (a' := ?_) #[true, true, true, true, false, true, true, false, false, false, false, false, false, false, false, false, false, false, false, false, false, false] rfl rfl (any_of HT_.out (by kernel_rfl)) (fun _ _ _ h => h) (Or.inl ⟨by rfl, ?_⟩) ?_ ?_
            rotate_left
            · intro w'
              go_simp
              with_reducible rfl
            rotate_left
            · simp only [Act.put, List.setIfInBounds_toArray, List.set_cons_zero, List.set_cons_succ, i64_w, i32_w]
              rfl
            refine pure_ (i := 7) (N := some 27) (v := ?_) (a' := ?_) #[true, true, true, true, false, true, true, true, false, false, false, false, false, false, false, false, false, false, false, false, false, false] rfl rfl (any_of HT_.out (by kernel_rfl)) (fun _ _ _ h => h) (Or.inl ⟨by rfl, ?_⟩) ?_ ?_
            rotate_left
            · intro w'
              go_simp
              with_reducible rfl
            rotate_left
            · simp only [Act.put, List.setIfInBounds_toArray, List.set_cons_zero, List.set_cons_succ, i64_w, i32_w]
              rfl
            refine pure_ (i := 8) (N := some 28) (v := ?_) (a' := ?_) #[true, true, true, true, false, true, true, true, true, false, false, false, false, false, false, false, false, false, false, false, false, false] rfl rfl (any_of HT_.out (by kernel_rfl)) (fun _ _ _ h => h) (Or.inl ⟨by rfl, ?_⟩) ?_ ?_
            rotate_left
            · intro w'
              go_simp
              with_reducible rfl
            rotate_left
            · simp only [Act.put, List.setIfInBounds_toArray, List.set_cons_zero, List.set_cons_succ, i64_w, i32_w]
              rfl
            refine pure_ (i := 11) (N := some 31) (v := ?_) (a' := ?_) #[true, true, true, true, false, true, true, true, true, false, false, true, false, false, false, false, false, false, false, false, false, false] rfl rfl (any_of HT_.out (by kernel_rfl)) (fun _ _ _ h => h) (Or.inl ⟨by rfl, ?_⟩) ?_ ?_
            rotate_left
            · intro w'
              go_simp
              with_reducible rfl
            rotate_left
            · simp only [Act.put, List.setIfInBounds_toArray, List.set_cons_zero, List.set_cons_succ, i64_w, i32_w]
              rfl
            refine pure_ (i := 12) (N := some 32) (v := ?_) (a' := ?_) #[true, true, true, true, false, true, true, true, true, false, false, true, true, false, false, false, false, false, false, false, false, false] rfl rfl (any_of HT_.out (by kernel_rfl)) (fun _ _ _ h => h) (Or.inl ⟨by rfl, ?_⟩) ?_ ?_
            rotate_left
            · intro w'
              go_simp
              with_reducible rfl
            rotate_left
            · simp only [Act.put, List.setIfInBounds_toArray, List.set_cons_zero, List.set_cons_succ, i64_w, i32_w]
              rfl
            refine pure_ (i := 14) (N := some 34) (v := ?_) (a' := ?_) #[true, true, true, true, false, true, true, true, true, false, false, true, true, false, true, false, false, false, false, false, false, false] rfl rfl (any_of HT_.out (by kernel_rfl)) (fun _ _ _ h => h) (Or.inl ⟨by rfl, ?_⟩) ?_ ?_
            rotate_left
            · intro w'
              go_simp
              with_reducible rfl
            rotate_left
            · simp only [Act.put, List.setIfInBounds_toArray, List.set_cons_zero, List.set_cons_succ, i64_w, i32_w]
              rfl
            refine take_ (i := 4) (N := some 24) (v := ?_) (a' := ?_) #[true, true, true, true, true, true, true, true, true, false, false, true, true, false, true, false, false, false, false, false, false, false] rfl rfl (take_ofW HT_.out HW_.out (by kernel_rfl)) (fun _ _ _ h => h) (Or.inl ⟨by rfl, ?_⟩) hHeld ?_ ?_
            rotate_left
            · rintro w' ⟨s0, s1, s2, s3, s4, s5⟩
              go_simp
              with_reducible rfl
            rotate_left
            · simp only [Act.put, List.setIfInBounds_toArray, List.set_cons_zero, List.set_cons_succ, i64_w, i32_w]
              rfl
            refine take_ (i := 9) (N := some 29) (v := ?_) (a' := ?_) #[true, true, true, true, true, true, true, true, true, true, false, true, true, false, true, false, false, false, false, false, false, false] rfl rfl (take_ofW HT_.out HW_.out (by kernel_rfl)) (fun _ _ _ h => h) (Or.inl ⟨by rfl, ?_⟩) hHeld ?_ ?_
            rotate_left
            · rintro w' ⟨s0, s1, s2, s3, s4, s5⟩
              go_simp
              with_reducible rfl
            rotate_left
            · simp only [Act.put, List.setIfInBounds_toArray, List.set_cons_zero, List.set_cons_succ, i64_w, i32_w]
              rfl
            refine take_ (i := 15) (N := some 35) (v := ?_) (a' := ?_) #[true, true, true, true, true, true, true, true, true, true, false, true, true, false, true, true, false, false, false, false, false, false] rfl rfl (take_ofW HT_.out HW_.out (by kernel_rfl)) (fun _ _ _ h => h) (Or.inl ⟨by rfl, ?_⟩) hHeld ?_ ?_
            rotate_left
            · rintro w' ⟨s0, s1, s2, s3, s4, s5⟩
              go_simp
              with_reducible rfl
            rotate_left
            · simp only [Act.put, List.setIfInBounds_toArray, List.set_cons_zero, List.set_cons_succ, i64_w, i32_w]
              rfl
            refine join_ (σ := Value × Value) 6 #[true, true, true, true, true, true, true, true, true, true, true, true, true, true, true, true, false, false, false, false, false, false] (fun s_ => [(30, s_.1), (33, s_.2)]) (fun s_ w' => (w'.cell? ⟨gb203, 0, none⟩ = some (.bool a1_0) ∧ w'.cell? ⟨gb203, 1, none⟩ = some (.bool a1_1) ∧ w'.cell? (ad205.add ((x8_1).toNat * 2)) = some (.int .u64 ((rd_T73 l0 x8_1).f0)) ∧ w'.cell? ⟨(ad205.add ((x8_1).toNat * 2)).block, (ad205.add ((x8_1).toNat * 2)).off + 1, none⟩ = some (.int .u64 ((rd_T73 l0 x8_1).f1)) ∧ w'.cell? (ad205.add ((x8_1).toNat * 2)) = some (.int .u64 ((rd_T73 l0 x8_1).f0)) ∧ w'.cell? ⟨(ad205.add ((x8_1).toNat * 2)).block, (ad205.add ((x8_1).toNat * 2)).off + 1, none⟩ = some (.int .u64 ((rd_T73 l0 x8_1).f1))) ∧ (Kd.R (Kd.int .u64) 23 w' w.heap.size (fun _ => True) s_.1 y207) ∧ (Kd.R (Kd.int .i64) 3 w' w.heap.size (fun _ => True) s_.2 y210) ∧ (Kd.R (Kd.int .u8) 5 w' w.heap.size (fun _ => True) u6 x6_1) ∧ (w'.heap[gb203]? = some (.cells #[.bool a1_0, .bool a1_1] 36 (0, 0))) ∧ (Below w.heap.size w w')) ?_ ?_
            rotate_left
            · intro hCont
              refine two_ (i := 10) (j := 13) (Ni := some 30) (Nj := some 33) #[true, true, true, true, true, true, true, true, true, true, true, true, true, false, true, true, false, false, false, false, false, false] #[true, true, true, true, true, true, true, true, true, true, false, true, true, true, true, true, false, false, false, false, false, false] rfl rfl rfl rfl (two_of HT_.out (by kernel_rfl)) (by decide) (by decide) (fun K hK => ?_) (fun K hK => ?_)
              · skip
                refine Kd.R_lit_step (Kd.int .u64) _ 23 ?hg (N := 30) ?hd (xs := ([(rd_T73 l0 x8_1).f0, (rd_T73 l0 x8_1).f1] : List Int)) (inner := [.int .u64 ((rd_T73 l0 x8_1).f0), .int .u64 ((rd_T73 l0 x8_1).f1)]) (ok := fun _ => True) (okp := fun _ => True) ?hr ?hp (fun _ hk => hk) trivial (Below.refl _ _) (Nat.le_refl _) (by simp) ?_; (case hd => rfl); (case hg => rfl); (case hr => first | (go_simp; done) | (go_simp; rfl)); (case hp => exact (Reps.one (show Kd.M (Kd.int .u64) _ _ _ ((rd_T73 l0 x8_1).f0) [.int .u64 ((rd_T73 l0 x8_1).f0)] from rfl) (Reps.one (show Kd.M (Kd.int .u64) _ _ _ ((rd_T73 l0 x8_1).f1) [.int .u64 ((rd_T73 l0 x8_1).f1)] from rfl) (Reps.none _ _))))
                intro v208 w24 ho25 hb hg_ hnew_
                clear hg_ hnew_
                (first | rw [← Ny207.out] at ho25 | (simp only [Int.reduceToNat] at ho25; rw [← Ny207.out] at ho25))
                have n0_ := Aside0.mk (Kd.R_below (by (with_reducible repeat (first | apply Kd.R_alloc | apply Kd.R_drewN | apply Kd.R_drew)); exact HO_6.out) hb)
                have n1_ := Aside0.mk (Kd.R_lower ho25 (below_size (by repeat (first | (with_reducible first | exact HB.out | apply below_alloc | apply pw_below_drewN | apply below_drew1 | refine below_set ?_ GE203.out) | exact HB.out))))
                have n2_ := Aside0.mk (blk_below (g := gb203) (o := .cells #[.bool a1_0, .bool a1_1] 36 (0, 0)) (by (with_reducible repeat (first | refine blk_drewN ?_ _ | refine blk_drew ?_ | refine blk_alloc ?_ _)); exact BK203.out) hb)
                have n3_ := Aside0.mk (below_step (by repeat (first | (with_reducible first | exact HB.out | apply below_alloc | apply pw_below_drewN | apply below_drew1 | refine below_set ?_ GE203.out) | exact HB.out)) hb)
                clear HO_6
                clear BK203
                clear HB
                have HO_6 := n0_
                have HO209 := n1_
                have BK203 := n2_
                have HB := n3_
                clear n0_ n1_ n2_ n3_
                clear hb ho25
                refine hK.out _ _ ⟨(blk_cell BK203.out 0).trans rfl, (blk_cell BK203.out 1).trans rfl, ((HB.out.cell (World.block_lt_of_cell? w _ hw205_0)).trans hw205_0), ((HB.out.cell (World.block_lt_of_cell? w _ hw205_1)).trans hw205_1), ((HB.out.cell (World.block_lt_of_cell? w _ hw206_0)).trans hw206_0), ((HB.out.cell (World.block_lt_of_cell? w _ hw206_1)).trans hw206_1)⟩ (fun hHeld => ?_)
                clear hK K
                refine norm_ (a' := ?_) ?_ ?_
                rotate_left
                · show Act.put _ (some 30) _ = _
                  simp only [Act.put, List.setIfInBounds_toArray, List.set_cons_zero, List.set_cons_succ, i64_w, i32_w]
                  rfl
                refine one_ (i := 13) (N := some 33) #[true, true, true, true, true, true, true, true, true, true, true, true, true, true, true, true, false, false, false, false, false, false] rfl rfl (one_of HT_.out (by kernel_rfl)) (by decide) (fun K hK => ?_)
                refine Kd.R_lit_step (Kd.int .i64) _ 3 ?hg (N := 33) ?hd (xs := ([t204, t204] : List Int)) (inner := [.int .i64 t204, .int .i64 t204]) (ok := fun _ => True) (okp := fun _ => True) ?hr ?hp (fun _ hk => hk) trivial (Below.refl _ _) (Nat.le_refl _) (by simp) ?_; (case hd => rfl); (case hg => rfl); (case hr => first | (go_simp; done) | (go_simp; rfl)); (case hp => exact (Reps.one (show Kd.M (Kd.int .i64) _ _ _ t204 [.int .i64 t204] from rfl) (Reps.one (show Kd.M (Kd.int .i64) _ _ _ t204 [.int .i64 t204] from rfl) (Reps.none _ _))))
                intro v211 w26 ho27 hb hg_ hnew_
                clear hg_ hnew_
                (first | rw [← Ny210.out] at ho27 | (simp only [Int.reduceToNat] at ho27; rw [← Ny210.out] at ho27))
                have n0_ := Aside0.mk (Kd.R_below (by (with_reducible repeat (first | apply Kd.R_alloc | apply Kd.R_drewN | apply Kd.R_drew)); exact HO_6.out) hb)
                have n1_ := Aside0.mk (Kd.R_below (by (with_reducible repeat (first | apply Kd.R_alloc | apply Kd.R_drewN | apply Kd.R_drew)); exact HO209.out) hb)
                have n2_ := Aside0.mk (Kd.R_lower ho27 (below_size (by repeat (first | (with_reducible first | exact HB.out | apply below_alloc | apply pw_below_drewN | apply below_drew1 | refine below_set ?_ GE203.out) | exact HB.out))))
                have n3_ := Aside0.mk (blk_below (g := gb203) (o := .cells #[.bool a1_0, .bool a1_1] 36 (0, 0)) (by (with_reducible repeat (first | refine blk_drewN ?_ _ | refine blk_drew ?_ | refine blk_alloc ?_ _)); exact BK203.out) hb)
                have n4_ := Aside0.mk (below_step (by repeat (first | (with_reducible first | exact HB.out | apply below_alloc | apply pw_below_drewN | apply below_drew1 | refine below_set ?_ GE203.out) | exact HB.out)) hb)
                clear HO_6
                clear HO209
                clear BK203
                clear HB
                have HO_6 := n0_
                have HO209 := n1_
                have HO212 := n2_
                have BK203 := n3_
                have HB := n4_
                clear n0_ n1_ n2_ n3_ n4_
                clear hb ho27
                refine hK.out _ _ ⟨(blk_cell BK203.out 0).trans rfl, (blk_cell BK203.out 1).trans rfl, ((HB.out.cell (World.block_lt_of_cell? w _ hw205_0)).trans hw205_0), ((HB.out.cell (World.block_lt_of_cell? w _ hw205_1)).trans hw205_1), ((HB.out.cell (World.block_lt_of_cell? w _ hw206_0)).trans hw206_0), ((HB.out.cell (World.block_lt_of_cell? w _ hw206_1)).trans hw206_1)⟩ (fun hHeld => ?_)
                clear hK K
                refine norm_ (a' := ?_) ?_ ?_
                rotate_left
                · show Act.put _ (some 33) _ = _
                  simp only [Act.put, List.setIfInBounds_toArray, List.set_cons_zero, List.set_cons_succ, i64_w, i32_w]
                  rfl
                exact norm_ (by simp only [putAll, Act.put, List.setIfInBounds_toArray, List.set_cons_zero, List.set_cons_succ]) (hCont (v208, v211) _ ⟨hHeld, (by (with_reducible repeat (first | apply Kd.R_alloc | apply Kd.R_drewN | apply Kd.R_drew)); exact HO209.out), (by (with_reducible repeat (first | apply Kd.R_alloc | apply Kd.R_drewN | apply Kd.R_drew)); exact HO212.out), (by (with_reducible repeat (first | apply Kd.R_alloc | apply Kd.R_drewN | apply Kd.R_drew)); exact HO_6.out), (by (with_reducible repeat (first | refine blk_drewN ?_ _ | refine blk_drew ?_ | refine blk_alloc ?_ _)); exact BK203.out), (by repeat (first | (with_reducible first | exact HB.out | apply below_alloc | apply pw_below_drewN | apply below_drew1 | refine below_set ?_ GE203.out) | exact HB.out))⟩)
              · skip
                refine Kd.R_lit_step (Kd.int .i64) _ 3 ?hg (N := 33) ?hd (xs := ([t204, t204] : List Int)) (inner := [.int .i64 t204, .int .i64 t204]) (ok := fun _ => True) (okp := fun _ => True) ?hr ?hp (fun _ hk => hk) trivial (Below.refl _ _) (Nat.le_refl _) (by simp) ?_; (case hd => rfl); (case hg => rfl); (case hr => first | (go_simp; done) | (go_simp; rfl)); (case hp => exact (Reps.one (show Kd.M (Kd.int .i64) _ _ _ t204 [.int .i64 t204] from rfl) (Reps.one (show Kd.M (Kd.int .i64) _ _ _ t204 [.int .i64 t204] from rfl) (Reps.none _ _))))
                intro v211 w24 ho25 hb hg_ hnew_
                clear hg_ hnew_
                (first | rw [← Ny210.out] at ho25 | (simp only [Int.reduceToNat] at ho25; rw [← Ny210.out] at ho25))
                have n0_ := Aside0.mk (Kd.R_below (by (with_reducible repeat (first | apply Kd.R_alloc | apply Kd.R_drewN | apply Kd.R_drew)); exact HO_6.out) hb)
                have n1_ := Aside0.mk (Kd.R_lower ho25 (below_size (by repeat (first | (with_reducible first | exact HB.out | apply below_alloc | apply pw_below_drewN | apply below_drew1 | refine below_set ?_ GE203.out) | exact HB.out))))
                have n2_ := Aside0.mk (blk_below (g := gb203) (o := .cells #[.bool a1_0, .bool a1_1] 36 (0, 0)) (by (with_reducible repeat (first | refine blk_drewN ?_ _ | refine blk_drew ?_ | refine blk_alloc ?_ _)); exact BK203.out) hb)
                have n3_ := Aside0.mk (below_step (by repeat (first | (with_reducible first | exact HB.out | apply below_alloc | apply pw_below_drewN | apply below_drew1 | refine below_set ?_ GE203.out) | exact HB.out)) hb)
                clear HO_6
                clear BK203
                clear HB
                have HO_6 := n0_
                have HO212 := n1_
                have BK203 := n2_
                have HB := n3_
                clear n0_ n1_ n2_ n3_
                clear hb ho25
                refine hK.out _ _ ⟨(blk_cell BK203.out 0).trans rfl, (blk_cell BK203.out 1).trans rfl, ((HB.out.cell (World.block_lt_of_cell? w _ hw205_0)).trans hw205_0), ((HB.out.cell (World.block_lt_of_cell? w _ hw205_1)).trans hw205_1), ((HB.out.cell (World.block_lt_of_cell? w _ hw206_0)).trans hw206_0), ((HB.out.cell (World.block_lt_of_cell? w _ hw206_1)).trans hw206_1)⟩ (fun hHeld => ?_)
                clear hK K
                refine norm_ (a' := ?_) ?_ ?_
                rotate_left
                · show Act.put _ (some 33) _ = _
                  simp only [Act.put, List.setIfInBounds_toArray, List.set_cons_zero, List.set_cons_succ, i64_w, i32_w]
                  rfl
                refine one_ (i := 10) (N := some 30) #[true, true, true, true, true, true, true, true, true, true, true, true, true, true, true, true, false, false, false, false, false, false] rfl rfl (one_of HT_.out (by kernel_rfl)) (by decide) (fun K hK => ?_)
                refine Kd.R_lit_step (Kd.int .u64) _ 23 ?hg (N := 30) ?hd (xs := ([(rd_T73 l0 x8_1).f0, (rd_T73 l0 x8_1).f1] : List Int)) (inner := [.int .u64 ((rd_T73 l0 x8_1).f0), .int .u64 ((rd_T73 l0 x8_1).f1)]) (ok := fun _ => True) (okp := fun _ => True) ?hr ?hp (fun _ hk => hk) trivial (Below.refl _ _) (Nat.le_refl _) (by simp) ?_; (case hd => rfl); (case hg => rfl); (case hr => first | (go_simp; done) | (go_simp; rfl)); (case hp => exact (Reps.one (show Kd.M (Kd.int .u64) _ _ _ ((rd_T73 l0 x8_1).f0) [.int .u64 ((rd_T73 l0 x8_1).f0)] from rfl) (Reps.one (show Kd.M (Kd.int .u64) _ _ _ ((rd_T73 l0 x8_1).f1) [.int .u64 ((rd_T73 l0 x8_1).f1)] from rfl) (Reps.none _ _))))
                intro v208 w26 ho27 hb hg_ hnew_
                clear hg_ hnew_
                (first | rw [← Ny207.out] at ho27 | (simp only [Int.reduceToNat] at ho27; rw [← Ny207.out] at ho27))
                have n0_ := Aside0.mk (Kd.R_below (by (with_reducible repeat (first | apply Kd.R_alloc | apply Kd.R_drewN | apply Kd.R_drew)); exact HO_6.out) hb)
                have n1_ := Aside0.mk (Kd.R_below (by (with_reducible repeat (first | apply Kd.R_alloc | apply Kd.R_drewN | apply Kd.R_drew)); exact HO212.out) hb)
                have n2_ := Aside0.mk (Kd.R_lower ho27 (below_size (by repeat (first | (with_reducible first | exact HB.out | apply below_alloc | apply pw_below_drewN | apply below_drew1 | refine below_set ?_ GE203.out) | exact HB.out))))
                have n3_ := Aside0.mk (blk_below (g := gb203) (o := .cells #[.bool a1_0, .bool a1_1] 36 (0, 0)) (by (with_reducible repeat (first | refine blk_drewN ?_ _ | refine blk_drew ?_ | refine blk_alloc ?_ _)); exact BK203.out) hb)
                have n4_ := Aside0.mk (below_step (by repeat (first | (with_reducible first | exact HB.out | apply below_alloc | apply pw_below_drewN | apply below_drew1 | refine below_set ?_ GE203.out) | exact HB.out)) hb)
                clear HO_6
                clear HO212
                clear BK203
                clear HB
                have HO_6 := n0_
                have HO212 := n1_
                have HO209 := n2_
                have BK203 := n3_
                have HB := n4_
                clear n0_ n1_ n2_ n3_ n4_
                clear hb ho27
                refine hK.out _ _ ⟨(blk_cell BK203.out 0).trans rfl, (blk_cell BK203.out 1).trans rfl, ((HB.out.cell (World.block_lt_of_cell? w _ hw205_0)).trans hw205_0), ((HB.out.cell (World.block_lt_of_cell? w _ hw205_1)).trans hw205_1), ((HB.out.cell (World.block_lt_of_cell? w _ hw206_0)).trans hw206_0), ((HB.out.cell (World.block_lt_of_cell? w _ hw206_1)).trans hw206_1)⟩ (fun hHeld => ?_)
                clear hK K
                refine norm_ (a' := ?_) ?_ ?_
                rotate_left
                · show Act.put _ (some 30) _ = _
                  simp only [Act.put, List.setIfInBounds_toArray, List.set_cons_zero, List.set_cons_succ, i64_w, i32_w]
                  rfl
                exact norm_ (by simp only [putAll, Act.put, List.setIfInBounds_toArray, List.set_cons_zero, List.set_cons_succ]) (hCont (v208, v211) _ ⟨hHeld, (by (with_reducible repeat (first | apply Kd.R_alloc | apply Kd.R_drewN | apply Kd.R_drew)); exact HO209.out), (by (with_reducible repeat (first | apply Kd.R_alloc | apply Kd.R_drewN | apply Kd.R_drew)); exact HO212.out), (by (with_reducible repeat (first | apply Kd.R_alloc | apply Kd.R_drewN | apply Kd.R_drew)); exact HO_6.out), (by (with_reducible repeat (first | refine blk_drewN ?_ _ | refine blk_drew ?_ | refine blk_alloc ?_ _)); exact BK203.out), (by repeat (first | (with_reducible first | exact HB.out | apply below_alloc | apply pw_below_drewN | apply below_drew1 | refine below_set ?_ GE203.out) | exact HB.out))⟩)
            rintro ⟨v208, v211⟩ w28 ⟨hS_, h0_, h1_, h2_, h3_, h4_⟩
            have n0_ : Aside0 (Kd.R (Kd.int .u64) 23 w28 w.heap.size (fun _ => True) v208 y207) := ⟨h0_⟩
            have n1_ : Aside0 (Kd.R (Kd.int .i64) 3 w28 w.heap.size (fun _ => True) v211 y210) := ⟨h1_⟩
            have n2_ : Aside0 (Kd.R (Kd.int .u8) 5 w28 w.heap.size (fun _ => True) u6 x6_1) := ⟨h2_⟩
            have n3_ : Aside0 (w28.heap[gb203]? = some (.cells #[.bool a1_0, .bool a1_1] 36 (0, 0))) := ⟨h3_⟩
            have n4_ : Aside0 (Below w.heap.size w w28) := ⟨h4_⟩
            clear HO_6
            clear BK203
            clear HB
            clear h0_ h1_ h2_ h3_ h4_
            have HO209 := n0_
            have HO212 := n1_
            have HO_6 := n2_
            have BK203 := n3_
            have HB := n4_
            clear n0_ n1_ n2_ n3_ n4_
            have hHeld : w28.cell? ⟨gb203, 0, none⟩ = some (.bool a1_0) ∧ w28.cell? ⟨gb203, 1, none⟩ = some (.bool a1_1) ∧ w28.cell? (ad205.add ((x8_1).toNat * 2)) = some (.int .u64 ((rd_T73 l0 x8_1).f0)) ∧ w28.cell? ⟨(ad205.add ((x8_1).toNat * 2)).block, (ad205.add ((x8_1).toNat * 2)).off + 1, none⟩ = some (.int .u64 ((rd_T73 l0 x8_1).f1)) ∧ w28.cell? (ad205.add ((x8_1).toNat * 2)) = some (.int .u64 ((rd_T73 l0 x8_1).f0)) ∧ w28.cell? ⟨(ad205.add ((x8_1).toNat * 2)).block, (ad205.add ((x8_1).toNat * 2)).off + 1, none⟩ = some (.int .u64 ((rd_T73 l0 x8_1).f1)) := hS_
            obtain ⟨Ao29, co29, eo29⟩ := Kd.R_slice HO209.out
            (first | subst eo29 | (injection eo29 with f1_ f2_ f3_; have f4_ := f1_.symm; have f5_ := f3_.symm; clear f1_ f2_ f3_; subst f4_; subst f5_))
            obtain ⟨Ao30, co30, eo30⟩ := Kd.R_slice HO212.out
            (first | subst eo30 | (injection eo30 with f1_ f2_ f3_; have f4_ := f1_.symm; have f5_ := f3_.symm; clear f1_ f2_ f3_; subst f4_; subst f5_))
            refine norm_ (a' := ?_) ?_ ?_
            rotate_left
            · simp only [putAll, Act.put, List.setIfInBounds_toArray, List.set_cons_zero, List.set_cons_succ]
              rfl
            refine one_ (i := 16) (N := some 36) #[true, true, true, true, true, true, true, true, true, true, true, true, true, true, true, true, true, false, false, false, false, false] rfl rfl (one_of HT_.out (by kernel_rfl)) (by decide) (fun K hK => ?_)
            refine goes_ Try.func67 (by kernel_rfl) rfl #[.slice Ao29 y207.length co29, .slice Ao30 y210.length co30, .bool a1_1] (by rfl) rfl rfl (by (try simp only [List.map_toArray, List.map_cons, List.map_nil]); first | done | rfl | (simp only [List.length_drop, List.length_take]; rfl)) ?_
            with_reducible refine (bezantref04_Row.calls k1 _ _ y207 _ _ y210 a1_1 t213 false _ ?side1 ?side2 ?side3 ?side4 A9.out).mono ?_
            (case side1 => repeat (first | exact (Kd.R_reads' HO209.out).2.2 | (with_reducible refine Kd.C_alloc ?_ _) | (with_reducible refine Kd.C_drewN ?_ _) | (with_reducible refine Kd.C_drew ?_)))
            (case side2 => exact (Kd.R_reads' HO209.out).2.1)
            (case side3 => repeat (first | exact (Kd.R_reads' HO212.out).2.2 | (with_reducible refine Kd.C_alloc ?_ _) | (with_reducible refine Kd.C_drewN ?_ _) | (with_reducible refine Kd.C_drew ?_)))
            (case side4 => exact (Kd.R_reads' HO212.out).2.1)
            rintro e w31 ⟨v215, rfl, ho0, hb⟩
            refine ⟨_, rfl, ?_⟩
            have n0_ := Aside0.mk (Kd.R_elder' (by (with_reducible repeat (first | apply Kd.R_alloc | apply Kd.R_drewN | apply Kd.R_drew)); exact HO_6.out) (Kd.R_base ho0) hb)
            have n1_ := Aside0.mk (Kd.R_below (by (with_reducible repeat (first | apply Kd.R_alloc | apply Kd.R_drewN | apply Kd.R_drew)); exact HO209.out) hb)
            have n2_ := Aside0.mk (Kd.R_below (by (with_reducible repeat (first | apply Kd.R_alloc | apply Kd.R_drewN | apply Kd.R_drew)); exact HO212.out) hb)
            have n3_ := Aside0.mk (Kd.R_lower (Kd.R_new' ho0 (Kd.R_lt (by (with_reducible repeat (first | apply Kd.R_alloc | apply Kd.R_drewN | apply Kd.R_drew)); exact HO_6.out))) (below_size (by repeat (first | (with_reducible first | exact HB.out | apply below_alloc | apply pw_below_drewN | apply below_drew1 | refine below_set ?_ GE203.out) | exact HB.out))))
            have n4_ := Aside0.mk (blk_below (g := gb203) (o := .cells #[.bool a1_0, .bool a1_1] 36 (0, 0)) (by (with_reducible repeat (first | refine blk_drewN ?_ _ | refine blk_drew ?_ | refine blk_alloc ?_ _)); exact BK203.out) hb)
            have n5_ := Aside0.mk (below_step (by repeat (first | (with_reducible first | exact HB.out | apply below_alloc | apply pw_below_drewN | apply below_drew1 | refine below_set ?_ GE203.out) | exact HB.out)) hb)
            clear HO_6
            clear HO209
            clear HO212
            clear BK203
            clear HB
            have HO_6 := n0_
            have HO209 := n1_
            have HO212 := n2_
            have HO216 := n3_
            have BK203 := n4_
            have HB := n5_
            clear n0_ n1_ n2_ n3_ n4_ n5_
            (try clear hb)
            (try clear hb2)
            (try clear hk)
            (try clear hi)
            (try clear ho0)
            refine hK.out _ _ ⟨(blk_cell BK203.out 0).trans rfl, (blk_cell BK203.out 1).trans rfl, ((HB.out.cell (World.block_lt_of_cell? w _ hw205_0)).trans hw205_0), ((HB.out.cell (World.block_lt_of_cell? w _ hw205_1)).trans hw205_1), ((HB.out.cell (World.block_lt_of_cell? w _ hw206_0)).trans hw206_0), ((HB.out.cell (World.block_lt_of_cell? w _ hw206_1)).trans hw206_1)⟩ (fun hHeld => ?_)
            clear hK K
            refine norm_ (a' := ?_) ?_ ?_
            rotate_left
            · show Act.put _ (some 36) _ = _
              simp only [Act.put, List.setIfInBounds_toArray, List.set_cons_zero, List.set_cons_succ, i64_w, i32_w]
              rfl
            refine pure_ (i := 17) (N := some 19) (v := ?_) (a' := ?_) #[true, true, true, true, true, true, true, true, true, true, true, true, true, true, true, true, true, true, false, false, false, false] rfl rfl (any_of HT_.out (by kernel_rfl)) (fun _ _ _ h => h) (Or.inl ⟨by rfl, ?_⟩) ?_ ?_
            rotate_left
            · intro w'
              go_simp
              with_reducible rfl
            rotate_left
            · simp only [Act.put, List.setIfInBounds_toArray, List.set_cons_zero, List.set_cons_succ, i64_w, i32_w]
              rfl
            refine pure_ (i := 18) (N := some 37) (v := ?_) (a' := ?_) #[true, true, true, true, true, true, true, true, true, true, true, true, true, true, true, true, true, true, true, false, false, false] rfl rfl (any_of HT_.out (by kernel_rfl)) (fun _ _ _ h => h) (Or.inl ⟨by rfl, ?_⟩) ?_ ?_
            rotate_left
            · intro w'
              go_simp
              with_reducible rfl
            rotate_left
            · simp only [Act.put, List.setIfInBounds_toArray, List.set_cons_zero, List.set_cons_succ, i64_w, i32_w]
              rfl
            refine pure_ (i := 19) (N := some 38) (v := ?_) (a' := ?_) #[true, true, true, true, true, true, true, true, true, true, true, true, true, true, true, true, true, true, true, true, false, false] rfl rfl (any_of HT_.out (by kernel_rfl)) (fun _ _ _ h => h) (Or.inl ⟨by rfl, ?_⟩) ?_ ?_
            rotate_left
            · intro w'
              go_simp
              with_reducible rfl
            rotate_left
            · simp only [Act.put, List.setIfInBounds_toArray, List.set_cons_zero, List.set_cons_succ, i64_w, i32_w]
              rfl
            refine pure_ (i := 20) (N := some 9) (v := ?_) (a' := ?_) #[true, true, true, true, true, true, true, true, true, true, true, true, true, true, true, true, true, true, true, true, true, false] rfl rfl (any_of HT_.out (by kernel_rfl)) (fun _ _ _ h => h) (Or.inl ⟨by rfl, ?_⟩) ?_ ?_
            rotate_left
            · intro w'
              go_simp
              with_reducible rfl
            rotate_left
            · simp only [Act.put, List.setIfInBounds_toArray, List.set_cons_zero, List.set_cons_succ, i64_w, i32_w]
              rfl
            refine pure_ (i := 21) (N := some 10) (v := ?_) (a' := ?_) #[true, true, true, true, true, true, true, true, true, true, true, true, true, true, true, true, true, true, true, true, true, true] rfl rfl (any_of HT_.out (by kernel_rfl)) (fun _ _ _ h => h) (Or.inl ⟨by rfl, ?_⟩) ?_ ?_
            rotate_left
            · intro w'
              go_simp
              with_reducible rfl
            rotate_left
            · simp only [Act.put, List.setIfInBounds_toArray, List.set_cons_zero, List.set_cons_succ, i64_w, i32_w]
              rfl
            refine done_ (done_of HT_.out (by kernel_rfl)) ?_
            try go_wp2
            go_ret2
            exact ⟨(.slice none 0 0), by first | rfl | (simp [errW_none, errW_some] <;> rfl) | (simp [*, errW_none, errW_some] <;> rfl), by first | exact Kd.R_nil _ _ _ _ _ | exact Kd.N_nil _ _ _ _ _ | exact Kd.V_nil _ _ _ _ _ | exact Kd.Q_nil _ _ _ _ _ | exact Kd.S_nil _ _ _ _ _, by repeat (first | (with_reducible first | exact HB.out | apply below_alloc | apply pw_below_drewN | apply below_drew1 | refine below_set ?_ GE203.out) | exact HB.out)⟩
        · rw [if_neg c8] at H
          exact absurd H (by simp)
      · rw [if_neg c7] at H
        have c7b0 : decide (x8_1 < (l0.length : Int)) = false := decide_eq_false c7
        clear c7
        simp only [Option.some.injEq, Prod.mk.injEq] at H
        obtain ⟨rfl, rfl⟩ := H
        go_wp2
        go_ret2
        exact ⟨_, by first | rfl | (simp [errW_none, errW_some] <;> rfl) | (simp [*, errW_none, errW_some] <;> rfl), by (with_reducible repeat (first | apply Kd.R_alloc | apply Kd.R_drewN | apply Kd.R_drew)); exact HO_6.out, by repeat (first | (with_reducible first | exact HB.out | apply below_alloc | apply pw_below_drewN | apply below_drew1 | refine below_set ?_ GE203.out) | exact HB.out)⟩

end Go.Proofs.Yteohkpfacjjaeaa.QDyn

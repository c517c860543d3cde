/- Functions told by the kit's print as plain Lean functions, and that the code comes to what they tell; set right by fixprint.py where the printed text fell. -/
/- Functions told by our printer (out of the kit's) as plain Lean functions, and that the code comes to what they tell: no statement of the set is proved in this text. -/
import Derived.Test.YteohkpfacjjaeaaMSpanx0
import Derived.Test.YteohkpfacjjaeaaMSpanx1
import Derived.Test.YteohkpfacjjaeaaMSpanx2
import Derived.Test.YteohkpfacjjaeaaMSpanx3
import Derived.Test.YteohkpfacjjaeaaNSpanx4
namespace Go.Proofs.Yteohkpfacjjaeaa.MSpan
open Go.RowKit Go.Proofs.YteohkpfacjjaeaaW.PrintWords Go.Proofs.YteohkpfacjjaeaaW.PrintLast Go.Proofs.YteohkpfacjjaeaaW.PrintMore
attribute [local go_sem] max2_int min2_int max_two min_two max_three min_three max_four min_four   -- for this text's walks alone
set_option linter.unusedVariables false
set_option linter.unusedSimpArgs false

theorem sA {α : Type} (l : List α) (i : Nat) (a : α) : l.toArray.setIfInBounds i a = (l.set i a).toArray := List.setIfInBounds_toArray ..
theorem s0 {α : Type} (x b : α) (xs : List α) : (x :: xs).set 0 b = b :: xs := List.set_cons_zero ..
theorem s1 {α : Type} (x b : α) (xs : List α) (n : Nat) : (x :: xs).set (n + 1) b = x :: xs.set n b := List.set_cons_succ ..
theorem fW {S : World → Prop} : ∀ w' : World, S w' → S w' := fun _ h => h
abbrev tT : Bool := true
abbrev fF : Bool := false
/-! ### bezantlaw02_SpanTells: function 3 -/
mutual
def bezantlaw02_SpanTells.j0 : Nat → List (S25) → Bool → Bool → Option (Bool)
  | 0, _, _, _ => none
  | k + 1, x0, x7, x37 => if x37 = true then (if x7 = true then (some (decide ((x0.length : Int) > 60))) else (none)) else (bezantlaw02_SpanTells.l0 k x0 x7 0 0 false true 0)
def bezantlaw02_SpanTells.l0 : Nat → List (S25) → Bool → Int → Int → Bool → Bool → Int → Option (Bool)
  | 0, _, _, _, _, _, _, _ => none
  | k + 1, x0, x7, x8, x9, x10, x11, x12 => if x12 < (x0.length : Int) then (bezantlaw02_SpanTells.l1 k x0 x7 x8 x9 x10 x11 x12 0) else ((span_Clash.f k x0).bind fun bt141 => (if x7 = true then (if bt141.1 = x8 then (if bt141.2.1 = x9 then (if (bt141.2.2 == x10) = true then ((span_Rising.f k x0).bind fun t144 => (some (t144 == x11))) else (none)) else (none)) else (none)) else (none)))
def bezantlaw02_SpanTells.l1 : Nat → List (S25) → Bool → Int → Int → Bool → Bool → Int → Int → Option (Bool)
  | 0, _, _, _, _, _, _, _, _ => none
  | k + 1, x0, x7, x8, x9, x10, x11, x12, x13 => if x13 < x12 then (if 0 ≤ x13 then (if x13 < (x0.length : Int) then (if 0 ≤ x12 then (if x12 < (x0.length : Int) then ((bezantref01_Meet.f k ((rd_T25 x0 x13).f0) ((rd_T25 x0 x13).f1) ((rd_T25 x0 x12).f0) ((rd_T25 x0 x12).f1)).bind fun t149 => (if t149 = true then (if x10 = true then ((bezantref01_Below.f ((rd_T25 x0 x13).f0) ((rd_T25 x0 x13).f1) ((rd_T25 x0 x12).f0)).bind fun t153 => (if x11 = true then (bezantlaw02_SpanTells.l1 k x0 x7 x8 x9 x10 t153 x12 (wrap64 (x13 + 1))) else (bezantlaw02_SpanTells.l1 k x0 x7 x8 x9 x10 false x12 (wrap64 (x13 + 1))))) else ((bezantref01_Below.f ((rd_T25 x0 x13).f0) ((rd_T25 x0 x13).f1) ((rd_T25 x0 x12).f0)).bind fun t157 => (if x11 = true then (bezantlaw02_SpanTells.l1 k x0 x7 x13 x12 true t157 x12 (wrap64 (x13 + 1))) else (bezantlaw02_SpanTells.l1 k x0 x7 x13 x12 true false x12 (wrap64 (x13 + 1)))))) else ((bezantref01_Below.f ((rd_T25 x0 x13).f0) ((rd_T25 x0 x13).f1) ((rd_T25 x0 x12).f0)).bind fun t161 => (if x11 = true then (bezantlaw02_SpanTells.l1 k x0 x7 x8 x9 x10 t161 x12 (wrap64 (x13 + 1))) else (bezantlaw02_SpanTells.l1 k x0 x7 x8 x9 x10 false x12 (wrap64 (x13 + 1))))))) else (none)) else (none)) else (none)) else (none)) else (bezantlaw02_SpanTells.l0 k x0 x7 x8 x9 x10 x11 (wrap64 (x12 + 1)))
end
def bezantlaw02_SpanTells.f (k : Nat) (l0 : List (S25)) (a1_0 : Int) (a1_1 : Int) (a2_0 : Int) (a2_1 : Int) : Option (Bool) := (bezantlaw02_up.f k).bind fun t138 => (if (l0.length : Int) > 60 then (bezantlaw02_SpanTells.j0 k l0 t138 true) else ((span_Meet.f a1_0 a1_1 a2_0 a2_1).bind fun t139 => ((bezantref01_Meet.f k a1_0 a1_1 a2_0 a2_1).bind fun t140 => (bezantlaw02_SpanTells.j0 k l0 t138 (t139 != t140)))))
theorem bezantlaw02_SpanTells.mono_l : ∀ k, (∀ y0 y1 y2, LeO (bezantlaw02_SpanTells.j0 k y0 y1 y2) (bezantlaw02_SpanTells.j0 (k + 1) y0 y1 y2)) ∧ (∀ y0 y1 y2 y3 y4 y5 y6, LeO (bezantlaw02_SpanTells.l0 k y0 y1 y2 y3 y4 y5 y6) (bezantlaw02_SpanTells.l0 (k + 1) y0 y1 y2 y3 y4 y5 y6)) ∧ (∀ y0 y1 y2 y3 y4 y5 y6 y7, LeO (bezantlaw02_SpanTells.l1 k y0 y1 y2 y3 y4 y5 y6 y7) (bezantlaw02_SpanTells.l1 (k + 1) y0 y1 y2 y3 y4 y5 y6 y7))
  | 0 => ⟨fun _ _ _ r h => by simp [bezantlaw02_SpanTells.j0] at h, fun _ _ _ _ _ _ _ r h => by simp [bezantlaw02_SpanTells.l0] at h, fun _ _ _ _ _ _ _ _ r h => by simp [bezantlaw02_SpanTells.l1] at h⟩
  | k + 1 => by
    obtain ⟨ih0, ih1, ih2⟩ := bezantlaw02_SpanTells.mono_l k
    refine ⟨?_, ?_, ?_⟩
    · intro y0 y1 y2
      unfold bezantlaw02_SpanTells.j0
      repeat' first
      | (with_reducible exact ih0 _ _ _)
      | (with_reducible exact ih1 _ _ _ _ _ _ _)
      | (with_reducible exact ih2 _ _ _ _ _ _ _ _)
      | (with_reducible exact bezantlaw02_up.mono _)
      | (with_reducible exact bezantref01_Meet.mono _ _ _ _ _)
      | (with_reducible exact span_Clash.mono _ _)
      | (with_reducible exact span_Rising.mono _ _)
      | (with_reducible exact LeO.refl _)
      | (with_reducible exact LeO.none _)
      | (with_reducible refine LeO.ite ?_ ?_)
      | (with_reducible refine LeO.bind ?_ (fun _ => ?_))
      | exact ih0 _ _ _
      | exact ih1 _ _ _ _ _ _ _
      | exact ih2 _ _ _ _ _ _ _ _
      | exact bezantlaw02_up.mono _
      | exact bezantref01_Meet.mono _ _ _ _ _
      | exact span_Clash.mono _ _
      | exact span_Rising.mono _ _
      | exact LeO.none _
      | refine LeO.ite ?_ ?_
      | refine LeO.bind ?_ (fun _ => ?_)
    · intro y0 y1 y2 y3 y4 y5 y6
      unfold bezantlaw02_SpanTells.l0
      repeat' first
      | (with_reducible exact ih0 _ _ _)
      | (with_reducible exact ih1 _ _ _ _ _ _ _)
      | (with_reducible exact ih2 _ _ _ _ _ _ _ _)
      | (with_reducible exact bezantlaw02_up.mono _)
      | (with_reducible exact bezantref01_Meet.mono _ _ _ _ _)
      | (with_reducible exact span_Clash.mono _ _)
      | (with_reducible exact span_Rising.mono _ _)
      | (with_reducible exact LeO.refl _)
      | (with_reducible exact LeO.none _)
      | (with_reducible refine LeO.ite ?_ ?_)
      | (with_reducible refine LeO.bind ?_ (fun _ => ?_))
      | exact ih0 _ _ _
      | exact ih1 _ _ _ _ _ _ _
      | exact ih2 _ _ _ _ _ _ _ _
      | exact bezantlaw02_up.mono _
      | exact bezantref01_Meet.mono _ _ _ _ _
      | exact span_Clash.mono _ _
      | exact span_Rising.mono _ _
      | exact LeO.none _
      | refine LeO.ite ?_ ?_
      | refine LeO.bind ?_ (fun _ => ?_)
    · intro y0 y1 y2 y3 y4 y5 y6 y7
      unfold bezantlaw02_SpanTells.l1
      repeat' first
      | (with_reducible exact ih0 _ _ _)
      | (with_reducible exact ih1 _ _ _ _ _ _ _)
      | (with_reducible exact ih2 _ _ _ _ _ _ _ _)
      | (with_reducible exact bezantlaw02_up.mono _)
      | (with_reducible exact bezantref01_Meet.mono _ _ _ _ _)
      | (with_reducible exact span_Clash.mono _ _)
      | (with_reducible exact span_Rising.mono _ _)
      | (with_reducible exact LeO.refl _)
      | (with_reducible exact LeO.none _)
      | (with_reducible refine LeO.ite ?_ ?_)
      | (with_reducible refine LeO.bind ?_ (fun _ => ?_))
      | exact ih0 _ _ _
      | exact ih1 _ _ _ _ _ _ _
      | exact ih2 _ _ _ _ _ _ _ _
      | exact bezantlaw02_up.mono _
      | exact bezantref01_Meet.mono _ _ _ _ _
      | exact span_Clash.mono _ _
      | exact span_Rising.mono _ _
      | exact LeO.none _
      | refine LeO.ite ?_ ?_
      | refine LeO.bind ?_ (fun _ => ?_)
theorem bezantlaw02_SpanTells.mono : ∀ a0 a1 a2 a3 a4 k, LeO (bezantlaw02_SpanTells.f k a0 a1 a2 a3 a4) (bezantlaw02_SpanTells.f (k + 1) a0 a1 a2 a3 a4) := by
  intro a0 a1 a2 a3 a4 k
  obtain ⟨ih0, ih1, ih2⟩ := bezantlaw02_SpanTells.mono_l k
  unfold bezantlaw02_SpanTells.f
  repeat' first
      | (with_reducible exact ih0 _ _ _)
      | (with_reducible exact ih1 _ _ _ _ _ _ _)
      | (with_reducible exact ih2 _ _ _ _ _ _ _ _)
      | (with_reducible exact bezantlaw02_up.mono _)
      | (with_reducible exact bezantref01_Meet.mono _ _ _ _ _)
      | (with_reducible exact span_Clash.mono _ _)
      | (with_reducible exact span_Rising.mono _ _)
      | (with_reducible exact LeO.refl _)
      | (with_reducible exact LeO.none _)
      | (with_reducible refine LeO.ite ?_ ?_)
      | (with_reducible refine LeO.bind ?_ (fun _ => ?_))
      | exact ih0 _ _ _
      | exact ih1 _ _ _ _ _ _ _
      | exact ih2 _ _ _ _ _ _ _ _
      | exact bezantlaw02_up.mono _
      | exact bezantref01_Meet.mono _ _ _ _ _
      | exact span_Clash.mono _ _
      | exact span_Rising.mono _ _
      | exact LeO.none _
      | refine LeO.ite ?_ ?_
      | refine LeO.bind ?_ (fun _ => ?_)
def bezantlaw02_SpanTells.T2 : Bool × List (List Nat × List Nat) := (true, [([], []), ([0], [0]), ([1], [1]), ([2], [2]), ([3], [3]), ([3], [3]), ([4, 5, 3, 3], [3, 4, 5]), ([3], [3]), ([7, 3], [3, 7]), ([3], [3]), ([9, 3], [3, 9]), ([3], [3]), ([11, 3], [3, 11]), ([3], [3]), ([13, 3], [3, 13]), ([8, 10, 12, 14, 6, 3], [3, 8, 10, 12, 14]), ([6, 15, 3], [3, 6, 15]), ([3, 16], [3, 16])])
def bezantlaw02_SpanTells.B2 : List Nat := [0, 1, 3, 7, 15, 15, 63, 15, 143, 15, 527, 15, 2063, 15, 8207, 32767, 65535, 131071]
theorem bezantlaw02_SpanTells.tab2 : rtab .any (opsOf Try.f3 2) = bezantlaw02_SpanTells.T2 := by kernel_rfl
theorem bezantlaw02_SpanTells.bits2 : waitsOk bezantlaw02_SpanTells.T2.2 bezantlaw02_SpanTells.B2 = true := by kernel_rfl
def bezantlaw02_SpanTells.T14 : Bool × List (List Nat × List Nat) := (true, [([], []), ([], []), ([0, 1], [0, 1]), ([2], [2]), ([3], [3]), ([], []), ([], []), ([5, 6], [5, 6]), ([7], [7]), ([8], [8]), ([], []), ([], []), ([10, 11], [10, 11]), ([12], [12]), ([13], [13]), ([], []), ([], []), ([15, 16], [15, 16]), ([17], [17]), ([18], [18]), ([4, 9, 14, 19], [4, 9, 14, 19]), ([20, 20, 0, 1, 2, 3, 4, 5, 6, 7, 8, 9, 10, 11, 12, 13, 14, 15, 16, 17, 18, 19, 20], [20])])
def bezantlaw02_SpanTells.B14 : List Nat := [0, 0, 3, 7, 15, 0, 0, 96, 224, 480, 0, 0, 3072, 7168, 15360, 0, 0, 98304, 229376, 491520, 1048575, 2097151]
theorem bezantlaw02_SpanTells.tab14 : rtab .any (opsOf Try.f3 14) = bezantlaw02_SpanTells.T14 := by kernel_rfl
theorem bezantlaw02_SpanTells.bits14 : waitsOk bezantlaw02_SpanTells.T14.2 bezantlaw02_SpanTells.B14 = true := by kernel_rfl
def bezantlaw02_SpanTells.T19 : Bool × List (List Nat × List Nat) := (true, [([], []), ([], []), ([0, 1], [0, 1]), ([2], [2]), ([3], [3]), ([], []), ([], []), ([5, 6], [5, 6]), ([7], [7]), ([8], [8]), ([], []), ([], []), ([10, 11], [10, 11]), ([12], [12]), ([13], [13]), ([4, 9, 14], [4, 9, 14]), ([15, 15, 0, 1, 2, 3, 4, 5, 6, 7, 8, 9, 10, 11, 12, 13, 14, 15], [15])])
def bezantlaw02_SpanTells.B19 : List Nat := [0, 0, 3, 7, 15, 0, 0, 96, 224, 480, 0, 0, 3072, 7168, 15360, 32767, 65535]
theorem bezantlaw02_SpanTells.tab19 : rtab .any (opsOf Try.f3 19) = bezantlaw02_SpanTells.T19 := by kernel_rfl
theorem bezantlaw02_SpanTells.bits19 : waitsOk bezantlaw02_SpanTells.T19.2 bezantlaw02_SpanTells.B19 = true := by kernel_rfl
set_option maxHeartbeats 8000000 in
set_option maxRecDepth 100000 in
theorem bezantlaw02_SpanTells.calls (k : Nat) (A0 : Option Addr) (c0 : Nat) (l0 : List (S25)) (a1_0 : Int) (a1_1 : Int) (a2_0 : Int) (a2_1 : Int) (r : Bool) (w : World) (hr0 : Kd.C k25 w A0 l0.length l0) (hc0 : l0.length ≤ c0) (h : bezantlaw02_SpanTells.f k l0 a1_0 a1_1 a2_0 a2_1 = some r) :
    Calls Try.prog 3 #[.slice A0 l0.length c0, .agg #[.int .u64 a1_0, .int .u64 a1_1], .agg #[.int .u64 a2_0, .int .u64 a2_1]] w fun e w' => e = .returned (.bool r) ∧ Below w.heap.size w w' := by
  have hu25 := Try.underlying25
  have HR0 := Aside0.mk hr0
  have HC0 := Aside0.mk hc0
  clear hr0 hc0
  have HB := Aside0.mk (Below.refl w.heap.size w)
  have H : ((bezantlaw02_up.f k).bind fun t138 => (if (l0.length : Int) > 60 then (bezantlaw02_SpanTells.j0 k l0 t138 true) else ((span_Meet.f a1_0 a1_1 a2_0 a2_1).bind fun t139 => ((bezantref01_Meet.f k a1_0 a1_1 a2_0 a2_1).bind fun t140 => (bezantlaw02_SpanTells.j0 k l0 t138 (t139 != t140)))))) = some r := h
  clear h
  replace H := Option.bind_eq_some_iff.mp H
  obtain ⟨t138, A40, H⟩ := H
  (try dsimp only at H)
  have A4 := Aside0.mk A40
  clear A40
  have HC5 := Aside0.mk H
  clear H
  go_enter Try.func3, Try.ntmps3
  go_upto_region 2 with (first | ((with_reducible refine gate_dst (N := 4) rfl ?_); (try (refine gate_guard (by rfl) ?_; dsimp only)); refine box_event ?hg (N := 4) ?hd (cs := #[.int .u64 a1_0, .int .u64 a1_1]) (t := 25) ?hr ?_; (case hd => rfl); (case hg => rfl); (case hr => first | (go_simp; done) | (go_simp; rfl)); intro gb136 hg w6 hbox hb; have n0_ := Aside0.mk (below_step (by repeat (first | (with_reducible first | exact HB.out | apply below_alloc | apply pw_below_drewN | apply below_drew1) | exact HB.out)) hb); have n1_ := Aside0.mk (hbox); have n2_ := Aside0.mk ((by rw [hg]; exact (below_size (by repeat (first | (with_reducible first | exact HB.out | apply below_alloc | apply pw_below_drewN | apply below_drew1) | exact HB.out))) : w.heap.size ≤ gb136)); have n3_ := Aside0.mk ((by rw [hg]; exact (below_size (by repeat (first | (with_reducible first | exact HB.out | apply below_alloc | apply pw_below_drewN | apply below_drew1) | exact HB.out))) : w.heap.size ≤ gb136)); clear HB; have HB := n0_; have BK136 := n1_; have GW136 := n2_; have GE136 := n3_; clear n0_ n1_ n2_ n3_; clear hb hbox hg) | ((with_reducible refine gate_dst (N := 5) rfl ?_); (try (refine gate_guard (by rfl) ?_; dsimp only)); refine box_event ?hg (N := 5) ?hd (cs := #[.int .u64 a2_0, .int .u64 a2_1]) (t := 25) ?hr ?_; (case hd => rfl); (case hg => rfl); (case hr => first | (go_simp; done) | (go_simp; rfl)); intro gb137 hg w7 hbox hb; have n0_ := Aside0.mk (blk_below (g := gb136) (o := .cells #[.int .u64 a1_0, .int .u64 a1_1] 25 (0, 0)) (by (with_reducible repeat (first | refine blk_drewN ?_ _ | refine blk_drew ?_ | refine blk_alloc ?_ _)); exact BK136.out) hb); have n1_ := Aside0.mk (below_step (by repeat (first | (with_reducible first | exact HB.out | apply below_alloc | apply pw_below_drewN | apply below_drew1 | refine below_set ?_ GE136.out) | exact HB.out)) hb); have n2_ := Aside0.mk (hbox); have n3_ := Aside0.mk ((by rw [hg]; exact (below_size (by repeat (first | (with_reducible first | exact HB.out | apply below_alloc | apply pw_below_drewN | apply below_drew1 | refine below_set ?_ GE136.out) | exact HB.out))) : w.heap.size ≤ gb137)); have n4_ := Aside0.mk ((by rw [hg]; exact (below_size (by repeat (first | (with_reducible first | exact HB.out | apply below_alloc | apply pw_below_drewN | apply below_drew1 | refine below_set ?_ GE136.out) | exact HB.out))) : w.heap.size ≤ gb137)); have n5_ := Aside0.mk ((by rw [hg]; exact Nat.ne_of_lt (blk_lt (g := gb136) (o := .cells #[.int .u64 a1_0, .int .u64 a1_1] 25 (0, 0)) (by (with_reducible repeat (first | refine blk_drewN ?_ _ | refine blk_drew ?_ | refine blk_alloc ?_ _)); exact BK136.out)) : gb136 ≠ gb137)); have n6_ := Aside0.mk ((by rw [hg]; exact Nat.ne_of_gt (blk_lt (g := gb136) (o := .cells #[.int .u64 a1_0, .int .u64 a1_1] 25 (0, 0)) (by (with_reducible repeat (first | refine blk_drewN ?_ _ | refine blk_drew ?_ | refine blk_alloc ?_ _)); exact BK136.out)) : gb137 ≠ gb136)); clear BK136; clear HB; have BK136 := n0_; have HB := n1_; have BK137 := n2_; have GW137 := n3_; have GE137 := n4_; have NB136_137 := n5_; have NB137_136 := n6_; clear n0_ n1_ n2_ n3_ n4_ n5_ n6_; clear hb hbox hg) | ((with_reducible refine gate_callee (f := 14) rfl ?_); refine goesL_ (some 19) rfl rfl Try.func14 (by kernel_rfl) rfl #[] rfl (by (try simp only [List.map_toArray, List.map_cons, List.map_nil]); first | done | rfl | (simp only [List.length_drop, List.length_take]; rfl)) ?_; (with_reducible refine (bezantlaw02_up.calls k  t138 _ A4.out).mono ?_); rintro e w8 ⟨rfl, hb⟩; refine ⟨_, rfl, ?_⟩; have n0_ := Aside0.mk (blk_below (g := gb136) (o := .cells #[.int .u64 a1_0, .int .u64 a1_1] 25 (0, 0)) (by (with_reducible repeat (first | refine blk_drewN ?_ _ | refine blk_drew ?_ | refine blk_alloc ?_ _)); exact BK136.out) hb); have n1_ := Aside0.mk (blk_below (g := gb137) (o := .cells #[.int .u64 a2_0, .int .u64 a2_1] 25 (0, 0)) (by (with_reducible repeat (first | refine blk_drewN ?_ _ | refine blk_drew ?_ | refine blk_alloc ?_ _)); exact BK137.out) hb); have n2_ := Aside0.mk (below_step (by repeat (first | (with_reducible first | exact HB.out | apply below_alloc | apply pw_below_drewN | apply below_drew1 | refine below_set ?_ GE136.out | refine below_set ?_ GE137.out) | exact HB.out)) hb); clear BK136; clear BK137; clear HB; have BK136 := n0_; have BK137 := n1_; have HB := n2_; clear n0_ n1_ n2_; (try clear hb); (try clear hb2); (try clear hk); (try clear hi)))
  (try simp only [Act.put, sA, s0, s1])
  go_cut [37] (fun v37 wc => ∃ (kq : Nat) (x37_4 : Bool), v37 = .bool x37_4 ∧ Aside0 (bezantlaw02_SpanTells.j0 kq l0 t138 x37_4 = some r) ∧ Aside0 (kq ≤ k) ∧ Aside0 (wc.heap[gb136]? = some (.cells #[.int .u64 a1_0, .int .u64 a1_1] 25 (0, 0))) ∧ Aside0 (wc.heap[gb137]? = some (.cells #[.int .u64 a2_0, .int .u64 a2_1] 25 (0, 0))) ∧ Aside0 (Below w.heap.size w wc))
  case first =>
    have H := HC5.out
    clear HC5
    by_cases c9 : (l0.length : Int) > 60
    · rw [if_pos c9] at H
      have c9b0 : decide (60 < (l0.length : Int)) = true := decide_eq_true c9
      have c9b1 : decide (60 < l0.length) = true := decide_eq_true (by omega)
      clear c9
      (first | rw [c9b0] | (simp only [i64_w, i32_w]; rw [c9b0]) | skip)
      have H' := Aside0.mk H
      clear H
      try go_wp2
      have n0_ := Aside0.mk (blk_drew BK136.out)
      have n1_ := Aside0.mk (blk_drew BK137.out)
      have n2_ := Aside0.mk (below_drew1 HB.out)
      clear BK136
      clear BK137
      clear HB
      have BK136 := n0_
      have BK137 := n1_
      have HB := n2_
      clear n0_ n1_ n2_
      refine start_ (n := 18) (S := fun w' => True) (ds := []) #[fF, fF, fF, fF, fF, fF, fF, fF, fF, fF, fF, fF, fF, fF, fF, fF, fF, fF] (by kernel_rfl) rfl rfl trivial (fun hHeld => ?_); refine with_tabW bezantlaw02_SpanTells.tab2 bezantlaw02_SpanTells.bits2 (fun HT_ HW_ => ?_)
      generalize w8.drew = w10 at BK136 BK137 HB hHeld ⊢
      refine pure_ (i := 0) (N := some 20) (v := ?_) (a' := ?_) #[tT, fF, fF, fF, fF, fF, fF, fF, fF, fF, fF, fF, fF, fF, fF, fF, fF, fF] rfl rfl (any_of HT_.out (by kernel_rfl)) (fun _ _ _ h => h) (Or.inl ⟨by rfl, ?_⟩) ?_ ?_
      rotate_left
      · intro w'
        go_simp
        with_reducible rfl
      rotate_left
      · simp only [Act.put, sA, s0, s1, i64_w, i32_w]
        rfl
      refine pure_ (i := 1) (N := some 21) (v := ?_) (a' := ?_) #[tT, tT, fF, fF, fF, fF, fF, fF, fF, fF, fF, fF, fF, fF, fF, fF, fF, fF] rfl rfl (any_of HT_.out (by kernel_rfl)) (fun _ _ _ h => h) (Or.inl ⟨by rfl, ?_⟩) ?_ ?_
      rotate_left
      · intro w'
        go_simp
        with_reducible rfl
      rotate_left
      · simp only [Act.put, sA, s0, s1, i64_w, i32_w]
        rfl
      refine pure_ (i := 2) (N := some 22) (v := ?_) (a' := ?_) #[tT, tT, tT, fF, fF, fF, fF, fF, fF, fF, fF, fF, fF, fF, fF, fF, fF, fF] rfl rfl (any_of HT_.out (by kernel_rfl)) (fun _ _ _ h => h) (Or.inl ⟨by rfl, ?_⟩) ?_ ?_
      rotate_left
      · intro w'
        go_simp
        with_reducible rfl
      rotate_left
      · simp only [Act.put, sA, s0, s1, i64_w, i32_w]
        rfl
      refine pure_ (i := 3) (N := some 23) (v := ?_) (a' := ?_) #[tT, tT, tT, tT, fF, fF, fF, fF, fF, fF, fF, fF, fF, fF, fF, fF, fF, fF] rfl rfl (any_of HT_.out (by kernel_rfl)) (fun _ _ _ h => h) (Or.inl ⟨by rfl, ?_⟩) ?_ ?_
      rotate_left
      · intro w'
        go_simp
        with_reducible rfl
      rotate_left
      · simp only [Act.put, sA, s0, s1, i64_w, i32_w]
        rfl
      refine pure_ (i := 4) (N := some 24) (v := undef) (a' := ?_) #[tT, tT, tT, tT, tT, fF, fF, fF, fF, fF, fF, fF, fF, fF, fF, fF, fF, fF] rfl rfl (any_of HT_.out (by kernel_rfl)) (fun _ _ _ h => h) (Or.inr ⟨by rfl, rfl⟩) ?_ ?_
      rotate_left
      · simp only [Act.put, sA, s0, s1, i64_w, i32_w]
        rfl
      refine pure_ (i := 5) (N := some 25) (v := undef) (a' := ?_) #[tT, tT, tT, tT, tT, tT, fF, fF, fF, fF, fF, fF, fF, fF, fF, fF, fF, fF] rfl rfl (any_of HT_.out (by kernel_rfl)) (fun _ _ _ h => h) (Or.inr ⟨by rfl, rfl⟩) ?_ ?_
      rotate_left
      · simp only [Act.put, sA, s0, s1, i64_w, i32_w]
        rfl
      refine pure_ (i := 6) (N := some 26) (v := undef) (a' := ?_) #[tT, tT, tT, tT, tT, tT, tT, fF, fF, fF, fF, fF, fF, fF, fF, fF, fF, fF] rfl rfl (any_of HT_.out (by kernel_rfl)) (fun _ _ _ h => h) (Or.inr ⟨by rfl, rfl⟩) ?_ ?_
      rotate_left
      · simp only [Act.put, sA, s0, s1, i64_w, i32_w]
        rfl
      refine pure_ (i := 7) (N := some 27) (v := undef) (a' := ?_) #[tT, tT, tT, tT, tT, tT, tT, tT, fF, fF, fF, fF, fF, fF, fF, fF, fF, fF] rfl rfl (any_of HT_.out (by kernel_rfl)) (fun _ _ _ h => h) (Or.inr ⟨by rfl, rfl⟩) ?_ ?_
      rotate_left
      · simp only [Act.put, sA, s0, s1, i64_w, i32_w]
        rfl
      refine pure_ (i := 8) (N := some 28) (v := undef) (a' := ?_) #[tT, tT, tT, tT, tT, tT, tT, tT, tT, fF, fF, fF, fF, fF, fF, fF, fF, fF] rfl rfl (any_of HT_.out (by kernel_rfl)) (fun _ _ _ h => h) (Or.inr ⟨by rfl, rfl⟩) ?_ ?_
      rotate_left
      · simp only [Act.put, sA, s0, s1, i64_w, i32_w]
        rfl
      refine pure_ (i := 9) (N := some 29) (v := undef) (a' := ?_) #[tT, tT, tT, tT, tT, tT, tT, tT, tT, tT, fF, fF, fF, fF, fF, fF, fF, fF] rfl rfl (any_of HT_.out (by kernel_rfl)) (fun _ _ _ h => h) (Or.inr ⟨by rfl, rfl⟩) ?_ ?_
      rotate_left
      · simp only [Act.put, sA, s0, s1, i64_w, i32_w]
        rfl
      refine pure_ (i := 10) (N := some 30) (v := undef) (a' := ?_) #[tT, tT, tT, tT, tT, tT, tT, tT, tT, tT, tT, fF, fF, fF, fF, fF, fF, fF] rfl rfl (any_of HT_.out (by kernel_rfl)) (fun _ _ _ h => h) (Or.inr ⟨by rfl, rfl⟩) ?_ ?_
      rotate_left
      · simp only [Act.put, sA, s0, s1, i64_w, i32_w]
        rfl
      refine pure_ (i := 11) (N := some 31) (v := undef) (a' := ?_) #[tT, tT, tT, tT, tT, tT, tT, tT, tT, tT, tT, tT, fF, fF, fF, fF, fF, fF] rfl rfl (any_of HT_.out (by kernel_rfl)) (fun _ _ _ h => h) (Or.inr ⟨by rfl, rfl⟩) ?_ ?_
      rotate_left
      · simp only [Act.put, sA, s0, s1, i64_w, i32_w]
        rfl
      refine pure_ (i := 12) (N := some 32) (v := undef) (a' := ?_) #[tT, tT, tT, tT, tT, tT, tT, tT, tT, tT, tT, tT, tT, fF, fF, fF, fF, fF] rfl rfl (any_of HT_.out (by kernel_rfl)) (fun _ _ _ h => h) (Or.inr ⟨by rfl, rfl⟩) ?_ ?_
      rotate_left
      · simp only [Act.put, sA, s0, s1, i64_w, i32_w]
        rfl
      refine pure_ (i := 13) (N := some 33) (v := undef) (a' := ?_) #[tT, tT, tT, tT, tT, tT, tT, tT, tT, tT, tT, tT, tT, tT, fF, fF, fF, fF] rfl rfl (any_of HT_.out (by kernel_rfl)) (fun _ _ _ h => h) (Or.inr ⟨by rfl, rfl⟩) ?_ ?_
      rotate_left
      · simp only [Act.put, sA, s0, s1, i64_w, i32_w]
        rfl
      refine pure_ (i := 14) (N := some 34) (v := undef) (a' := ?_) #[tT, tT, tT, tT, tT, tT, tT, tT, tT, tT, tT, tT, tT, tT, tT, fF, fF, fF] rfl rfl (any_of HT_.out (by kernel_rfl)) (fun _ _ _ h => h) (Or.inr ⟨by rfl, rfl⟩) ?_ ?_
      rotate_left
      · simp only [Act.put, sA, s0, s1, i64_w, i32_w]
        rfl
      refine pure_ (i := 15) (N := some 35) (v := undef) (a' := ?_) #[tT, tT, tT, tT, tT, tT, tT, tT, tT, tT, tT, tT, tT, tT, tT, tT, fF, fF] rfl rfl (any_of HT_.out (by kernel_rfl)) (fun _ _ _ h => h) (Or.inr ⟨by rfl, rfl⟩) ?_ ?_
      rotate_left
      · simp only [Act.put, sA, s0, s1, i64_w, i32_w]
        rfl
      refine pure_ (i := 16) (N := some 36) (v := undef) (a' := ?_) #[tT, tT, tT, tT, tT, tT, tT, tT, tT, tT, tT, tT, tT, tT, tT, tT, tT, fF] rfl rfl (any_of HT_.out (by kernel_rfl)) (fun _ _ _ h => h) (Or.inr ⟨by rfl, rfl⟩) ?_ ?_
      rotate_left
      · simp only [Act.put, sA, s0, s1, i64_w, i32_w]
        rfl
      refine pure_ (i := 17) (N := some 37) (v := ?_) (a' := ?_) #[tT, tT, tT, tT, tT, tT, tT, tT, tT, tT, tT, tT, tT, tT, tT, tT, tT, tT] rfl rfl (any_of HT_.out (by kernel_rfl)) (fun _ _ _ h => h) (Or.inl ⟨by rfl, ?_⟩) ?_ ?_
      rotate_left
      · intro w'
        go_simp
        with_reducible rfl
      rotate_left
      · simp only [Act.put, sA, s0, s1, i64_w, i32_w]
        rfl
      refine done_ (done_of HT_.out (by kernel_rfl)) ?_
      try go_wp2
      go_meet
      case rel => exact ⟨_, (true), (by first | rfl | (simp; done) | (simp [*]; done)), H', ⟨by first | omega | exact Nat.le_refl _⟩, ⟨by (with_reducible repeat (first | refine blk_drewN ?_ _ | refine blk_drew ?_ | refine blk_alloc ?_ _)); exact BK136.out⟩, ⟨by (with_reducible repeat (first | refine blk_drewN ?_ _ | refine blk_drew ?_ | refine blk_alloc ?_ _)); exact BK137.out⟩, ⟨by repeat (first | (with_reducible first | exact HB.out | apply below_alloc | apply pw_below_drewN | apply below_drew1 | refine below_set ?_ GE136.out | refine below_set ?_ GE137.out) | exact HB.out)⟩⟩
    · rw [if_neg c9] at H
      have c9b0 : decide (60 < (l0.length : Int)) = false := decide_eq_false c9
      have c9b1 : decide (60 < l0.length) = false := decide_eq_false (by omega)
      clear c9
      (first | rw [c9b0] | (simp only [i64_w, i32_w]; rw [c9b0]) | skip)
      replace H := Option.bind_eq_some_iff.mp H
      obtain ⟨t139, A110, H⟩ := H
      (try dsimp only at H)
      have A11 := Aside0.mk A110
      clear A110
      replace H := Option.bind_eq_some_iff.mp H
      obtain ⟨t140, A120, H⟩ := H
      (try dsimp only at H)
      have A12 := Aside0.mk A120
      clear A120
      have H' := Aside0.mk H
      clear H
      try go_wp2
      have n0_ := Aside0.mk (blk_drew BK136.out)
      have n1_ := Aside0.mk (blk_drew BK137.out)
      have n2_ := Aside0.mk (below_drew1 HB.out)
      clear BK136
      clear BK137
      clear HB
      have BK136 := n0_
      have BK137 := n1_
      have HB := n2_
      clear n0_ n1_ n2_
      refine start_ (n := 18) (S := fun w' => w'.cell? ⟨gb136, 0, none⟩ = some (.int .u64 a1_0) ∧ w'.cell? ⟨gb136, 1, none⟩ = some (.int .u64 a1_1) ∧ w'.cell? ⟨gb137, 0, none⟩ = some (.int .u64 a2_0) ∧ w'.cell? ⟨gb137, 1, none⟩ = some (.int .u64 a2_1)) (ds := []) #[fF, fF, fF, fF, fF, fF, fF, fF, fF, fF, fF, fF, fF, fF, fF, fF, fF, fF] (by kernel_rfl) rfl rfl ⟨(blk_cell BK136.out 0).trans rfl, (blk_cell BK136.out 1).trans rfl, (blk_cell BK137.out 0).trans rfl, (blk_cell BK137.out 1).trans rfl⟩ (fun hHeld => ?_); refine with_tabW bezantlaw02_SpanTells.tab2 bezantlaw02_SpanTells.bits2 (fun HT_ HW_ => ?_)
      generalize w8.drew = w13 at BK136 BK137 HB hHeld ⊢
      refine pure_ (i := 0) (N := some 20) (v := ?_) (a' := ?_) #[tT, fF, fF, fF, fF, fF, fF, fF, fF, fF, fF, fF, fF, fF, fF, fF, fF, fF] rfl rfl (any_of HT_.out (by kernel_rfl)) (fun _ _ _ h => h) (Or.inl ⟨by rfl, ?_⟩) ?_ ?_
      rotate_left
      · intro w'
        go_simp
        with_reducible rfl
      rotate_left
      · simp only [Act.put, sA, s0, s1, i64_w, i32_w]
        rfl
      refine pure_ (i := 1) (N := some 21) (v := ?_) (a' := ?_) #[tT, tT, fF, fF, fF, fF, fF, fF, fF, fF, fF, fF, fF, fF, fF, fF, fF, fF] rfl rfl (any_of HT_.out (by kernel_rfl)) (fun _ _ _ h => h) (Or.inl ⟨by rfl, ?_⟩) ?_ ?_
      rotate_left
      · intro w'
        go_simp
        with_reducible rfl
      rotate_left
      · simp only [Act.put, sA, s0, s1, i64_w, i32_w]
        rfl
      refine pure_ (i := 2) (N := some 22) (v := ?_) (a' := ?_) #[tT, tT, tT, fF, fF, fF, fF, fF, fF, fF, fF, fF, fF, fF, fF, fF, fF, fF] rfl rfl (any_of HT_.out (by kernel_rfl)) (fun _ _ _ h => h) (Or.inl ⟨by rfl, ?_⟩) ?_ ?_
      rotate_left
      · intro w'
        go_simp
        with_reducible rfl
      rotate_left
      · simp only [Act.put, sA, s0, s1, i64_w, i32_w]
        rfl
      refine pure_ (i := 3) (N := some 23) (v := ?_) (a' := ?_) #[tT, tT, tT, tT, fF, fF, fF, fF, fF, fF, fF, fF, fF, fF, fF, fF, fF, fF] rfl rfl (any_of HT_.out (by kernel_rfl)) (fun _ _ _ h => h) (Or.inl ⟨by rfl, ?_⟩) ?_ ?_
      rotate_left
      · intro w'
        go_simp
        with_reducible rfl
      rotate_left
      · simp only [Act.put, sA, s0, s1, i64_w, i32_w]
        rfl
      refine pure_ (i := 7) (N := some 27) (v := ?_) (a' := ?_) #[tT, tT, tT, tT, fF, fF, fF, tT, fF, fF, fF, fF, fF, fF, fF, fF, fF, fF] rfl rfl (any_of HT_.out (by kernel_rfl)) (fun _ _ _ h => h) (Or.inl ⟨by rfl, ?_⟩) ?_ ?_
      rotate_left
      · intro w'
        go_simp
        with_reducible rfl
      rotate_left
      · simp only [Act.put, sA, s0, s1, i64_w, i32_w]
        rfl
      refine pure_ (i := 9) (N := some 29) (v := ?_) (a' := ?_) #[tT, tT, tT, tT, fF, fF, fF, tT, fF, tT, fF, fF, fF, fF, fF, fF, fF, fF] rfl rfl (any_of HT_.out (by kernel_rfl)) (fun _ _ _ h => h) (Or.inl ⟨by rfl, ?_⟩) ?_ ?_
      rotate_left
      · intro w'
        go_simp
        with_reducible rfl
      rotate_left
      · simp only [Act.put, sA, s0, s1, i64_w, i32_w]
        rfl
      refine pure_ (i := 11) (N := some 31) (v := ?_) (a' := ?_) #[tT, tT, tT, tT, fF, fF, fF, tT, fF, tT, fF, tT, fF, fF, fF, fF, fF, fF] rfl rfl (any_of HT_.out (by kernel_rfl)) (fun _ _ _ h => h) (Or.inl ⟨by rfl, ?_⟩) ?_ ?_
      rotate_left
      · intro w'
        go_simp
        with_reducible rfl
      rotate_left
      · simp only [Act.put, sA, s0, s1, i64_w, i32_w]
        rfl
      refine pure_ (i := 13) (N := some 33) (v := ?_) (a' := ?_) #[tT, tT, tT, tT, fF, fF, fF, tT, fF, tT, fF, tT, fF, tT, fF, fF, fF, fF] rfl rfl (any_of HT_.out (by kernel_rfl)) (fun _ _ _ h => h) (Or.inl ⟨by rfl, ?_⟩) ?_ ?_
      rotate_left
      · intro w'
        go_simp
        with_reducible rfl
      rotate_left
      · simp only [Act.put, sA, s0, s1, i64_w, i32_w]
        rfl
      refine take_ (i := 4) (N := some 24) (v := ?_) (a' := ?_) #[tT, tT, tT, tT, tT, fF, fF, tT, fF, tT, fF, tT, fF, tT, fF, fF, fF, fF] rfl rfl (take_ofW HT_.out HW_.out (by kernel_rfl)) (fun _ _ _ h => h) (Or.inl ⟨by rfl, ?_⟩) hHeld ?_ ?_
      rotate_left
      · rintro w' ⟨s0, s1, s2, s3⟩
        go_simp
        with_reducible rfl
      rotate_left
      · simp only [Act.put, sA, s0, s1, i64_w, i32_w]
        rfl
      refine take_ (i := 5) (N := some 25) (v := ?_) (a' := ?_) #[tT, tT, tT, tT, tT, tT, fF, tT, fF, tT, fF, tT, fF, tT, fF, fF, fF, fF] rfl rfl (take_ofW HT_.out HW_.out (by kernel_rfl)) (fun _ _ _ h => h) (Or.inl ⟨by rfl, ?_⟩) hHeld ?_ ?_
      rotate_left
      · rintro w' ⟨s0, s1, s2, s3⟩
        go_simp
        with_reducible rfl
      rotate_left
      · simp only [Act.put, sA, s0, s1, i64_w, i32_w]
        rfl
      refine take_ (i := 8) (N := some 28) (v := ?_) (a' := ?_) #[tT, tT, tT, tT, tT, tT, fF, tT, tT, tT, fF, tT, fF, tT, fF, fF, fF, fF] rfl rfl (take_ofW HT_.out HW_.out (by kernel_rfl)) (fun _ _ _ h => h) (Or.inl ⟨by rfl, ?_⟩) hHeld ?_ ?_
      rotate_left
      · rintro w' ⟨s0, s1, s2, s3⟩
        go_simp
        with_reducible rfl
      rotate_left
      · simp only [Act.put, sA, s0, s1, i64_w, i32_w]
        rfl
      refine take_ (i := 10) (N := some 30) (v := ?_) (a' := ?_) #[tT, tT, tT, tT, tT, tT, fF, tT, tT, tT, tT, tT, fF, tT, fF, fF, fF, fF] rfl rfl (take_ofW HT_.out HW_.out (by kernel_rfl)) (fun _ _ _ h => h) (Or.inl ⟨by rfl, ?_⟩) hHeld ?_ ?_
      rotate_left
      · rintro w' ⟨s0, s1, s2, s3⟩
        go_simp
        with_reducible rfl
      rotate_left
      · simp only [Act.put, sA, s0, s1, i64_w, i32_w]
        rfl
      refine take_ (i := 12) (N := some 32) (v := ?_) (a' := ?_) #[tT, tT, tT, tT, tT, tT, fF, tT, tT, tT, tT, tT, tT, tT, fF, fF, fF, fF] rfl rfl (take_ofW HT_.out HW_.out (by kernel_rfl)) (fun _ _ _ h => h) (Or.inl ⟨by rfl, ?_⟩) hHeld ?_ ?_
      rotate_left
      · rintro w' ⟨s0, s1, s2, s3⟩
        go_simp
        with_reducible rfl
      rotate_left
      · simp only [Act.put, sA, s0, s1, i64_w, i32_w]
        rfl
      refine take_ (i := 14) (N := some 34) (v := ?_) (a' := ?_) #[tT, tT, tT, tT, tT, tT, fF, tT, tT, tT, tT, tT, tT, tT, tT, fF, fF, fF] rfl rfl (take_ofW HT_.out HW_.out (by kernel_rfl)) (fun _ _ _ h => h) (Or.inl ⟨by rfl, ?_⟩) hHeld ?_ ?_
      rotate_left
      · rintro w' ⟨s0, s1, s2, s3⟩
        go_simp
        with_reducible rfl
      rotate_left
      · simp only [Act.put, sA, s0, s1, i64_w, i32_w]
        rfl
      refine one_ (i := 6) (N := some 26) #[tT, tT, tT, tT, tT, tT, tT, tT, tT, tT, tT, tT, tT, tT, tT, fF, fF, fF] rfl rfl (one_of HT_.out (by kernel_rfl)) (by decide) (fun K hK => ?_)
      refine goes_ Try.func15 (by kernel_rfl) rfl #[.agg #[.int .u64 a1_0, .int .u64 a1_1], .agg #[.int .u64 a2_0, .int .u64 a2_1]] (by rfl) rfl rfl (by (try simp only [List.map_toArray, List.map_cons, List.map_nil]); first | done | rfl | (simp only [List.length_drop, List.length_take]; rfl)) ?_
      with_reducible refine (span_Meet.calls a1_0 a1_1 a2_0 a2_1 t139 _ A11.out).mono ?_
      rintro e w14 ⟨rfl, hb⟩
      refine ⟨_, rfl, ?_⟩
      have n0_ := Aside0.mk (blk_below (g := gb136) (o := .cells #[.int .u64 a1_0, .int .u64 a1_1] 25 (0, 0)) (by (with_reducible repeat (first | refine blk_drewN ?_ _ | refine blk_drew ?_ | refine blk_alloc ?_ _)); exact BK136.out) hb)
      have n1_ := Aside0.mk (blk_below (g := gb137) (o := .cells #[.int .u64 a2_0, .int .u64 a2_1] 25 (0, 0)) (by (with_reducible repeat (first | refine blk_drewN ?_ _ | refine blk_drew ?_ | refine blk_alloc ?_ _)); exact BK137.out) hb)
      have n2_ := Aside0.mk (below_step (by repeat (first | (with_reducible first | exact HB.out | apply below_alloc | apply pw_below_drewN | apply below_drew1 | refine below_set ?_ GE136.out | refine below_set ?_ GE137.out) | exact HB.out)) hb)
      clear BK136
      clear BK137
      clear HB
      have BK136 := n0_
      have BK137 := n1_
      have HB := n2_
      clear n0_ n1_ n2_
      (try clear hb)
      (try clear hb2)
      (try clear hk)
      (try clear hi)
      refine hK.out _ _ ⟨(blk_cell BK136.out 0).trans rfl, (blk_cell BK136.out 1).trans rfl, (blk_cell BK137.out 0).trans rfl, (blk_cell BK137.out 1).trans rfl⟩ (fun hHeld => ?_)
      clear hK K
      refine norm_ (a' := ?_) ?_ ?_
      rotate_left
      · show Act.put _ (some 26) _ = _
        simp only [Act.put, sA, s0, s1, i64_w, i32_w]
        rfl
      refine one_ (i := 15) (N := some 35) #[tT, tT, tT, tT, tT, tT, tT, tT, tT, tT, tT, tT, tT, tT, tT, tT, fF, fF] rfl rfl (one_of HT_.out (by kernel_rfl)) (by decide) (fun K hK => ?_)
      refine goes_ Try.func16 (by kernel_rfl) rfl #[.int .u64 a1_0, .int .u64 a1_1, .int .u64 a2_0, .int .u64 a2_1] (by rfl) rfl rfl (by (try simp only [List.map_toArray, List.map_cons, List.map_nil]); first | done | rfl | (simp only [List.length_drop, List.length_take]; rfl)) ?_
      with_reducible refine (bezantref01_Meet.calls k a1_0 a1_1 a2_0 a2_1 t140 _ A12.out).mono ?_
      rintro e w' ⟨rfl, ⟨nd, rfl⟩⟩
      refine ⟨_, rfl, ?_⟩
      refine hK.out _ _ ⟨(blk_cell BK136.out 0).trans rfl, (blk_cell BK136.out 1).trans rfl, (blk_cell BK137.out 0).trans rfl, (blk_cell BK137.out 1).trans rfl⟩ (fun hHeld => ?_)
      clear hK K
      refine norm_ (a' := ?_) ?_ ?_
      rotate_left
      · show Act.put _ (some 35) _ = _
        simp only [Act.put, sA, s0, s1, i64_w, i32_w]
        rfl
      refine pure_ (i := 16) (N := some 36) (v := ?_) (a' := ?_) #[tT, tT, tT, tT, tT, tT, tT, tT, tT, tT, tT, tT, tT, tT, tT, tT, tT, fF] rfl rfl (any_of HT_.out (by kernel_rfl)) (fun _ _ _ h => h) (Or.inl ⟨by rfl, ?_⟩) ?_ ?_
      rotate_left
      · intro w'
        go_simp
        with_reducible rfl
      rotate_left
      · simp only [Act.put, sA, s0, s1, i64_w, i32_w]
        rfl
      refine pure_ (i := 17) (N := some 37) (v := ?_) (a' := ?_) #[tT, tT, tT, tT, tT, tT, tT, tT, tT, tT, tT, tT, tT, tT, tT, tT, tT, tT] rfl rfl (any_of HT_.out (by kernel_rfl)) (fun _ _ _ h => h) (Or.inl ⟨by rfl, ?_⟩) ?_ ?_
      rotate_left
      · intro w'
        go_simp
        with_reducible rfl
      rotate_left
      · simp only [Act.put, sA, s0, s1, i64_w, i32_w]
        rfl
      refine done_ (done_of HT_.out (by kernel_rfl)) ?_
      try go_wp2
      go_meet
      case rel => exact ⟨_, ((t139 != t140)), (by first | rfl | (simp; done) | (simp [*]; done)), H', ⟨by first | omega | exact Nat.le_refl _⟩, ⟨by (with_reducible repeat (first | refine blk_drewN ?_ _ | refine blk_drew ?_ | refine blk_alloc ?_ _)); exact BK136.out⟩, ⟨by (with_reducible repeat (first | refine blk_drewN ?_ _ | refine blk_drew ?_ | refine blk_alloc ?_ _)); exact BK137.out⟩, ⟨by repeat (first | (with_reducible first | exact HB.out | apply below_alloc | apply pw_below_drewN | apply below_drew1 | refine below_set ?_ GE136.out | refine below_set ?_ GE137.out) | exact HB.out)⟩⟩
  case rest =>
    clear HC5
    try clear c1
    try clear p2
    try clear c3
    try clear c9
    try clear c9b0
    try clear c9b1
    try clear c14
    obtain ⟨kq, x37_4, rfl, HA, HJ4, BK136, BK137, HB⟩ := hcut
    cases kq with
    | zero => exact absurd HA.out (by simp [bezantlaw02_SpanTells.j0])
    | succ kj4 =>
      have H := HA.out
      clear HA
      simp only [bezantlaw02_SpanTells.j0] at H
      by_cases c15 : x37_4 = true
      · subst c15
        rw [if_pos rfl] at H
        by_cases c16 : t138 = true
        · subst c16
          rw [if_pos rfl] at H
          obtain rfl := Option.some.inj H
          go_wp2
          go_ret
          exact ⟨by first | rfl | (simp [errW_none, errW_some] <;> rfl) | (simp [*, errW_none, errW_some] <;> rfl), by repeat (first | (with_reducible first | exact HB.out | apply below_alloc | apply pw_below_drewN | apply below_drew1 | refine below_set ?_ GE136.out | refine below_set ?_ GE137.out) | exact HB.out)⟩
        · replace c16 := Bool.eq_false_iff.mpr c16
          subst c16
          rw [if_neg (show ¬ (false = true) by decide)] at H
          exact absurd H (by simp)
      · replace c15 := Bool.eq_false_iff.mpr c15
        subst c15
        rw [if_neg (show ¬ (false = true) by decide)] at H
        have H' := Aside0.mk H
        clear H
        go_wp2
        go_loopg [8, 9, 10, 11, 12] kj4 (fun kq v8 v9 v10 v11 v12 w' => ∃ (x8_2 : Int) (x9_2 : Int) (x10_2 : Bool) (x11_2 : Bool) (x12_2 : Int), v8 = .int .i64 x8_2 ∧ v9 = .int .i64 x9_2 ∧ v10 = .bool x10_2 ∧ v11 = .bool x11_2 ∧ v12 = .int .i64 x12_2 ∧ Aside0 (bezantlaw02_SpanTells.l0 kq l0 t138 x8_2 x9_2 x10_2 x11_2 x12_2 = some r) ∧ Aside0 (kq ≤ kj4) ∧ Aside0 (w'.heap[gb136]? = some (.cells #[.int .u64 a1_0, .int .u64 a1_1] 25 (0, 0))) ∧ Aside0 (w'.heap[gb137]? = some (.cells #[.int .u64 a2_0, .int .u64 a2_1] 25 (0, 0))) ∧ Aside0 (Below w.heap.size w w'))
        case atStart => exact ⟨(0), (0), (false), (true), (0), (by first | rfl | (simp; done) | (simp [*]; done)), (by first | rfl | (simp; done) | (simp [*]; done)), (by first | rfl | (simp; done) | (simp [*]; done)), (by first | rfl | (simp; done) | (simp [*]; done)), (by first | rfl | (simp; done) | (simp [*]; done)), H', ⟨Nat.le_refl _⟩, ⟨by (with_reducible repeat (first | refine blk_drewN ?_ _ | refine blk_drew ?_ | refine blk_alloc ?_ _)); exact BK136.out⟩, ⟨by (with_reducible repeat (first | refine blk_drewN ?_ _ | refine blk_drew ?_ | refine blk_alloc ?_ _)); exact BK137.out⟩, ⟨by repeat (first | (with_reducible first | exact HB.out | apply below_alloc | apply pw_below_drewN | apply below_drew1 | refine below_set ?_ GE136.out | refine below_set ?_ GE137.out) | exact HB.out)⟩⟩
        case round =>
          clear H'
          try clear c1
          try clear p2
          try clear c3
          try clear c9
          try clear c9b0
          try clear c9b1
          try clear c14
          try clear c15
          try clear c16
          try clear p2
          obtain ⟨x8_2, x9_2, x10_2, x11_2, x12_2, rfl, rfl, rfl, rfl, rfl, HA, HK2, BK136, BK137, HB⟩ := hrel
          cases gk with
          | zero => exact absurd HA.out (by simp [bezantlaw02_SpanTells.l0])
          | succ k2 =>
            have H := HA.out
            clear HA
            simp only [bezantlaw02_SpanTells.l0] at H
            by_cases c17 : x12_2 < (l0.length : Int)
            · rw [if_pos c17] at H
              have c17b0 : decide (x12_2 < (l0.length : Int)) = true := decide_eq_true c17
              clear c17
              have H' := Aside0.mk H
              clear H
              go_wp2
              go_loopg [8, 9, 10, 11, 13] k2 (fun kq v8 v9 v10 v11 v13 w' => ∃ (x8_3 : Int) (x9_3 : Int) (x10_3 : Bool) (x11_3 : Bool) (x13_3 : Int), v8 = .int .i64 x8_3 ∧ v9 = .int .i64 x9_3 ∧ v10 = .bool x10_3 ∧ v11 = .bool x11_3 ∧ v13 = .int .i64 x13_3 ∧ Aside0 (bezantlaw02_SpanTells.l1 kq l0 t138 x8_3 x9_3 x10_3 x11_3 x12_2 x13_3 = some r) ∧ Aside0 (kq ≤ k2) ∧ Aside0 (w'.heap[gb136]? = some (.cells #[.int .u64 a1_0, .int .u64 a1_1] 25 (0, 0))) ∧ Aside0 (w'.heap[gb137]? = some (.cells #[.int .u64 a2_0, .int .u64 a2_1] 25 (0, 0))) ∧ Aside0 (Below w.heap.size w w'))
              case atStart => exact ⟨(x8_2), (x9_2), (x10_2), (x11_2), (0), (by first | rfl | (simp; done) | (simp [*]; done)), (by first | rfl | (simp; done) | (simp [*]; done)), (by first | rfl | (simp; done) | (simp [*]; done)), (by first | rfl | (simp; done) | (simp [*]; done)), (by first | rfl | (simp; done) | (simp [*]; done)), H', ⟨Nat.le_refl _⟩, ⟨by (with_reducible repeat (first | refine blk_drewN ?_ _ | refine blk_drew ?_ | refine blk_alloc ?_ _)); exact BK136.out⟩, ⟨by (with_reducible repeat (first | refine blk_drewN ?_ _ | refine blk_drew ?_ | refine blk_alloc ?_ _)); exact BK137.out⟩, ⟨by repeat (first | (with_reducible first | exact HB.out | apply below_alloc | apply pw_below_drewN | apply below_drew1 | refine below_set ?_ GE136.out | refine below_set ?_ GE137.out) | exact HB.out)⟩⟩
              case round =>
                clear H'
                try clear c1
                try clear p2
                try clear c3
                try clear c9
                try clear c9b0
                try clear c9b1
                try clear c14
                try clear c15
                try clear c16
                try clear c17
                try clear c17b0
                try clear p2
                obtain ⟨x8_3, x9_3, x10_3, x11_3, x13_3, rfl, rfl, rfl, rfl, rfl, HA, HK3, BK136, BK137, HB⟩ := hrel
                cases gk with
                | zero => exact absurd HA.out (by simp [bezantlaw02_SpanTells.l1])
                | succ k3 =>
                  have H := HA.out
                  clear HA
                  simp only [bezantlaw02_SpanTells.l1] at H
                  by_cases c18 : x13_3 < x12_2
                  · rw [if_pos c18] at H
                    have c18b0 : decide (x13_3 < x12_2) = true := decide_eq_true c18
                    clear c18
                    by_cases c19 : 0 ≤ x13_3
                    · rw [if_pos c19] at H
                      have c19b0 : decide (0 ≤ x13_3) = true := decide_eq_true c19
                      clear c19
                      by_cases c20 : x13_3 < (l0.length : Int)
                      · rw [if_pos c20] at H
                        have c20b0 : decide (x13_3 < (l0.length : Int)) = true := decide_eq_true c20
                        clear c20
                        by_cases c21 : 0 ≤ x12_2
                        · rw [if_pos c21] at H
                          have c21b0 : decide (0 ≤ x12_2) = true := decide_eq_true c21
                          clear c21
                          by_cases c22 : x12_2 < (l0.length : Int)
                          · rw [if_pos c22] at H
                            have c22b0 : decide (x12_2 < (l0.length : Int)) = true := decide_eq_true c22
                            clear c22
                            replace H := Option.bind_eq_some_iff.mp H
                            obtain ⟨t149, A230, H⟩ := H
                            (try dsimp only at H)
                            have A23 := Aside0.mk A230
                            clear A230
                            by_cases c24 : t149 = true
                            · subst c24
                              rw [if_pos rfl] at H
                              by_cases c25 : x10_3 = true
                              · subst c25
                                rw [if_pos rfl] at H
                                replace H := Option.bind_eq_some_iff.mp H
                                obtain ⟨t153, A260, H⟩ := H
                                (try dsimp only at H)
                                have A26 := Aside0.mk A260
                                clear A260
                                by_cases c27 : x11_3 = true
                                · subst c27
                                  rw [if_pos rfl] at H
                                  have H' := Aside0.mk H
                                  clear H
                                  try go_wp2
                                  have n0_ := Aside0.mk (blk_drew BK136.out)
                                  have n1_ := Aside0.mk (blk_drew BK137.out)
                                  have n2_ := Aside0.mk (below_drew1 HB.out)
                                  clear BK136
                                  clear BK137
                                  clear HB
                                  have BK136 := n0_
                                  have BK137 := n1_
                                  have HB := n2_
                                  clear n0_ n1_ n2_
                                  have p145 : 0 ≤ (x13_3 : Int) := of_decide_eq_true (by first | (with_reducible assumption) | assumption)
                                  have q145 : x13_3 < (l0.length : Int) := of_decide_eq_true (by first | (with_reducible assumption) | assumption)
                                  obtain ⟨ad145, e145, hx145_0, hx145_1⟩ := at_T25 HR0.out x13_3 p145 q145
                                  have hw145_1 := hx145_1
                                  have hw145_0 := hx145_0
                                  cases e145
                                  replace hx145_0 := (HB.out.cell (World.block_lt_of_cell? w _ hx145_0)).trans hx145_0
                                  replace hx145_1 := (HB.out.cell (World.block_lt_of_cell? w _ hx145_1)).trans hx145_1
                                  replace p145 := eq_true p145
                                  replace q145 := eq_true q145
                                  have p146 : 0 ≤ (x13_3 : Int) := of_decide_eq_true (by first | (with_reducible assumption) | assumption)
                                  have q146 : x13_3 < (l0.length : Int) := of_decide_eq_true (by first | (with_reducible assumption) | assumption)
                                  obtain ⟨ad146, e146, hx146_0, hx146_1⟩ := at_T25 HR0.out x13_3 p146 q146
                                  have hw146_1 := hx146_1
                                  have hw146_0 := hx146_0
                                  obtain rfl : ad145 = ad146 := (by injection e146)
                                  replace hx146_0 := (HB.out.cell (World.block_lt_of_cell? w _ hx146_0)).trans hx146_0
                                  replace hx146_1 := (HB.out.cell (World.block_lt_of_cell? w _ hx146_1)).trans hx146_1
                                  replace p146 := eq_true p146
                                  replace q146 := eq_true q146
                                  have p147 : 0 ≤ (x12_2 : Int) := of_decide_eq_true (by first | (with_reducible assumption) | assumption)
                                  have q147 : x12_2 < (l0.length : Int) := of_decide_eq_true (by first | (with_reducible assumption) | assumption)
                                  obtain ⟨ad147, e147, hx147_0, hx147_1⟩ := at_T25 HR0.out x12_2 p147 q147
                                  have hw147_1 := hx147_1
                                  have hw147_0 := hx147_0
                                  obtain rfl : ad145 = ad147 := (by injection e147)
                                  replace hx147_0 := (HB.out.cell (World.block_lt_of_cell? w _ hx147_0)).trans hx147_0
                                  replace hx147_1 := (HB.out.cell (World.block_lt_of_cell? w _ hx147_1)).trans hx147_1
                                  replace p147 := eq_true p147
                                  replace q147 := eq_true q147
                                  have p148 : 0 ≤ (x12_2 : Int) := of_decide_eq_true (by first | (with_reducible assumption) | assumption)
                                  have q148 : x12_2 < (l0.length : Int) := of_decide_eq_true (by first | (with_reducible assumption) | assumption)
                                  obtain ⟨ad148, e148, hx148_0, hx148_1⟩ := at_T25 HR0.out x12_2 p148 q148
                                  have hw148_1 := hx148_1
                                  have hw148_0 := hx148_0
                                  obtain rfl : ad145 = ad148 := (by injection e148)
                                  replace hx148_0 := (HB.out.cell (World.block_lt_of_cell? w _ hx148_0)).trans hx148_0
                                  replace hx148_1 := (HB.out.cell (World.block_lt_of_cell? w _ hx148_1)).trans hx148_1
                                  replace p148 := eq_true p148
                                  replace q148 := eq_true q148
                                  refine start_ (n := 22) (S := fun w' => w'.cell? (ad145.add ((x13_3).toNat * 2)) = some (.int .u64 ((rd_T25 l0 x13_3).f0)) ∧ w'.cell? ⟨(ad145.add ((x13_3).toNat * 2)).block, (ad145.add ((x13_3).toNat * 2)).off + 1, none⟩ = some (.int .u64 ((rd_T25 l0 x13_3).f1)) ∧ w'.cell? (ad145.add ((x13_3).toNat * 2)) = some (.int .u64 ((rd_T25 l0 x13_3).f0)) ∧ w'.cell? ⟨(ad145.add ((x13_3).toNat * 2)).block, (ad145.add ((x13_3).toNat * 2)).off + 1, none⟩ = some (.int .u64 ((rd_T25 l0 x13_3).f1)) ∧ w'.cell? (ad145.add ((x12_2).toNat * 2)) = some (.int .u64 ((rd_T25 l0 x12_2).f0)) ∧ w'.cell? ⟨(ad145.add ((x12_2).toNat * 2)).block, (ad145.add ((x12_2).toNat * 2)).off + 1, none⟩ = some (.int .u64 ((rd_T25 l0 x12_2).f1)) ∧ w'.cell? (ad145.add ((x12_2).toNat * 2)) = some (.int .u64 ((rd_T25 l0 x12_2).f0)) ∧ w'.cell? ⟨(ad145.add ((x12_2).toNat * 2)).block, (ad145.add ((x12_2).toNat * 2)).off + 1, none⟩ = some (.int .u64 ((rd_T25 l0 x12_2).f1))) (ds := []) #[fF, fF, fF, fF, fF, fF, fF, fF, fF, fF, fF, fF, fF, fF, fF, fF, fF, fF, fF, fF, fF, fF] (by kernel_rfl) rfl rfl ⟨((HB.out.cell (World.block_lt_of_cell? w _ hw145_0)).trans hw145_0), ((HB.out.cell (World.block_lt_of_cell? w _ hw145_1)).trans hw145_1), ((HB.out.cell (World.block_lt_of_cell? w _ hw146_0)).trans hw146_0), ((HB.out.cell (World.block_lt_of_cell? w _ hw146_1)).trans hw146_1), ((HB.out.cell (World.block_lt_of_cell? w _ hw147_0)).trans hw147_0), ((HB.out.cell (World.block_lt_of_cell? w _ hw147_1)).trans hw147_1), ((HB.out.cell (World.block_lt_of_cell? w _ hw148_0)).trans hw148_0), ((HB.out.cell (World.block_lt_of_cell? w _ hw148_1)).trans hw148_1)⟩ (fun hHeld => ?_); refine with_tabW bezantlaw02_SpanTells.tab14 bezantlaw02_SpanTells.bits14 (fun HT_ HW_ => ?_)
                                  generalize wr.drew = w28 at BK136 BK137 HB hx145_0 hx145_1 hx146_0 hx146_1 hx147_0 hx147_1 hx148_0 hx148_1 hHeld ⊢
                                  refine pure_ (i := 0) (N := some 55) (v := ?_) (a' := ?_) #[tT, fF, fF, fF, fF, fF, fF, fF, fF, fF, fF, fF, fF, fF, fF, fF, fF, fF, fF, fF, fF, fF] rfl rfl (any_of HT_.out (by kernel_rfl)) (fun _ _ _ h => h) (Or.inl ⟨by rfl, ?_⟩) ?_ ?_
                                  rotate_left
                                  · intro w'
                                    go_simp
                                    with_reducible rfl
                                  rotate_left
                                  · simp only [Act.put, sA, s0, s1, i64_w, i32_w]
                                    rfl
                                  refine pure_ (i := 1) (N := some 56) (v := ?_) (a' := ?_) #[tT, tT, fF, fF, fF, fF, fF, fF, fF, fF, fF, fF, fF, fF, fF, fF, fF, fF, fF, fF, fF, fF] rfl rfl (any_of HT_.out (by kernel_rfl)) (fun _ _ _ h => h) (Or.inl ⟨by rfl, ?_⟩) ?_ ?_
                                  rotate_left
                                  · intro w'
                                    go_simp
                                    with_reducible rfl
                                  rotate_left
                                  · simp only [Act.put, sA, s0, s1, i64_w, i32_w]
                                    rfl
                                  refine pure_ (i := 2) (N := some 57) (v := ?_) (a' := ?_) #[tT, tT, tT, fF, fF, fF, fF, fF, fF, fF, fF, fF, fF, fF, fF, fF, fF, fF, fF, fF, fF, fF] rfl rfl (any_of HT_.out (by kernel_rfl)) (fun _ _ _ h => h) (Or.inl ⟨by rfl, ?_⟩) ?_ ?_
                                  rotate_left
                                  · intro w'
                                    go_simp
                                    with_reducible rfl
                                  rotate_left
                                  · simp only [Act.put, sA, s0, s1, i64_w, i32_w]
                                    rfl
                                  refine pure_ (i := 3) (N := some 58) (v := ?_) (a' := ?_) #[tT, tT, tT, tT, fF, fF, fF, fF, fF, fF, fF, fF, fF, fF, fF, fF, fF, fF, fF, fF, fF, fF] rfl rfl (any_of HT_.out (by kernel_rfl)) (fun _ _ _ h => h) (Or.inl ⟨by rfl, ?_⟩) ?_ ?_
                                  rotate_left
                                  · intro w'
                                    go_simp
                                    with_reducible rfl
                                  rotate_left
                                  · simp only [Act.put, sA, s0, s1, i64_w, i32_w]
                                    rfl
                                  refine pure_ (i := 5) (N := some 60) (v := ?_) (a' := ?_) #[tT, tT, tT, tT, fF, tT, fF, fF, fF, fF, fF, fF, fF, fF, fF, fF, fF, fF, fF, fF, fF, fF] rfl rfl (any_of HT_.out (by kernel_rfl)) (fun _ _ _ h => h) (Or.inl ⟨by rfl, ?_⟩) ?_ ?_
                                  rotate_left
                                  · intro w'
                                    go_simp
                                    with_reducible rfl
                                  rotate_left
                                  · simp only [Act.put, sA, s0, s1, i64_w, i32_w]
                                    rfl
                                  refine pure_ (i := 6) (N := some 61) (v := ?_) (a' := ?_) #[tT, tT, tT, tT, fF, tT, tT, fF, fF, fF, fF, fF, fF, fF, fF, fF, fF, fF, fF, fF, fF, fF] rfl rfl (any_of HT_.out (by kernel_rfl)) (fun _ _ _ h => h) (Or.inl ⟨by rfl, ?_⟩) ?_ ?_
                                  rotate_left
                                  · intro w'
                                    go_simp
                                    with_reducible rfl
                                  rotate_left
                                  · simp only [Act.put, sA, s0, s1, i64_w, i32_w]
                                    rfl
                                  refine pure_ (i := 7) (N := some 62) (v := ?_) (a' := ?_) #[tT, tT, tT, tT, fF, tT, tT, tT, fF, fF, fF, fF, fF, fF, fF, fF, fF, fF, fF, fF, fF, fF] rfl rfl (any_of HT_.out (by kernel_rfl)) (fun _ _ _ h => h) (Or.inl ⟨by rfl, ?_⟩) ?_ ?_
                                  rotate_left
                                  · intro w'
                                    go_simp
                                    with_reducible rfl
                                  rotate_left
                                  · simp only [Act.put, sA, s0, s1, i64_w, i32_w]
                                    rfl
                                  refine pure_ (i := 8) (N := some 63) (v := ?_) (a' := ?_) #[tT, tT, tT, tT, fF, tT, tT, tT, tT, fF, fF, fF, fF, fF, fF, fF, fF, fF, fF, fF, fF, fF] rfl rfl (any_of HT_.out (by kernel_rfl)) (fun _ _ _ h => h) (Or.inl ⟨by rfl, ?_⟩) ?_ ?_
                                  rotate_left
                                  · intro w'
                                    go_simp
                                    with_reducible rfl
                                  rotate_left
                                  · simp only [Act.put, sA, s0, s1, i64_w, i32_w]
                                    rfl
                                  refine pure_ (i := 10) (N := some 65) (v := ?_) (a' := ?_) #[tT, tT, tT, tT, fF, tT, tT, tT, tT, fF, tT, fF, fF, fF, fF, fF, fF, fF, fF, fF, fF, fF] rfl rfl (any_of HT_.out (by kernel_rfl)) (fun _ _ _ h => h) (Or.inl ⟨by rfl, ?_⟩) ?_ ?_
                                  rotate_left
                                  · intro w'
                                    go_simp
                                    with_reducible rfl
                                  rotate_left
                                  · simp only [Act.put, sA, s0, s1, i64_w, i32_w]
                                    rfl
                                  refine pure_ (i := 11) (N := some 66) (v := ?_) (a' := ?_) #[tT, tT, tT, tT, fF, tT, tT, tT, tT, fF, tT, tT, fF, fF, fF, fF, fF, fF, fF, fF, fF, fF] rfl rfl (any_of HT_.out (by kernel_rfl)) (fun _ _ _ h => h) (Or.inl ⟨by rfl, ?_⟩) ?_ ?_
                                  rotate_left
                                  · intro w'
                                    go_simp
                                    with_reducible rfl
                                  rotate_left
                                  · simp only [Act.put, sA, s0, s1, i64_w, i32_w]
                                    rfl
                                  refine pure_ (i := 12) (N := some 67) (v := ?_) (a' := ?_) #[tT, tT, tT, tT, fF, tT, tT, tT, tT, fF, tT, tT, tT, fF, fF, fF, fF, fF, fF, fF, fF, fF] rfl rfl (any_of HT_.out (by kernel_rfl)) (fun _ _ _ h => h) (Or.inl ⟨by rfl, ?_⟩) ?_ ?_
                                  rotate_left
                                  · intro w'
                                    go_simp
                                    with_reducible rfl
                                  rotate_left
                                  · simp only [Act.put, sA, s0, s1, i64_w, i32_w]
                                    rfl
                                  refine pure_ (i := 13) (N := some 68) (v := ?_) (a' := ?_) #[tT, tT, tT, tT, fF, tT, tT, tT, tT, fF, tT, tT, tT, tT, fF, fF, fF, fF, fF, fF, fF, fF] rfl rfl (any_of HT_.out (by kernel_rfl)) (fun _ _ _ h => h) (Or.inl ⟨by rfl, ?_⟩) ?_ ?_
                                  rotate_left
                                  · intro w'
                                    go_simp
                                    with_reducible rfl
                                  rotate_left
                                  · simp only [Act.put, sA, s0, s1, i64_w, i32_w]
                                    rfl
                                  refine pure_ (i := 15) (N := some 70) (v := ?_) (a' := ?_) #[tT, tT, tT, tT, fF, tT, tT, tT, tT, fF, tT, tT, tT, tT, fF, tT, fF, fF, fF, fF, fF, fF] rfl rfl (any_of HT_.out (by kernel_rfl)) (fun _ _ _ h => h) (Or.inl ⟨by rfl, ?_⟩) ?_ ?_
                                  rotate_left
                                  · intro w'
                                    go_simp
                                    with_reducible rfl
                                  rotate_left
                                  · simp only [Act.put, sA, s0, s1, i64_w, i32_w]
                                    rfl
                                  refine pure_ (i := 16) (N := some 71) (v := ?_) (a' := ?_) #[tT, tT, tT, tT, fF, tT, tT, tT, tT, fF, tT, tT, tT, tT, fF, tT, tT, fF, fF, fF, fF, fF] rfl rfl (any_of HT_.out (by kernel_rfl)) (fun _ _ _ h => h) (Or.inl ⟨by rfl, ?_⟩) ?_ ?_
                                  rotate_left
                                  · intro w'
                                    go_simp
                                    with_reducible rfl
                                  rotate_left
                                  · simp only [Act.put, sA, s0, s1, i64_w, i32_w]
                                    rfl
                                  refine pure_ (i := 17) (N := some 72) (v := ?_) (a' := ?_) #[tT, tT, tT, tT, fF, tT, tT, tT, tT, fF, tT, tT, tT, tT, fF, tT, tT, tT, fF, fF, fF, fF] rfl rfl (any_of HT_.out (by kernel_rfl)) (fun _ _ _ h => h) (Or.inl ⟨by rfl, ?_⟩) ?_ ?_
                                  rotate_left
                                  · intro w'
                                    go_simp
                                    with_reducible rfl
                                  rotate_left
                                  · simp only [Act.put, sA, s0, s1, i64_w, i32_w]
                                    rfl
                                  refine pure_ (i := 18) (N := some 73) (v := ?_) (a' := ?_) #[tT, tT, tT, tT, fF, tT, tT, tT, tT, fF, tT, tT, tT, tT, fF, tT, tT, tT, tT, fF, fF, fF] rfl rfl (any_of HT_.out (by kernel_rfl)) (fun _ _ _ h => h) (Or.inl ⟨by rfl, ?_⟩) ?_ ?_
                                  rotate_left
                                  · intro w'
                                    go_simp
                                    with_reducible rfl
                                  rotate_left
                                  · simp only [Act.put, sA, s0, s1, i64_w, i32_w]
                                    rfl
                                  refine take_ (i := 4) (N := some 59) (v := ?_) (a' := ?_) #[tT, tT, tT, tT, tT, tT, tT, tT, tT, fF, tT, tT, tT, tT, fF, tT, tT, tT, tT, fF, fF, fF] rfl rfl (take_ofW HT_.out HW_.out (by kernel_rfl)) (fun _ _ _ h => h) (Or.inl ⟨by rfl, ?_⟩) hHeld ?_ ?_
                                  rotate_left
                                  · rintro w' ⟨s0, s1, s2, s3, s4, s5, s6, s7⟩
                                    go_simp
                                    with_reducible rfl
                                  rotate_left
                                  · simp only [Act.put, sA, s0, s1, i64_w, i32_w]
                                    rfl
                                  refine take_ (i := 9) (N := some 64) (v := ?_) (a' := ?_) #[tT, tT, tT, tT, tT, tT, tT, tT, tT, tT, tT, tT, tT, tT, fF, tT, tT, tT, tT, fF, fF, fF] rfl rfl (take_ofW HT_.out HW_.out (by kernel_rfl)) (fun _ _ _ h => h) (Or.inl ⟨by rfl, ?_⟩) hHeld ?_ ?_
                                  rotate_left
                                  · rintro w' ⟨s0, s1, s2, s3, s4, s5, s6, s7⟩
                                    go_simp
                                    with_reducible rfl
                                  rotate_left
                                  · simp only [Act.put, sA, s0, s1, i64_w, i32_w]
                                    rfl
                                  refine take_ (i := 14) (N := some 69) (v := ?_) (a' := ?_) #[tT, tT, tT, tT, tT, tT, tT, tT, tT, tT, tT, tT, tT, tT, tT, tT, tT, tT, tT, fF, fF, fF] rfl rfl (take_ofW HT_.out HW_.out (by kernel_rfl)) (fun _ _ _ h => h) (Or.inl ⟨by rfl, ?_⟩) hHeld ?_ ?_
                                  rotate_left
                                  · rintro w' ⟨s0, s1, s2, s3, s4, s5, s6, s7⟩
                                    go_simp
                                    with_reducible rfl
                                  rotate_left
                                  · simp only [Act.put, sA, s0, s1, i64_w, i32_w]
                                    rfl
                                  refine take_ (i := 19) (N := some 74) (v := ?_) (a' := ?_) #[tT, tT, tT, tT, tT, tT, tT, tT, tT, tT, tT, tT, tT, tT, tT, tT, tT, tT, tT, tT, fF, fF] rfl rfl (take_ofW HT_.out HW_.out (by kernel_rfl)) (fun _ _ _ h => h) (Or.inl ⟨by rfl, ?_⟩) hHeld ?_ ?_
                                  rotate_left
                                  · rintro w' ⟨s0, s1, s2, s3, s4, s5, s6, s7⟩
                                    go_simp
                                    with_reducible rfl
                                  rotate_left
                                  · simp only [Act.put, sA, s0, s1, i64_w, i32_w]
                                    rfl
                                  refine one_ (i := 20) (N := some 75) #[tT, tT, tT, tT, tT, tT, tT, tT, tT, tT, tT, tT, tT, tT, tT, tT, tT, tT, tT, tT, tT, fF] rfl rfl (one_of HT_.out (by kernel_rfl)) (by decide) (fun K hK => ?_)
                                  refine goes_ Try.func16 (by kernel_rfl) rfl #[.int .u64 ((rd_T25 l0 x13_3).f0), .int .u64 ((rd_T25 l0 x13_3).f1), .int .u64 ((rd_T25 l0 x12_2).f0), .int .u64 ((rd_T25 l0 x12_2).f1)] (by rfl) rfl rfl (by (try simp only [List.map_toArray, List.map_cons, List.map_nil]); first | done | rfl | (simp only [List.length_drop, List.length_take]; rfl)) ?_
                                  with_reducible refine (bezantref01_Meet.calls k3 ((rd_T25 l0 x13_3).f0) ((rd_T25 l0 x13_3).f1) ((rd_T25 l0 x12_2).f0) ((rd_T25 l0 x12_2).f1) true _ A23.out).mono ?_
                                  rintro e w' ⟨rfl, ⟨nd, rfl⟩⟩
                                  refine ⟨_, rfl, ?_⟩
                                  refine hK.out _ _ ⟨((HB.out.cell (World.block_lt_of_cell? w _ hw145_0)).trans hw145_0), ((HB.out.cell (World.block_lt_of_cell? w _ hw145_1)).trans hw145_1), ((HB.out.cell (World.block_lt_of_cell? w _ hw146_0)).trans hw146_0), ((HB.out.cell (World.block_lt_of_cell? w _ hw146_1)).trans hw146_1), ((HB.out.cell (World.block_lt_of_cell? w _ hw147_0)).trans hw147_0), ((HB.out.cell (World.block_lt_of_cell? w _ hw147_1)).trans hw147_1), ((HB.out.cell (World.block_lt_of_cell? w _ hw148_0)).trans hw148_0), ((HB.out.cell (World.block_lt_of_cell? w _ hw148_1)).trans hw148_1)⟩ (fun hHeld => ?_)
                                  clear hK K
                                  refine norm_ (a' := ?_) ?_ ?_
                                  rotate_left
                                  · show Act.put _ (some 75) _ = _
                                    simp only [Act.put, sA, s0, s1, i64_w, i32_w]
                                    rfl
                                  refine pure_ (i := 21) (N := some 14) (v := ?_) (a' := ?_) #[tT, tT, tT, tT, tT, tT, tT, tT, tT, tT, tT, tT, tT, tT, tT, tT, tT, tT, tT, tT, tT, tT] rfl rfl (any_of HT_.out (by kernel_rfl)) (fun _ _ _ h => h) (Or.inl ⟨by rfl, ?_⟩) ?_ ?_
                                  rotate_left
                                  · intro w'
                                    go_simp
                                    with_reducible rfl
                                  rotate_left
                                  · simp only [Act.put, sA, s0, s1, i64_w, i32_w]
                                    rfl
                                  refine done_ (done_of HT_.out (by kernel_rfl)) ?_
                                  try go_wp2
                                  (try (rw [drewN_self w28]; generalize hq_ : World.drewN w28 _ = w28; have n0_ : Aside0 (w28.heap[gb136]? = some (.cells #[.int .u64 a1_0, .int .u64 a1_1] 25 (0, 0))) := ⟨by rw [← hq_]; exact (by (with_reducible repeat (first | refine blk_drewN ?_ _ | refine blk_drew ?_ | refine blk_alloc ?_ _)); exact BK136.out)⟩; have n1_ : Aside0 (w28.heap[gb137]? = some (.cells #[.int .u64 a2_0, .int .u64 a2_1] 25 (0, 0))) := ⟨by rw [← hq_]; exact (by (with_reducible repeat (first | refine blk_drewN ?_ _ | refine blk_drew ?_ | refine blk_alloc ?_ _)); exact BK137.out)⟩; have n2_ : Aside0 (Below w.heap.size w w28) := ⟨by rw [← hq_]; exact (by repeat (first | (with_reducible first | exact HB.out | apply below_alloc | apply pw_below_drewN | apply below_drew1 | refine below_set ?_ GE136.out | refine below_set ?_ GE137.out) | exact HB.out))⟩; clear BK136 BK137 HB hq_; have BK136 := n0_; have BK137 := n1_; have HB := n2_; clear n0_ n1_ n2_))
                                  have n0_ := Aside0.mk (blk_drew BK136.out)
                                  have n1_ := Aside0.mk (blk_drew BK137.out)
                                  have n2_ := Aside0.mk (below_drew1 HB.out)
                                  clear BK136
                                  clear BK137
                                  clear HB
                                  have BK136 := n0_
                                  have BK137 := n1_
                                  have HB := n2_
                                  clear n0_ n1_ n2_
                                  have p150 : 0 ≤ (x13_3 : Int) := of_decide_eq_true (by first | (with_reducible assumption) | assumption)
                                  have q150 : x13_3 < (l0.length : Int) := of_decide_eq_true (by first | (with_reducible assumption) | assumption)
                                  obtain ⟨ad150, e150, hx150_0, hx150_1⟩ := at_T25 HR0.out x13_3 p150 q150
                                  have hw150_1 := hx150_1
                                  have hw150_0 := hx150_0
                                  obtain rfl : ad145 = ad150 := (by injection e150)
                                  replace hx150_0 := (HB.out.cell (World.block_lt_of_cell? w _ hx150_0)).trans hx150_0
                                  replace hx150_1 := (HB.out.cell (World.block_lt_of_cell? w _ hx150_1)).trans hx150_1
                                  replace p150 := eq_true p150
                                  replace q150 := eq_true q150
                                  have p151 : 0 ≤ (x13_3 : Int) := of_decide_eq_true (by first | (with_reducible assumption) | assumption)
                                  have q151 : x13_3 < (l0.length : Int) := of_decide_eq_true (by first | (with_reducible assumption) | assumption)
                                  obtain ⟨ad151, e151, hx151_0, hx151_1⟩ := at_T25 HR0.out x13_3 p151 q151
                                  have hw151_1 := hx151_1
                                  have hw151_0 := hx151_0
                                  obtain rfl : ad145 = ad151 := (by injection e151)
                                  replace hx151_0 := (HB.out.cell (World.block_lt_of_cell? w _ hx151_0)).trans hx151_0
                                  replace hx151_1 := (HB.out.cell (World.block_lt_of_cell? w _ hx151_1)).trans hx151_1
                                  replace p151 := eq_true p151
                                  replace q151 := eq_true q151
                                  have p152 : 0 ≤ (x12_2 : Int) := of_decide_eq_true (by first | (with_reducible assumption) | assumption)
                                  have q152 : x12_2 < (l0.length : Int) := of_decide_eq_true (by first | (with_reducible assumption) | assumption)
                                  obtain ⟨ad152, e152, hx152_0, hx152_1⟩ := at_T25 HR0.out x12_2 p152 q152
                                  have hw152_1 := hx152_1
                                  have hw152_0 := hx152_0
                                  obtain rfl : ad145 = ad152 := (by injection e152)
                                  replace hx152_0 := (HB.out.cell (World.block_lt_of_cell? w _ hx152_0)).trans hx152_0
                                  replace hx152_1 := (HB.out.cell (World.block_lt_of_cell? w _ hx152_1)).trans hx152_1
                                  replace p152 := eq_true p152
                                  replace q152 := eq_true q152
                                  refine start_ (n := 17) (S := fun w' => w'.cell? (ad145.add ((x13_3).toNat * 2)) = some (.int .u64 ((rd_T25 l0 x13_3).f0)) ∧ w'.cell? ⟨(ad145.add ((x13_3).toNat * 2)).block, (ad145.add ((x13_3).toNat * 2)).off + 1, none⟩ = some (.int .u64 ((rd_T25 l0 x13_3).f1)) ∧ w'.cell? (ad145.add ((x13_3).toNat * 2)) = some (.int .u64 ((rd_T25 l0 x13_3).f0)) ∧ w'.cell? ⟨(ad145.add ((x13_3).toNat * 2)).block, (ad145.add ((x13_3).toNat * 2)).off + 1, none⟩ = some (.int .u64 ((rd_T25 l0 x13_3).f1)) ∧ w'.cell? (ad145.add ((x12_2).toNat * 2)) = some (.int .u64 ((rd_T25 l0 x12_2).f0)) ∧ w'.cell? ⟨(ad145.add ((x12_2).toNat * 2)).block, (ad145.add ((x12_2).toNat * 2)).off + 1, none⟩ = some (.int .u64 ((rd_T25 l0 x12_2).f1))) (ds := []) #[fF, fF, fF, fF, fF, fF, fF, fF, fF, fF, fF, fF, fF, fF, fF, fF, fF] (by kernel_rfl) rfl rfl ⟨((HB.out.cell (World.block_lt_of_cell? w _ hw150_0)).trans hw150_0), ((HB.out.cell (World.block_lt_of_cell? w _ hw150_1)).trans hw150_1), ((HB.out.cell (World.block_lt_of_cell? w _ hw151_0)).trans hw151_0), ((HB.out.cell (World.block_lt_of_cell? w _ hw151_1)).trans hw151_1), ((HB.out.cell (World.block_lt_of_cell? w _ hw152_0)).trans hw152_0), ((HB.out.cell (World.block_lt_of_cell? w _ hw152_1)).trans hw152_1)⟩ (fun hHeld => ?_); refine with_tabW bezantlaw02_SpanTells.tab19 bezantlaw02_SpanTells.bits19 (fun HT_ HW_ => ?_)
                                  generalize w28.drew = w29 at BK136 BK137 HB hx150_0 hx150_1 hx151_0 hx151_1 hx152_0 hx152_1 hHeld ⊢
                                  refine pure_ (i := 0) (N := some 83) (v := ?_) (a' := ?_) #[tT, fF, fF, fF, fF, fF, fF, fF, fF, fF, fF, fF, fF, fF, fF, fF, fF] rfl rfl (any_of HT_.out (by kernel_rfl)) (fun _ _ _ h => h) (Or.inl ⟨by rfl, ?_⟩) ?_ ?_
                                  rotate_left
                                  · intro w'
                                    go_simp
                                    with_reducible rfl
                                  rotate_left
                                  · simp only [Act.put, sA, s0, s1, i64_w, i32_w]
                                    rfl
                                  refine pure_ (i := 1) (N := some 84) (v := ?_) (a' := ?_) #[tT, tT, fF, fF, fF, fF, fF, fF, fF, fF, fF, fF, fF, fF, fF, fF, fF] rfl rfl (any_of HT_.out (by kernel_rfl)) (fun _ _ _ h => h) (Or.inl ⟨by rfl, ?_⟩) ?_ ?_
                                  rotate_left
                                  · intro w'
                                    go_simp
                                    with_reducible rfl
                                  rotate_left
                                  · simp only [Act.put, sA, s0, s1, i64_w, i32_w]
                                    rfl
                                  refine pure_ (i := 2) (N := some 85) (v := ?_) (a' := ?_) #[tT, tT, tT, fF, fF, fF, fF, fF, fF, fF, fF, fF, fF, fF, fF, fF, fF] rfl rfl (any_of HT_.out (by kernel_rfl)) (fun _ _ _ h => h) (Or.inl ⟨by rfl, ?_⟩) ?_ ?_
                                  rotate_left
                                  · intro w'
                                    go_simp
                                    with_reducible rfl
                                  rotate_left
                                  · simp only [Act.put, sA, s0, s1, i64_w, i32_w]
                                    rfl
                                  refine pure_ (i := 3) (N := some 86) (v := ?_) (a' := ?_) #[tT, tT, tT, tT, fF, fF, fF, fF, fF, fF, fF, fF, fF, fF, fF, fF, fF] rfl rfl (any_of HT_.out (by kernel_rfl)) (fun _ _ _ h => h) (Or.inl ⟨by rfl, ?_⟩) ?_ ?_
                                  rotate_left
                                  · intro w'
                                    go_simp
                                    with_reducible rfl
                                  rotate_left
                                  · simp only [Act.put, sA, s0, s1, i64_w, i32_w]
                                    rfl
                                  refine pure_ (i := 5) (N := some 88) (v := ?_) (a' := ?_) #[tT, tT, tT, tT, fF, tT, fF, fF, fF, fF, fF, fF, fF, fF, fF, fF, fF] rfl rfl (any_of HT_.out (by kernel_rfl)) (fun _ _ _ h => h) (Or.inl ⟨by rfl, ?_⟩) ?_ ?_
                                  rotate_left
                                  · intro w'
                                    go_simp
                                    with_reducible rfl
                                  rotate_left
                                  · simp only [Act.put, sA, s0, s1, i64_w, i32_w]
                                    rfl
                                  refine pure_ (i := 6) (N := some 89) (v := ?_) (a' := ?_) #[tT, tT, tT, tT, fF, tT, tT, fF, fF, fF, fF, fF, fF, fF, fF, fF, fF] rfl rfl (any_of HT_.out (by kernel_rfl)) (fun _ _ _ h => h) (Or.inl ⟨by rfl, ?_⟩) ?_ ?_
                                  rotate_left
                                  · intro w'
                                    go_simp
                                    with_reducible rfl
                                  rotate_left
                                  · simp only [Act.put, sA, s0, s1, i64_w, i32_w]
                                    rfl
                                  refine pure_ (i := 7) (N := some 90) (v := ?_) (a' := ?_) #[tT, tT, tT, tT, fF, tT, tT, tT, fF, fF, fF, fF, fF, fF, fF, fF, fF] rfl rfl (any_of HT_.out (by kernel_rfl)) (fun _ _ _ h => h) (Or.inl ⟨by rfl, ?_⟩) ?_ ?_
                                  rotate_left
                                  · intro w'
                                    go_simp
                                    with_reducible rfl
                                  rotate_left
                                  · simp only [Act.put, sA, s0, s1, i64_w, i32_w]
                                    rfl
                                  refine pure_ (i := 8) (N := some 91) (v := ?_) (a' := ?_) #[tT, tT, tT, tT, fF, tT, tT, tT, tT, fF, fF, fF, fF, fF, fF, fF, fF] rfl rfl (any_of HT_.out (by kernel_rfl)) (fun _ _ _ h => h) (Or.inl ⟨by rfl, ?_⟩) ?_ ?_
                                  rotate_left
                                  · intro w'
                                    go_simp
                                    with_reducible rfl
                                  rotate_left
                                  · simp only [Act.put, sA, s0, s1, i64_w, i32_w]
                                    rfl
                                  refine pure_ (i := 10) (N := some 93) (v := ?_) (a' := ?_) #[tT, tT, tT, tT, fF, tT, tT, tT, tT, fF, tT, fF, fF, fF, fF, fF, fF] rfl rfl (any_of HT_.out (by kernel_rfl)) (fun _ _ _ h => h) (Or.inl ⟨by rfl, ?_⟩) ?_ ?_
                                  rotate_left
                                  · intro w'
                                    go_simp
                                    with_reducible rfl
                                  rotate_left
                                  · simp only [Act.put, sA, s0, s1, i64_w, i32_w]
                                    rfl
                                  refine pure_ (i := 11) (N := some 94) (v := ?_) (a' := ?_) #[tT, tT, tT, tT, fF, tT, tT, tT, tT, fF, tT, tT, fF, fF, fF, fF, fF] rfl rfl (any_of HT_.out (by kernel_rfl)) (fun _ _ _ h => h) (Or.inl ⟨by rfl, ?_⟩) ?_ ?_
                                  rotate_left
                                  · intro w'
                                    go_simp
                                    with_reducible rfl
                                  rotate_left
                                  · simp only [Act.put, sA, s0, s1, i64_w, i32_w]
                                    rfl
                                  refine pure_ (i := 12) (N := some 95) (v := ?_) (a' := ?_) #[tT, tT, tT, tT, fF, tT, tT, tT, tT, fF, tT, tT, tT, fF, fF, fF, fF] rfl rfl (any_of HT_.out (by kernel_rfl)) (fun _ _ _ h => h) (Or.inl ⟨by rfl, ?_⟩) ?_ ?_
                                  rotate_left
                                  · intro w'
                                    go_simp
                                    with_reducible rfl
                                  rotate_left
                                  · simp only [Act.put, sA, s0, s1, i64_w, i32_w]
                                    rfl
                                  refine pure_ (i := 13) (N := some 96) (v := ?_) (a' := ?_) #[tT, tT, tT, tT, fF, tT, tT, tT, tT, fF, tT, tT, tT, tT, fF, fF, fF] rfl rfl (any_of HT_.out (by kernel_rfl)) (fun _ _ _ h => h) (Or.inl ⟨by rfl, ?_⟩) ?_ ?_
                                  rotate_left
                                  · intro w'
                                    go_simp
                                    with_reducible rfl
                                  rotate_left
                                  · simp only [Act.put, sA, s0, s1, i64_w, i32_w]
                                    rfl
                                  refine take_ (i := 4) (N := some 87) (v := ?_) (a' := ?_) #[tT, tT, tT, tT, tT, tT, tT, tT, tT, fF, tT, tT, tT, tT, fF, fF, fF] rfl rfl (take_ofW HT_.out HW_.out (by kernel_rfl)) (fun _ _ _ h => h) (Or.inl ⟨by rfl, ?_⟩) hHeld ?_ ?_
                                  rotate_left
                                  · rintro w' ⟨s0, s1, s2, s3, s4, s5⟩
                                    go_simp
                                    with_reducible rfl
                                  rotate_left
                                  · simp only [Act.put, sA, s0, s1, i64_w, i32_w]
                                    rfl
                                  refine take_ (i := 9) (N := some 92) (v := ?_) (a' := ?_) #[tT, tT, tT, tT, tT, tT, tT, tT, tT, tT, tT, tT, tT, tT, fF, fF, fF] rfl rfl (take_ofW HT_.out HW_.out (by kernel_rfl)) (fun _ _ _ h => h) (Or.inl ⟨by rfl, ?_⟩) hHeld ?_ ?_
                                  rotate_left
                                  · rintro w' ⟨s0, s1, s2, s3, s4, s5⟩
                                    go_simp
                                    with_reducible rfl
                                  rotate_left
                                  · simp only [Act.put, sA, s0, s1, i64_w, i32_w]
                                    rfl
                                  refine take_ (i := 14) (N := some 97) (v := ?_) (a' := ?_) #[tT, tT, tT, tT, tT, tT, tT, tT, tT, tT, tT, tT, tT, tT, tT, fF, fF] rfl rfl (take_ofW HT_.out HW_.out (by kernel_rfl)) (fun _ _ _ h => h) (Or.inl ⟨by rfl, ?_⟩) hHeld ?_ ?_
                                  rotate_left
                                  · rintro w' ⟨s0, s1, s2, s3, s4, s5⟩
                                    go_simp
                                    with_reducible rfl
                                  rotate_left
                                  · simp only [Act.put, sA, s0, s1, i64_w, i32_w]
                                    rfl
                                  refine one_ (i := 15) (N := some 98) #[tT, tT, tT, tT, tT, tT, tT, tT, tT, tT, tT, tT, tT, tT, tT, tT, fF] rfl rfl (one_of HT_.out (by kernel_rfl)) (by decide) (fun K hK => ?_)
                                  refine goes_ Try.func17 (by kernel_rfl) rfl #[.int .u64 ((rd_T25 l0 x13_3).f0), .int .u64 ((rd_T25 l0 x13_3).f1), .int .u64 ((rd_T25 l0 x12_2).f0)] (by rfl) rfl rfl (by (try simp only [List.map_toArray, List.map_cons, List.map_nil]); first | done | rfl | (simp only [List.length_drop, List.length_take]; rfl)) ?_
                                  with_reducible refine (bezantref01_Below.calls ((rd_T25 l0 x13_3).f0) ((rd_T25 l0 x13_3).f1) ((rd_T25 l0 x12_2).f0) t153 _ A26.out).mono ?_
                                  rintro e w' ⟨rfl, ⟨nd, rfl⟩⟩
                                  refine ⟨_, rfl, ?_⟩
                                  refine hK.out _ _ ⟨((HB.out.cell (World.block_lt_of_cell? w _ hw150_0)).trans hw150_0), ((HB.out.cell (World.block_lt_of_cell? w _ hw150_1)).trans hw150_1), ((HB.out.cell (World.block_lt_of_cell? w _ hw151_0)).trans hw151_0), ((HB.out.cell (World.block_lt_of_cell? w _ hw151_1)).trans hw151_1), ((HB.out.cell (World.block_lt_of_cell? w _ hw152_0)).trans hw152_0), ((HB.out.cell (World.block_lt_of_cell? w _ hw152_1)).trans hw152_1)⟩ (fun hHeld => ?_)
                                  clear hK K
                                  refine norm_ (a' := ?_) ?_ ?_
                                  rotate_left
                                  · show Act.put _ (some 98) _ = _
                                    simp only [Act.put, sA, s0, s1, i64_w, i32_w]
                                    rfl
                                  refine pure_ (i := 16) (N := some 15) (v := ?_) (a' := ?_) #[tT, tT, tT, tT, tT, tT, tT, tT, tT, tT, tT, tT, tT, tT, tT, tT, tT] rfl rfl (any_of HT_.out (by kernel_rfl)) (fun _ _ _ h => h) (Or.inl ⟨by rfl, ?_⟩) ?_ ?_
                                  rotate_left
                                  · intro w'
                                    go_simp
                                    with_reducible rfl
                                  rotate_left
                                  · simp only [Act.put, sA, s0, s1, i64_w, i32_w]
                                    rfl
                                  refine done_ (done_of HT_.out (by kernel_rfl)) ?_
                                  try go_wp2
                                  go_roundg k3
                                  case measure => have := HJ4.out; have := HK2.out; have := HK3.out; omega
                                  case rel => exact ⟨(x8_3), (x9_3), (true), (t153), (wrap64 (x13_3 + 1)), (by first | rfl | (simp; done) | (simp [*]; done)), (by first | rfl | (simp; done) | (simp [*]; done)), (by first | rfl | (simp; done) | (simp [*]; done)), (by first | rfl | (simp; done) | (simp [*]; done)), (by first | rfl | (simp; done) | (simp [*]; done)), H', ⟨by have := HJ4.out; have := HK2.out; have := HK3.out; omega⟩, ⟨by (with_reducible repeat (first | refine blk_drewN ?_ _ | refine blk_drew ?_ | refine blk_alloc ?_ _)); exact BK136.out⟩, ⟨by (with_reducible repeat (first | refine blk_drewN ?_ _ | refine blk_drew ?_ | refine blk_alloc ?_ _)); exact BK137.out⟩, ⟨by repeat (first | (with_reducible first | exact HB.out | apply below_alloc | apply pw_below_drewN | apply below_drew1 | refine below_set ?_ GE136.out | refine below_set ?_ GE137.out) | exact HB.out)⟩⟩
                                · replace c27 := Bool.eq_false_iff.mpr c27
                                  subst c27
                                  rw [if_neg (show ¬ (false = true) by decide)] at H
                                  have H' := Aside0.mk H
                                  clear H
                                  try go_wp2
                                  have n0_ := Aside0.mk (blk_drew BK136.out)
                                  have n1_ := Aside0.mk (blk_drew BK137.out)
                                  have n2_ := Aside0.mk (below_drew1 HB.out)
                                  clear BK136
                                  clear BK137
                                  clear HB
                                  have BK136 := n0_
                                  have BK137 := n1_
                                  have HB := n2_
                                  clear n0_ n1_ n2_
                                  have p145 : 0 ≤ (x13_3 : Int) := of_decide_eq_true (by first | (with_reducible assumption) | assumption)
                                  have q145 : x13_3 < (l0.length : Int) := of_decide_eq_true (by first | (with_reducible assumption) | assumption)
                                  obtain ⟨ad145, e145, hx145_0, hx145_1⟩ := at_T25 HR0.out x13_3 p145 q145
                                  have hw145_1 := hx145_1
                                  have hw145_0 := hx145_0
                                  cases e145
                                  replace hx145_0 := (HB.out.cell (World.block_lt_of_cell? w _ hx145_0)).trans hx145_0
                                  replace hx145_1 := (HB.out.cell (World.block_lt_of_cell? w _ hx145_1)).trans hx145_1
                                  replace p145 := eq_true p145
                                  replace q145 := eq_true q145
                                  have p146 : 0 ≤ (x13_3 : Int) := of_decide_eq_true (by first | (with_reducible assumption) | assumption)
                                  have q146 : x13_3 < (l0.length : Int) := of_decide_eq_true (by first | (with_reducible assumption) | assumption)
                                  obtain ⟨ad146, e146, hx146_0, hx146_1⟩ := at_T25 HR0.out x13_3 p146 q146
                                  have hw146_1 := hx146_1
                                  have hw146_0 := hx146_0
                                  obtain rfl : ad145 = ad146 := (by injection e146)
                                  replace hx146_0 := (HB.out.cell (World.block_lt_of_cell? w _ hx146_0)).trans hx146_0
                                  replace hx146_1 := (HB.out.cell (World.block_lt_of_cell? w _ hx146_1)).trans hx146_1
                                  replace p146 := eq_true p146
                                  replace q146 := eq_true q146
                                  have p147 : 0 ≤ (x12_2 : Int) := of_decide_eq_true (by first | (with_reducible assumption) | assumption)
                                  have q147 : x12_2 < (l0.length : Int) := of_decide_eq_true (by first | (with_reducible assumption) | assumption)
                                  obtain ⟨ad147, e147, hx147_0, hx147_1⟩ := at_T25 HR0.out x12_2 p147 q147
                                  have hw147_1 := hx147_1
                                  have hw147_0 := hx147_0
                                  obtain rfl : ad145 = ad147 := (by injection e147)
                                  replace hx147_0 := (HB.out.cell (World.block_lt_of_cell? w _ hx147_0)).trans hx147_0
                                  replace hx147_1 := (HB.out.cell (World.block_lt_of_cell? w _ hx147_1)).trans hx147_1
                                  replace p147 := eq_true p147
                                  replace q147 := eq_true q147
                                  have p148 : 0 ≤ (x12_2 : Int) := of_decide_eq_true (by first | (with_reducible assumption) | assumption)
                                  have q148 : x12_2 < (l0.length : Int) := of_decide_eq_true (by first | (with_reducible assumption) | assumption)
                                  obtain ⟨ad148, e148, hx148_0, hx148_1⟩ := at_T25 HR0.out x12_2 p148 q148
                                  have hw148_1 := hx148_1
                                  have hw148_0 := hx148_0
                                  obtain rfl : ad145 = ad148 := (by injection e148)
                                  replace hx148_0 := (HB.out.cell (World.block_lt_of_cell? w _ hx148_0)).trans hx148_0
                                  replace hx148_1 := (HB.out.cell (World.block_lt_of_cell? w _ hx148_1)).trans hx148_1
                                  replace p148 := eq_true p148
                                  replace q148 := eq_true q148
                                  refine start_ (n := 22) (S := fun w' => w'.cell? (ad145.add ((x13_3).toNat * 2)) = some (.int .u64 ((rd_T25 l0 x13_3).f0)) ∧ w'.cell? ⟨(ad145.add ((x13_3).toNat * 2)).block, (ad145.add ((x13_3).toNat * 2)).off + 1, none⟩ = some (.int .u64 ((rd_T25 l0 x13_3).f1)) ∧ w'.cell? (ad145.add ((x13_3).toNat * 2)) = some (.int .u64 ((rd_T25 l0 x13_3).f0)) ∧ w'.cell? ⟨(ad145.add ((x13_3).toNat * 2)).block, (ad145.add ((x13_3).toNat * 2)).off + 1, none⟩ = some (.int .u64 ((rd_T25 l0 x13_3).f1)) ∧ w'.cell? (ad145.add ((x12_2).toNat * 2)) = some (.int .u64 ((rd_T25 l0 x12_2).f0)) ∧ w'.cell? ⟨(ad145.add ((x12_2).toNat * 2)).block, (ad145.add ((x12_2).toNat * 2)).off + 1, none⟩ = some (.int .u64 ((rd_T25 l0 x12_2).f1)) ∧ w'.cell? (ad145.add ((x12_2).toNat * 2)) = some (.int .u64 ((rd_T25 l0 x12_2).f0)) ∧ w'.cell? ⟨(ad145.add ((x12_2).toNat * 2)).block, (ad145.add ((x12_2).toNat * 2)).off + 1, none⟩ = some (.int .u64 ((rd_T25 l0 x12_2).f1))) (ds := []) #[fF, fF, fF, fF, fF, fF, fF, fF, fF, fF, fF, fF, fF, fF, fF, fF, fF, fF, fF, fF, fF, fF] (by kernel_rfl) rfl rfl ⟨((HB.out.cell (World.block_lt_of_cell? w _ hw145_0)).trans hw145_0), ((HB.out.cell (World.block_lt_of_cell? w _ hw145_1)).trans hw145_1), ((HB.out.cell (World.block_lt_of_cell? w _ hw146_0)).trans hw146_0), ((HB.out.cell (World.block_lt_of_cell? w _ hw146_1)).trans hw146_1), ((HB.out.cell (World.block_lt_of_cell? w _ hw147_0)).trans hw147_0), ((HB.out.cell (World.block_lt_of_cell? w _ hw147_1)).trans hw147_1), ((HB.out.cell (World.block_lt_of_cell? w _ hw148_0)).trans hw148_0), ((HB.out.cell (World.block_lt_of_cell? w _ hw148_1)).trans hw148_1)⟩ (fun hHeld => ?_); refine with_tabW bezantlaw02_SpanTells.tab14 bezantlaw02_SpanTells.bits14 (fun HT_ HW_ => ?_)
                                  generalize wr.drew = w30 at BK136 BK137 HB hx145_0 hx145_1 hx146_0 hx146_1 hx147_0 hx147_1 hx148_0 hx148_1 hHeld ⊢
                                  refine pure_ (i := 0) (N := some 55) (v := ?_) (a' := ?_) #[tT, fF, fF, fF, fF, fF, fF, fF, fF, fF, fF, fF, fF, fF, fF, fF, fF, fF, fF, fF, fF, fF] rfl rfl (any_of HT_.out (by kernel_rfl)) (fun _ _ _ h => h) (Or.inl ⟨by rfl, ?_⟩) ?_ ?_
                                  rotate_left
                                  · intro w'
                                    go_simp
                                    with_reducible rfl
                                  rotate_left
                                  · simp only [Act.put, sA, s0, s1, i64_w, i32_w]
                                    rfl
                                  refine pure_ (i := 1) (N := some 56) (v := ?_) (a' := ?_) #[tT, tT, fF, fF, fF, fF, fF, fF, fF, fF, fF, fF, fF, fF, fF, fF, fF, fF, fF, fF, fF, fF] rfl rfl (any_of HT_.out (by kernel_rfl)) (fun _ _ _ h => h) (Or.inl ⟨by rfl, ?_⟩) ?_ ?_
                                  rotate_left
                                  · intro w'
                                    go_simp
                                    with_reducible rfl
                                  rotate_left
                                  · simp only [Act.put, sA, s0, s1, i64_w, i32_w]
                                    rfl
                                  refine pure_ (i := 2) (N := some 57) (v := ?_) (a' := ?_) #[tT, tT, tT, fF, fF, fF, fF, fF, fF, fF, fF, fF, fF, fF, fF, fF, fF, fF, fF, fF, fF, fF] rfl rfl (any_of HT_.out (by kernel_rfl)) (fun _ _ _ h => h) (Or.inl ⟨by rfl, ?_⟩) ?_ ?_
                                  rotate_left
                                  · intro w'
                                    go_simp
                                    with_reducible rfl
                                  rotate_left
                                  · simp only [Act.put, sA, s0, s1, i64_w, i32_w]
                                    rfl
                                  refine pure_ (i := 3) (N := some 58) (v := ?_) (a' := ?_) #[tT, tT, tT, tT, fF, fF, fF, fF, fF, fF, fF, fF, fF, fF, fF, fF, fF, fF, fF, fF, fF, fF] rfl rfl (any_of HT_.out (by kernel_rfl)) (fun _ _ _ h => h) (Or.inl ⟨by rfl, ?_⟩) ?_ ?_
                                  rotate_left
                                  · intro w'
                                    go_simp
                                    with_reducible rfl
                                  rotate_left
                                  · simp only [Act.put, sA, s0, s1, i64_w, i32_w]
                                    rfl
                                  refine pure_ (i := 5) (N := some 60) (v := ?_) (a' := ?_) #[tT, tT, tT, tT, fF, tT, fF, fF, fF, fF, fF, fF, fF, fF, fF, fF, fF, fF, fF, fF, fF, fF] rfl rfl (any_of HT_.out (by kernel_rfl)) (fun _ _ _ h => h) (Or.inl ⟨by rfl, ?_⟩) ?_ ?_
                                  rotate_left
                                  · intro w'
                                    go_simp
                                    with_reducible rfl
                                  rotate_left
                                  · simp only [Act.put, sA, s0, s1, i64_w, i32_w]
                                    rfl
                                  refine pure_ (i := 6) (N := some 61) (v := ?_) (a' := ?_) #[tT, tT, tT, tT, fF, tT, tT, fF, fF, fF, fF, fF, fF, fF, fF, fF, fF, fF, fF, fF, fF, fF] rfl rfl (any_of HT_.out (by kernel_rfl)) (fun _ _ _ h => h) (Or.inl ⟨by rfl, ?_⟩) ?_ ?_
                                  rotate_left
                                  · intro w'
                                    go_simp
                                    with_reducible rfl
                                  rotate_left
                                  · simp only [Act.put, sA, s0, s1, i64_w, i32_w]
                                    rfl
                                  refine pure_ (i := 7) (N := some 62) (v := ?_) (a' := ?_) #[tT, tT, tT, tT, fF, tT, tT, tT, fF, fF, fF, fF, fF, fF, fF, fF, fF, fF, fF, fF, fF, fF] rfl rfl (any_of HT_.out (by kernel_rfl)) (fun _ _ _ h => h) (Or.inl ⟨by rfl, ?_⟩) ?_ ?_
                                  rotate_left
                                  · intro w'
                                    go_simp
                                    with_reducible rfl
                                  rotate_left
                                  · simp only [Act.put, sA, s0, s1, i64_w, i32_w]
                                    rfl
                                  refine pure_ (i := 8) (N := some 63) (v := ?_) (a' := ?_) #[tT, tT, tT, tT, fF, tT, tT, tT, tT, fF, fF, fF, fF, fF, fF, fF, fF, fF, fF, fF, fF, fF] rfl rfl (any_of HT_.out (by kernel_rfl)) (fun _ _ _ h => h) (Or.inl ⟨by rfl, ?_⟩) ?_ ?_
                                  rotate_left
                                  · intro w'
                                    go_simp
                                    with_reducible rfl
                                  rotate_left
                                  · simp only [Act.put, sA, s0, s1, i64_w, i32_w]
                                    rfl
                                  refine pure_ (i := 10) (N := some 65) (v := ?_) (a' := ?_) #[tT, tT, tT, tT, fF, tT, tT, tT, tT, fF, tT, fF, fF, fF, fF, fF, fF, fF, fF, fF, fF, fF] rfl rfl (any_of HT_.out (by kernel_rfl)) (fun _ _ _ h => h) (Or.inl ⟨by rfl, ?_⟩) ?_ ?_
                                  rotate_left
                                  · intro w'
                                    go_simp
                                    with_reducible rfl
                                  rotate_left
                                  · simp only [Act.put, sA, s0, s1, i64_w, i32_w]
                                    rfl
                                  refine pure_ (i := 11) (N := some 66) (v := ?_) (a' := ?_) #[tT, tT, tT, tT, fF, tT, tT, tT, tT, fF, tT, tT, fF, fF, fF, fF, fF, fF, fF, fF, fF, fF] rfl rfl (any_of HT_.out (by kernel_rfl)) (fun _ _ _ h => h) (Or.inl ⟨by rfl, ?_⟩) ?_ ?_
                                  rotate_left
                                  · intro w'
                                    go_simp
                                    with_reducible rfl
                                  rotate_left
                                  · simp only [Act.put, sA, s0, s1, i64_w, i32_w]
                                    rfl
                                  refine pure_ (i := 12) (N := some 67) (v := ?_) (a' := ?_) #[tT, tT, tT, tT, fF, tT, tT, tT, tT, fF, tT, tT, tT, fF, fF, fF, fF, fF, fF, fF, fF, fF] rfl rfl (any_of HT_.out (by kernel_rfl)) (fun _ _ _ h => h) (Or.inl ⟨by rfl, ?_⟩) ?_ ?_
                                  rotate_left
                                  · intro w'
                                    go_simp
                                    with_reducible rfl
                                  rotate_left
                                  · simp only [Act.put, sA, s0, s1, i64_w, i32_w]
                                    rfl
                                  refine pure_ (i := 13) (N := some 68) (v := ?_) (a' := ?_) #[tT, tT, tT, tT, fF, tT, tT, tT, tT, fF, tT, tT, tT, tT, fF, fF, fF, fF, fF, fF, fF, fF] rfl rfl (any_of HT_.out (by kernel_rfl)) (fun _ _ _ h => h) (Or.inl ⟨by rfl, ?_⟩) ?_ ?_
                                  rotate_left
                                  · intro w'
                                    go_simp
                                    with_reducible rfl
                                  rotate_left
                                  · simp only [Act.put, sA, s0, s1, i64_w, i32_w]
                                    rfl
                                  refine pure_ (i := 15) (N := some 70) (v := ?_) (a' := ?_) #[tT, tT, tT, tT, fF, tT, tT, tT, tT, fF, tT, tT, tT, tT, fF, tT, fF, fF, fF, fF, fF, fF] rfl rfl (any_of HT_.out (by kernel_rfl)) (fun _ _ _ h => h) (Or.inl ⟨by rfl, ?_⟩) ?_ ?_
                                  rotate_left
                                  · intro w'
                                    go_simp
                                    with_reducible rfl
                                  rotate_left
                                  · simp only [Act.put, sA, s0, s1, i64_w, i32_w]
                                    rfl
                                  refine pure_ (i := 16) (N := some 71) (v := ?_) (a' := ?_) #[tT, tT, tT, tT, fF, tT, tT, tT, tT, fF, tT, tT, tT, tT, fF, tT, tT, fF, fF, fF, fF, fF] rfl rfl (any_of HT_.out (by kernel_rfl)) (fun _ _ _ h => h) (Or.inl ⟨by rfl, ?_⟩) ?_ ?_
                                  rotate_left
                                  · intro w'
                                    go_simp
                                    with_reducible rfl
                                  rotate_left
                                  · simp only [Act.put, sA, s0, s1, i64_w, i32_w]
                                    rfl
                                  refine pure_ (i := 17) (N := some 72) (v := ?_) (a' := ?_) #[tT, tT, tT, tT, fF, tT, tT, tT, tT, fF, tT, tT, tT, tT, fF, tT, tT, tT, fF, fF, fF, fF] rfl rfl (any_of HT_.out (by kernel_rfl)) (fun _ _ _ h => h) (Or.inl ⟨by rfl, ?_⟩) ?_ ?_
                                  rotate_left
                                  · intro w'
                                    go_simp
                                    with_reducible rfl
                                  rotate_left
                                  · simp only [Act.put, sA, s0, s1, i64_w, i32_w]
                                    rfl
                                  refine pure_ (i := 18) (N := some 73) (v := ?_) (a' := ?_) #[tT, tT, tT, tT, fF, tT, tT, tT, tT, fF, tT, tT, tT, tT, fF, tT, tT, tT, tT, fF, fF, fF] rfl rfl (any_of HT_.out (by kernel_rfl)) (fun _ _ _ h => h) (Or.inl ⟨by rfl, ?_⟩) ?_ ?_
                                  rotate_left
                                  · intro w'
                                    go_simp
                                    with_reducible rfl
                                  rotate_left
                                  · simp only [Act.put, sA, s0, s1, i64_w, i32_w]
                                    rfl
                                  refine take_ (i := 4) (N := some 59) (v := ?_) (a' := ?_) #[tT, tT, tT, tT, tT, tT, tT, tT, tT, fF, tT, tT, tT, tT, fF, tT, tT, tT, tT, fF, fF, fF] rfl rfl (take_ofW HT_.out HW_.out (by kernel_rfl)) (fun _ _ _ h => h) (Or.inl ⟨by rfl, ?_⟩) hHeld ?_ ?_
                                  rotate_left
                                  · rintro w' ⟨s0, s1, s2, s3, s4, s5, s6, s7⟩
                                    go_simp
                                    with_reducible rfl
                                  rotate_left
                                  · simp only [Act.put, sA, s0, s1, i64_w, i32_w]
                                    rfl
                                  refine take_ (i := 9) (N := some 64) (v := ?_) (a' := ?_) #[tT, tT, tT, tT, tT, tT, tT, tT, tT, tT, tT, tT, tT, tT, fF, tT, tT, tT, tT, fF, fF, fF] rfl rfl (take_ofW HT_.out HW_.out (by kernel_rfl)) (fun _ _ _ h => h) (Or.inl ⟨by rfl, ?_⟩) hHeld ?_ ?_
                                  rotate_left
                                  · rintro w' ⟨s0, s1, s2, s3, s4, s5, s6, s7⟩
                                    go_simp
                                    with_reducible rfl
                                  rotate_left
                                  · simp only [Act.put, sA, s0, s1, i64_w, i32_w]
                                    rfl
                                  refine take_ (i := 14) (N := some 69) (v := ?_) (a' := ?_) #[tT, tT, tT, tT, tT, tT, tT, tT, tT, tT, tT, tT, tT, tT, tT, tT, tT, tT, tT, fF, fF, fF] rfl rfl (take_ofW HT_.out HW_.out (by kernel_rfl)) (fun _ _ _ h => h) (Or.inl ⟨by rfl, ?_⟩) hHeld ?_ ?_
                                  rotate_left
                                  · rintro w' ⟨s0, s1, s2, s3, s4, s5, s6, s7⟩
                                    go_simp
                                    with_reducible rfl
                                  rotate_left
                                  · simp only [Act.put, sA, s0, s1, i64_w, i32_w]
                                    rfl
                                  refine take_ (i := 19) (N := some 74) (v := ?_) (a' := ?_) #[tT, tT, tT, tT, tT, tT, tT, tT, tT, tT, tT, tT, tT, tT, tT, tT, tT, tT, tT, tT, fF, fF] rfl rfl (take_ofW HT_.out HW_.out (by kernel_rfl)) (fun _ _ _ h => h) (Or.inl ⟨by rfl, ?_⟩) hHeld ?_ ?_
                                  rotate_left
                                  · rintro w' ⟨s0, s1, s2, s3, s4, s5, s6, s7⟩
                                    go_simp
                                    with_reducible rfl
                                  rotate_left
                                  · simp only [Act.put, sA, s0, s1, i64_w, i32_w]
                                    rfl
                                  refine one_ (i := 20) (N := some 75) #[tT, tT, tT, tT, tT, tT, tT, tT, tT, tT, tT, tT, tT, tT, tT, tT, tT, tT, tT, tT, tT, fF] rfl rfl (one_of HT_.out (by kernel_rfl)) (by decide) (fun K hK => ?_)
                                  refine goes_ Try.func16 (by kernel_rfl) rfl #[.int .u64 ((rd_T25 l0 x13_3).f0), .int .u64 ((rd_T25 l0 x13_3).f1), .int .u64 ((rd_T25 l0 x12_2).f0), .int .u64 ((rd_T25 l0 x12_2).f1)] (by rfl) rfl rfl (by (try simp only [List.map_toArray, List.map_cons, List.map_nil]); first | done | rfl | (simp only [List.length_drop, List.length_take]; rfl)) ?_
                                  with_reducible refine (bezantref01_Meet.calls k3 ((rd_T25 l0 x13_3).f0) ((rd_T25 l0 x13_3).f1) ((rd_T25 l0 x12_2).f0) ((rd_T25 l0 x12_2).f1) true _ A23.out).mono ?_
                                  rintro e w' ⟨rfl, ⟨nd, rfl⟩⟩
                                  refine ⟨_, rfl, ?_⟩
                                  refine hK.out _ _ ⟨((HB.out.cell (World.block_lt_of_cell? w _ hw145_0)).trans hw145_0), ((HB.out.cell (World.block_lt_of_cell? w _ hw145_1)).trans hw145_1), ((HB.out.cell (World.block_lt_of_cell? w _ hw146_0)).trans hw146_0), ((HB.out.cell (World.block_lt_of_cell? w _ hw146_1)).trans hw146_1), ((HB.out.cell (World.block_lt_of_cell? w _ hw147_0)).trans hw147_0), ((HB.out.cell (World.block_lt_of_cell? w _ hw147_1)).trans hw147_1), ((HB.out.cell (World.block_lt_of_cell? w _ hw148_0)).trans hw148_0), ((HB.out.cell (World.block_lt_of_cell? w _ hw148_1)).trans hw148_1)⟩ (fun hHeld => ?_)
                                  clear hK K
                                  refine norm_ (a' := ?_) ?_ ?_
                                  rotate_left
                                  · show Act.put _ (some 75) _ = _
                                    simp only [Act.put, sA, s0, s1, i64_w, i32_w]
                                    rfl
                                  refine pure_ (i := 21) (N := some 14) (v := ?_) (a' := ?_) #[tT, tT, tT, tT, tT, tT, tT, tT, tT, tT, tT, tT, tT, tT, tT, tT, tT, tT, tT, tT, tT, tT] rfl rfl (any_of HT_.out (by kernel_rfl)) (fun _ _ _ h => h) (Or.inl ⟨by rfl, ?_⟩) ?_ ?_
                                  rotate_left
                                  · intro w'
                                    go_simp
                                    with_reducible rfl
                                  rotate_left
                                  · simp only [Act.put, sA, s0, s1, i64_w, i32_w]
                                    rfl
                                  refine done_ (done_of HT_.out (by kernel_rfl)) ?_
                                  try go_wp2
                                  (try (rw [drewN_self w30]; generalize hq_ : World.drewN w30 _ = w30; have n0_ : Aside0 (w30.heap[gb136]? = some (.cells #[.int .u64 a1_0, .int .u64 a1_1] 25 (0, 0))) := ⟨by rw [← hq_]; exact (by (with_reducible repeat (first | refine blk_drewN ?_ _ | refine blk_drew ?_ | refine blk_alloc ?_ _)); exact BK136.out)⟩; have n1_ : Aside0 (w30.heap[gb137]? = some (.cells #[.int .u64 a2_0, .int .u64 a2_1] 25 (0, 0))) := ⟨by rw [← hq_]; exact (by (with_reducible repeat (first | refine blk_drewN ?_ _ | refine blk_drew ?_ | refine blk_alloc ?_ _)); exact BK137.out)⟩; have n2_ : Aside0 (Below w.heap.size w w30) := ⟨by rw [← hq_]; exact (by repeat (first | (with_reducible first | exact HB.out | apply below_alloc | apply pw_below_drewN | apply below_drew1 | refine below_set ?_ GE136.out | refine below_set ?_ GE137.out) | exact HB.out))⟩; clear BK136 BK137 HB hq_; have BK136 := n0_; have BK137 := n1_; have HB := n2_; clear n0_ n1_ n2_))
                                  have n0_ := Aside0.mk (blk_drew BK136.out)
                                  have n1_ := Aside0.mk (blk_drew BK137.out)
                                  have n2_ := Aside0.mk (below_drew1 HB.out)
                                  clear BK136
                                  clear BK137
                                  clear HB
                                  have BK136 := n0_
                                  have BK137 := n1_
                                  have HB := n2_
                                  clear n0_ n1_ n2_
                                  have p150 : 0 ≤ (x13_3 : Int) := of_decide_eq_true (by first | (with_reducible assumption) | assumption)
                                  have q150 : x13_3 < (l0.length : Int) := of_decide_eq_true (by first | (with_reducible assumption) | assumption)
                                  obtain ⟨ad150, e150, hx150_0, hx150_1⟩ := at_T25 HR0.out x13_3 p150 q150
                                  have hw150_1 := hx150_1
                                  have hw150_0 := hx150_0
                                  obtain rfl : ad145 = ad150 := (by injection e150)
                                  replace hx150_0 := (HB.out.cell (World.block_lt_of_cell? w _ hx150_0)).trans hx150_0
                                  replace hx150_1 := (HB.out.cell (World.block_lt_of_cell? w _ hx150_1)).trans hx150_1
                                  replace p150 := eq_true p150
                                  replace q150 := eq_true q150
                                  have p151 : 0 ≤ (x13_3 : Int) := of_decide_eq_true (by first | (with_reducible assumption) | assumption)
                                  have q151 : x13_3 < (l0.length : Int) := of_decide_eq_true (by first | (with_reducible assumption) | assumption)
                                  obtain ⟨ad151, e151, hx151_0, hx151_1⟩ := at_T25 HR0.out x13_3 p151 q151
                                  have hw151_1 := hx151_1
                                  have hw151_0 := hx151_0
                                  obtain rfl : ad145 = ad151 := (by injection e151)
                                  replace hx151_0 := (HB.out.cell (World.block_lt_of_cell? w _ hx151_0)).trans hx151_0
                                  replace hx151_1 := (HB.out.cell (World.block_lt_of_cell? w _ hx151_1)).trans hx151_1
                                  replace p151 := eq_true p151
                                  replace q151 := eq_true q151
                                  have p152 : 0 ≤ (x12_2 : Int) := of_decide_eq_true (by first | (with_reducible assumption) | assumption)
                                  have q152 : x12_2 < (l0.length : Int) := of_decide_eq_true (by first | (with_reducible assumption) | assumption)
                                  obtain ⟨ad152, e152, hx152_0, hx152_1⟩ := at_T25 HR0.out x12_2 p152 q152
                                  have hw152_1 := hx152_1
                                  have hw152_0 := hx152_0
                                  obtain rfl : ad145 = ad152 := (by injection e152)
                                  replace hx152_0 := (HB.out.cell (World.block_lt_of_cell? w _ hx152_0)).trans hx152_0
                                  replace hx152_1 := (HB.out.cell (World.block_lt_of_cell? w _ hx152_1)).trans hx152_1
                                  replace p152 := eq_true p152
                                  replace q152 := eq_true q152
                                  refine start_ (n := 17) (S := fun w' => w'.cell? (ad145.add ((x13_3).toNat * 2)) = some (.int .u64 ((rd_T25 l0 x13_3).f0)) ∧ w'.cell? ⟨(ad145.add ((x13_3).toNat * 2)).block, (ad145.add ((x13_3).toNat * 2)).off + 1, none⟩ = some (.int .u64 ((rd_T25 l0 x13_3).f1)) ∧ w'.cell? (ad145.add ((x13_3).toNat * 2)) = some (.int .u64 ((rd_T25 l0 x13_3).f0)) ∧ w'.cell? ⟨(ad145.add ((x13_3).toNat * 2)).block, (ad145.add ((x13_3).toNat * 2)).off + 1, none⟩ = some (.int .u64 ((rd_T25 l0 x13_3).f1)) ∧ w'.cell? (ad145.add ((x12_2).toNat * 2)) = some (.int .u64 ((rd_T25 l0 x12_2).f0)) ∧ w'.cell? ⟨(ad145.add ((x12_2).toNat * 2)).block, (ad145.add ((x12_2).toNat * 2)).off + 1, none⟩ = some (.int .u64 ((rd_T25 l0 x12_2).f1))) (ds := []) #[fF, fF, fF, fF, fF, fF, fF, fF, fF, fF, fF, fF, fF, fF, fF, fF, fF] (by kernel_rfl) rfl rfl ⟨((HB.out.cell (World.block_lt_of_cell? w _ hw150_0)).trans hw150_0), ((HB.out.cell (World.block_lt_of_cell? w _ hw150_1)).trans hw150_1), ((HB.out.cell (World.block_lt_of_cell? w _ hw151_0)).trans hw151_0), ((HB.out.cell (World.block_lt_of_cell? w _ hw151_1)).trans hw151_1), ((HB.out.cell (World.block_lt_of_cell? w _ hw152_0)).trans hw152_0), ((HB.out.cell (World.block_lt_of_cell? w _ hw152_1)).trans hw152_1)⟩ (fun hHeld => ?_); refine with_tabW bezantlaw02_SpanTells.tab19 bezantlaw02_SpanTells.bits19 (fun HT_ HW_ => ?_)
                                  generalize w30.drew = w31 at BK136 BK137 HB hx150_0 hx150_1 hx151_0 hx151_1 hx152_0 hx152_1 hHeld ⊢
                                  refine pure_ (i := 0) (N := some 83) (v := ?_) (a' := ?_) #[tT, fF, fF, fF, fF, fF, fF, fF, fF, fF, fF, fF, fF, fF, fF, fF, fF] rfl rfl (any_of HT_.out (by kernel_rfl)) (fun _ _ _ h => h) (Or.inl ⟨by rfl, ?_⟩) ?_ ?_
                                  rotate_left
                                  · intro w'
                                    go_simp
                                    with_reducible rfl
                                  rotate_left
                                  · simp only [Act.put, sA, s0, s1, i64_w, i32_w]
                                    rfl
                                  refine pure_ (i := 1) (N := some 84) (v := ?_) (a' := ?_) #[tT, tT, fF, fF, fF, fF, fF, fF, fF, fF, fF, fF, fF, fF, fF, fF, fF] rfl rfl (any_of HT_.out (by kernel_rfl)) (fun _ _ _ h => h) (Or.inl ⟨by rfl, ?_⟩) ?_ ?_
                                  rotate_left
                                  · intro w'
                                    go_simp
                                    with_reducible rfl
                                  rotate_left
                                  · simp only [Act.put, sA, s0, s1, i64_w, i32_w]
                                    rfl
                                  refine pure_ (i := 2) (N := some 85) (v := ?_) (a' := ?_) #[tT, tT, tT, fF, fF, fF, fF, fF, fF, fF, fF, fF, fF, fF, fF, fF, fF] rfl rfl (any_of HT_.out (by kernel_rfl)) (fun _ _ _ h => h) (Or.inl ⟨by rfl, ?_⟩) ?_ ?_
                                  rotate_left
                                  · intro w'
                                    go_simp
                                    with_reducible rfl
                                  rotate_left
                                  · simp only [Act.put, sA, s0, s1, i64_w, i32_w]
                                    rfl
                                  refine pure_ (i := 3) (N := some 86) (v := ?_) (a' := ?_) #[tT, tT, tT, tT, fF, fF, fF, fF, fF, fF, fF, fF, fF, fF, fF, fF, fF] rfl rfl (any_of HT_.out (by kernel_rfl)) (fun _ _ _ h => h) (Or.inl ⟨by rfl, ?_⟩) ?_ ?_
                                  rotate_left
                                  · intro w'
                                    go_simp
                                    with_reducible rfl
                                  rotate_left
                                  · simp only [Act.put, sA, s0, s1, i64_w, i32_w]
                                    rfl
                                  refine pure_ (i := 5) (N := some 88) (v := ?_) (a' := ?_) #[tT, tT, tT, tT, fF, tT, fF, fF, fF, fF, fF, fF, fF, fF, fF, fF, fF] rfl rfl (any_of HT_.out (by kernel_rfl)) (fun _ _ _ h => h) (Or.inl ⟨by rfl, ?_⟩) ?_ ?_
                                  rotate_left
                                  · intro w'
                                    go_simp
                                    with_reducible rfl
                                  rotate_left
                                  · simp only [Act.put, sA, s0, s1, i64_w, i32_w]
                                    rfl
                                  refine pure_ (i := 6) (N := some 89) (v := ?_) (a' := ?_) #[tT, tT, tT, tT, fF, tT, tT, fF, fF, fF, fF, fF, fF, fF, fF, fF, fF] rfl rfl (any_of HT_.out (by kernel_rfl)) (fun _ _ _ h => h) (Or.inl ⟨by rfl, ?_⟩) ?_ ?_
                                  rotate_left
                                  · intro w'
                                    go_simp
                                    with_reducible rfl
                                  rotate_left
                                  · simp only [Act.put, sA, s0, s1, i64_w, i32_w]
                                    rfl
                                  refine pure_ (i := 7) (N := some 90) (v := ?_) (a' := ?_) #[tT, tT, tT, tT, fF, tT, tT, tT, fF, fF, fF, fF, fF, fF, fF, fF, fF] rfl rfl (any_of HT_.out (by kernel_rfl)) (fun _ _ _ h => h) (Or.inl ⟨by rfl, ?_⟩) ?_ ?_
                                  rotate_left
                                  · intro w'
                                    go_simp
                                    with_reducible rfl
                                  rotate_left
                                  · simp only [Act.put, sA, s0, s1, i64_w, i32_w]
                                    rfl
                                  refine pure_ (i := 8) (N := some 91) (v := ?_) (a' := ?_) #[tT, tT, tT, tT, fF, tT, tT, tT, tT, fF, fF, fF, fF, fF, fF, fF, fF] rfl rfl (any_of HT_.out (by kernel_rfl)) (fun _ _ _ h => h) (Or.inl ⟨by rfl, ?_⟩) ?_ ?_
                                  rotate_left
                                  · intro w'
                                    go_simp
                                    with_reducible rfl
                                  rotate_left
                                  · simp only [Act.put, sA, s0, s1, i64_w, i32_w]
                                    rfl
                                  refine pure_ (i := 10) (N := some 93) (v := ?_) (a' := ?_) #[tT, tT, tT, tT, fF, tT, tT, tT, tT, fF, tT, fF, fF, fF, fF, fF, fF] rfl rfl (any_of HT_.out (by kernel_rfl)) (fun _ _ _ h => h) (Or.inl ⟨by rfl, ?_⟩) ?_ ?_
                                  rotate_left
                                  · intro w'
                                    go_simp
                                    with_reducible rfl
                                  rotate_left
                                  · simp only [Act.put, sA, s0, s1, i64_w, i32_w]
                                    rfl
                                  refine pure_ (i := 11) (N := some 94) (v := ?_) (a' := ?_) #[tT, tT, tT, tT, fF, tT, tT, tT, tT, fF, tT, tT, fF, fF, fF, fF, fF] rfl rfl (any_of HT_.out (by kernel_rfl)) (fun _ _ _ h => h) (Or.inl ⟨by rfl, ?_⟩) ?_ ?_
                                  rotate_left
                                  · intro w'
                                    go_simp
                                    with_reducible rfl
                                  rotate_left
                                  · simp only [Act.put, sA, s0, s1, i64_w, i32_w]
                                    rfl
                                  refine pure_ (i := 12) (N := some 95) (v := ?_) (a' := ?_) #[tT, tT, tT, tT, fF, tT, tT, tT, tT, fF, tT, tT, tT, fF, fF, fF, fF] rfl rfl (any_of HT_.out (by kernel_rfl)) (fun _ _ _ h => h) (Or.inl ⟨by rfl, ?_⟩) ?_ ?_
                                  rotate_left
                                  · intro w'
                                    go_simp
                                    with_reducible rfl
                                  rotate_left
                                  · simp only [Act.put, sA, s0, s1, i64_w, i32_w]
                                    rfl
                                  refine pure_ (i := 13) (N := some 96) (v := ?_) (a' := ?_) #[tT, tT, tT, tT, fF, tT, tT, tT, tT, fF, tT, tT, tT, tT, fF, fF, fF] rfl rfl (any_of HT_.out (by kernel_rfl)) (fun _ _ _ h => h) (Or.inl ⟨by rfl, ?_⟩) ?_ ?_
                                  rotate_left
                                  · intro w'
                                    go_simp
                                    with_reducible rfl
                                  rotate_left
                                  · simp only [Act.put, sA, s0, s1, i64_w, i32_w]
                                    rfl
                                  refine take_ (i := 4) (N := some 87) (v := ?_) (a' := ?_) #[tT, tT, tT, tT, tT, tT, tT, tT, tT, fF, tT, tT, tT, tT, fF, fF, fF] rfl rfl (take_ofW HT_.out HW_.out (by kernel_rfl)) (fun _ _ _ h => h) (Or.inl ⟨by rfl, ?_⟩) hHeld ?_ ?_
                                  rotate_left
                                  · rintro w' ⟨s0, s1, s2, s3, s4, s5⟩
                                    go_simp
                                    with_reducible rfl
                                  rotate_left
                                  · simp only [Act.put, sA, s0, s1, i64_w, i32_w]
                                    rfl
                                  refine take_ (i := 9) (N := some 92) (v := ?_) (a' := ?_) #[tT, tT, tT, tT, tT, tT, tT, tT, tT, tT, tT, tT, tT, tT, fF, fF, fF] rfl rfl (take_ofW HT_.out HW_.out (by kernel_rfl)) (fun _ _ _ h => h) (Or.inl ⟨by rfl, ?_⟩) hHeld ?_ ?_
                                  rotate_left
                                  · rintro w' ⟨s0, s1, s2, s3, s4, s5⟩
                                    go_simp
                                    with_reducible rfl
                                  rotate_left
                                  · simp only [Act.put, sA, s0, s1, i64_w, i32_w]
                                    rfl
                                  refine take_ (i := 14) (N := some 97) (v := ?_) (a' := ?_) #[tT, tT, tT, tT, tT, tT, tT, tT, tT, tT, tT, tT, tT, tT, tT, fF, fF] rfl rfl (take_ofW HT_.out HW_.out (by kernel_rfl)) (fun _ _ _ h => h) (Or.inl ⟨by rfl, ?_⟩) hHeld ?_ ?_
                                  rotate_left
                                  · rintro w' ⟨s0, s1, s2, s3, s4, s5⟩
                                    go_simp
                                    with_reducible rfl
                                  rotate_left
                                  · simp only [Act.put, sA, s0, s1, i64_w, i32_w]
                                    rfl
                                  refine one_ (i := 15) (N := some 98) #[tT, tT, tT, tT, tT, tT, tT, tT, tT, tT, tT, tT, tT, tT, tT, tT, fF] rfl rfl (one_of HT_.out (by kernel_rfl)) (by decide) (fun K hK => ?_)
                                  refine goes_ Try.func17 (by kernel_rfl) rfl #[.int .u64 ((rd_T25 l0 x13_3).f0), .int .u64 ((rd_T25 l0 x13_3).f1), .int .u64 ((rd_T25 l0 x12_2).f0)] (by rfl) rfl rfl (by (try simp only [List.map_toArray, List.map_cons, List.map_nil]); first | done | rfl | (simp only [List.length_drop, List.length_take]; rfl)) ?_
                                  with_reducible refine (bezantref01_Below.calls ((rd_T25 l0 x13_3).f0) ((rd_T25 l0 x13_3).f1) ((rd_T25 l0 x12_2).f0) t153 _ A26.out).mono ?_
                                  rintro e w' ⟨rfl, ⟨nd, rfl⟩⟩
                                  refine ⟨_, rfl, ?_⟩
                                  refine hK.out _ _ ⟨((HB.out.cell (World.block_lt_of_cell? w _ hw150_0)).trans hw150_0), ((HB.out.cell (World.block_lt_of_cell? w _ hw150_1)).trans hw150_1), ((HB.out.cell (World.block_lt_of_cell? w _ hw151_0)).trans hw151_0), ((HB.out.cell (World.block_lt_of_cell? w _ hw151_1)).trans hw151_1), ((HB.out.cell (World.block_lt_of_cell? w _ hw152_0)).trans hw152_0), ((HB.out.cell (World.block_lt_of_cell? w _ hw152_1)).trans hw152_1)⟩ (fun hHeld => ?_)
                                  clear hK K
                                  refine norm_ (a' := ?_) ?_ ?_
                                  rotate_left
                                  · show Act.put _ (some 98) _ = _
                                    simp only [Act.put, sA, s0, s1, i64_w, i32_w]
                                    rfl
                                  refine pure_ (i := 16) (N := some 15) (v := ?_) (a' := ?_) #[tT, tT, tT, tT, tT, tT, tT, tT, tT, tT, tT, tT, tT, tT, tT, tT, tT] rfl rfl (any_of HT_.out (by kernel_rfl)) (fun _ _ _ h => h) (Or.inl ⟨by rfl, ?_⟩) ?_ ?_
                                  rotate_left
                                  · intro w'
                                    go_simp
                                    with_reducible rfl
                                  rotate_left
                                  · simp only [Act.put, sA, s0, s1, i64_w, i32_w]
                                    rfl
                                  refine done_ (done_of HT_.out (by kernel_rfl)) ?_
                                  try go_wp2
                                  go_roundg k3
                                  case measure => have := HJ4.out; have := HK2.out; have := HK3.out; omega
                                  case rel => exact ⟨(x8_3), (x9_3), (true), (false), (wrap64 (x13_3 + 1)), (by first | rfl | (simp; done) | (simp [*]; done)), (by first | rfl | (simp; done) | (simp [*]; done)), (by first | rfl | (simp; done) | (simp [*]; done)), (by first | rfl | (simp; done) | (simp [*]; done)), (by first | rfl | (simp; done) | (simp [*]; done)), H', ⟨by have := HJ4.out; have := HK2.out; have := HK3.out; omega⟩, ⟨by (with_reducible repeat (first | refine blk_drewN ?_ _ | refine blk_drew ?_ | refine blk_alloc ?_ _)); exact BK136.out⟩, ⟨by (with_reducible repeat (first | refine blk_drewN ?_ _ | refine blk_drew ?_ | refine blk_alloc ?_ _)); exact BK137.out⟩, ⟨by repeat (first | (with_reducible first | exact HB.out | apply below_alloc | apply pw_below_drewN | apply below_drew1 | refine below_set ?_ GE136.out | refine below_set ?_ GE137.out) | exact HB.out)⟩⟩
                              · replace c25 := Bool.eq_false_iff.mpr c25
                                subst c25
                                rw [if_neg (show ¬ (false = true) by decide)] at H
                                replace H := Option.bind_eq_some_iff.mp H
                                obtain ⟨t157, A320, H⟩ := H
                                (try dsimp only at H)
                                have A32 := Aside0.mk A320
                                clear A320
                                by_cases c33 : x11_3 = true
                                · subst c33
                                  rw [if_pos rfl] at H
                                  have H' := Aside0.mk H
                                  clear H
                                  try go_wp2
                                  have n0_ := Aside0.mk (blk_drew BK136.out)
                                  have n1_ := Aside0.mk (blk_drew BK137.out)
                                  have n2_ := Aside0.mk (below_drew1 HB.out)
                                  clear BK136
                                  clear BK137
                                  clear HB
                                  have BK136 := n0_
                                  have BK137 := n1_
                                  have HB := n2_
                                  clear n0_ n1_ n2_
                                  have p145 : 0 ≤ (x13_3 : Int) := of_decide_eq_true (by first | (with_reducible assumption) | assumption)
                                  have q145 : x13_3 < (l0.length : Int) := of_decide_eq_true (by first | (with_reducible assumption) | assumption)
                                  obtain ⟨ad145, e145, hx145_0, hx145_1⟩ := at_T25 HR0.out x13_3 p145 q145
                                  have hw145_1 := hx145_1
                                  have hw145_0 := hx145_0
                                  cases e145
                                  replace hx145_0 := (HB.out.cell (World.block_lt_of_cell? w _ hx145_0)).trans hx145_0
                                  replace hx145_1 := (HB.out.cell (World.block_lt_of_cell? w _ hx145_1)).trans hx145_1
                                  replace p145 := eq_true p145
                                  replace q145 := eq_true q145
                                  have p146 : 0 ≤ (x13_3 : Int) := of_decide_eq_true (by first | (with_reducible assumption) | assumption)
                                  have q146 : x13_3 < (l0.length : Int) := of_decide_eq_true (by first | (with_reducible assumption) | assumption)
                                  obtain ⟨ad146, e146, hx146_0, hx146_1⟩ := at_T25 HR0.out x13_3 p146 q146
                                  have hw146_1 := hx146_1
                                  have hw146_0 := hx146_0
                                  obtain rfl : ad145 = ad146 := (by injection e146)
                                  replace hx146_0 := (HB.out.cell (World.block_lt_of_cell? w _ hx146_0)).trans hx146_0
                                  replace hx146_1 := (HB.out.cell (World.block_lt_of_cell? w _ hx146_1)).trans hx146_1
                                  replace p146 := eq_true p146
                                  replace q146 := eq_true q146
                                  have p147 : 0 ≤ (x12_2 : Int) := of_decide_eq_true (by first | (with_reducible assumption) | assumption)
                                  have q147 : x12_2 < (l0.length : Int) := of_decide_eq_true (by first | (with_reducible assumption) | assumption)
                                  obtain ⟨ad147, e147, hx147_0, hx147_1⟩ := at_T25 HR0.out x12_2 p147 q147
                                  have hw147_1 := hx147_1
                                  have hw147_0 := hx147_0
                                  obtain rfl : ad145 = ad147 := (by injection e147)
                                  replace hx147_0 := (HB.out.cell (World.block_lt_of_cell? w _ hx147_0)).trans hx147_0
                                  replace hx147_1 := (HB.out.cell (World.block_lt_of_cell? w _ hx147_1)).trans hx147_1
                                  replace p147 := eq_true p147
                                  replace q147 := eq_true q147
                                  have p148 : 0 ≤ (x12_2 : Int) := of_decide_eq_true (by first | (with_reducible assumption) | assumption)
                                  have q148 : x12_2 < (l0.length : Int) := of_decide_eq_true (by first | (with_reducible assumption) | assumption)
                                  obtain ⟨ad148, e148, hx148_0, hx148_1⟩ := at_T25 HR0.out x12_2 p148 q148
                                  have hw148_1 := hx148_1
                                  have hw148_0 := hx148_0
                                  obtain rfl : ad145 = ad148 := (by injection e148)
                                  replace hx148_0 := (HB.out.cell (World.block_lt_of_cell? w _ hx148_0)).trans hx148_0
                                  replace hx148_1 := (HB.out.cell (World.block_lt_of_cell? w _ hx148_1)).trans hx148_1
                                  replace p148 := eq_true p148
                                  replace q148 := eq_true q148
                                  refine start_ (n := 22) (S := fun w' => w'.cell? (ad145.add ((x13_3).toNat * 2)) = some (.int .u64 ((rd_T25 l0 x13_3).f0)) ∧ w'.cell? ⟨(ad145.add ((x13_3).toNat * 2)).block, (ad145.add ((x13_3).toNat * 2)).off + 1, none⟩ = some (.int .u64 ((rd_T25 l0 x13_3).f1)) ∧ w'.cell? (ad145.add ((x13_3).toNat * 2)) = some (.int .u64 ((rd_T25 l0 x13_3).f0)) ∧ w'.cell? ⟨(ad145.add ((x13_3).toNat * 2)).block, (ad145.add ((x13_3).toNat * 2)).off + 1, none⟩ = some (.int .u64 ((rd_T25 l0 x13_3).f1)) ∧ w'.cell? (ad145.add ((x12_2).toNat * 2)) = some (.int .u64 ((rd_T25 l0 x12_2).f0)) ∧ w'.cell? ⟨(ad145.add ((x12_2).toNat * 2)).block, (ad145.add ((x12_2).toNat * 2)).off + 1, none⟩ = some (.int .u64 ((rd_T25 l0 x12_2).f1)) ∧ w'.cell? (ad145.add ((x12_2).toNat * 2)) = some (.int .u64 ((rd_T25 l0 x12_2).f0)) ∧ w'.cell? ⟨(ad145.add ((x12_2).toNat * 2)).block, (ad145.add ((x12_2).toNat * 2)).off + 1, none⟩ = some (.int .u64 ((rd_T25 l0 x12_2).f1))) (ds := []) #[fF, fF, fF, fF, fF, fF, fF, fF, fF, fF, fF, fF, fF, fF, fF, fF, fF, fF, fF, fF, fF, fF] (by kernel_rfl) rfl rfl ⟨((HB.out.cell (World.block_lt_of_cell? w _ hw145_0)).trans hw145_0), ((HB.out.cell (World.block_lt_of_cell? w _ hw145_1)).trans hw145_1), ((HB.out.cell (World.block_lt_of_cell? w _ hw146_0)).trans hw146_0), ((HB.out.cell (World.block_lt_of_cell? w _ hw146_1)).trans hw146_1), ((HB.out.cell (World.block_lt_of_cell? w _ hw147_0)).trans hw147_0), ((HB.out.cell (World.block_lt_of_cell? w _ hw147_1)).trans hw147_1), ((HB.out.cell (World.block_lt_of_cell? w _ hw148_0)).trans hw148_0), ((HB.out.cell (World.block_lt_of_cell? w _ hw148_1)).trans hw148_1)⟩ (fun hHeld => ?_); refine with_tabW bezantlaw02_SpanTells.tab14 bezantlaw02_SpanTells.bits14 (fun HT_ HW_ => ?_)
                                  generalize wr.drew = w34 at BK136 BK137 HB hx145_0 hx145_1 hx146_0 hx146_1 hx147_0 hx147_1 hx148_0 hx148_1 hHeld ⊢
                                  refine pure_ (i := 0) (N := some 55) (v := ?_) (a' := ?_) #[tT, fF, fF, fF, fF, fF, fF, fF, fF, fF, fF, fF, fF, fF, fF, fF, fF, fF, fF, fF, fF, fF] rfl rfl (any_of HT_.out (by kernel_rfl)) (fun _ _ _ h => h) (Or.inl ⟨by rfl, ?_⟩) ?_ ?_
                                  rotate_left
                                  · intro w'
                                    go_simp
                                    with_reducible rfl
                                  rotate_left
                                  · simp only [Act.put, sA, s0, s1, i64_w, i32_w]
                                    rfl
                                  refine pure_ (i := 1) (N := some 56) (v := ?_) (a' := ?_) #[tT, tT, fF, fF, fF, fF, fF, fF, fF, fF, fF, fF, fF, fF, fF, fF, fF, fF, fF, fF, fF, fF] rfl rfl (any_of HT_.out (by kernel_rfl)) (fun _ _ _ h => h) (Or.inl ⟨by rfl, ?_⟩) ?_ ?_
                                  rotate_left
                                  · intro w'
                                    go_simp
                                    with_reducible rfl
                                  rotate_left
                                  · simp only [Act.put, sA, s0, s1, i64_w, i32_w]
                                    rfl
                                  refine pure_ (i := 2) (N := some 57) (v := ?_) (a' := ?_) #[tT, tT, tT, fF, fF, fF, fF, fF, fF, fF, fF, fF, fF, fF, fF, fF, fF, fF, fF, fF, fF, fF] rfl rfl (any_of HT_.out (by kernel_rfl)) (fun _ _ _ h => h) (Or.inl ⟨by rfl, ?_⟩) ?_ ?_
                                  rotate_left
                                  · intro w'
                                    go_simp
                                    with_reducible rfl
                                  rotate_left
                                  · simp only [Act.put, sA, s0, s1, i64_w, i32_w]
                                    rfl
                                  refine pure_ (i := 3) (N := some 58) (v := ?_) (a' := ?_) #[tT, tT, tT, tT, fF, fF, fF, fF, fF, fF, fF, fF, fF, fF, fF, fF, fF, fF, fF, fF, fF, fF] rfl rfl (any_of HT_.out (by kernel_rfl)) (fun _ _ _ h => h) (Or.inl ⟨by rfl, ?_⟩) ?_ ?_
                                  rotate_left
                                  · intro w'
                                    go_simp
                                    with_reducible rfl
                                  rotate_left
                                  · simp only [Act.put, sA, s0, s1, i64_w, i32_w]
                                    rfl
                                  refine pure_ (i := 5) (N := some 60) (v := ?_) (a' := ?_) #[tT, tT, tT, tT, fF, tT, fF, fF, fF, fF, fF, fF, fF, fF, fF, fF, fF, fF, fF, fF, fF, fF] rfl rfl (any_of HT_.out (by kernel_rfl)) (fun _ _ _ h => h) (Or.inl ⟨by rfl, ?_⟩) ?_ ?_
                                  rotate_left
                                  · intro w'
                                    go_simp
                                    with_reducible rfl
                                  rotate_left
                                  · simp only [Act.put, sA, s0, s1, i64_w, i32_w]
                                    rfl
                                  refine pure_ (i := 6) (N := some 61) (v := ?_) (a' := ?_) #[tT, tT, tT, tT, fF, tT, tT, fF, fF, fF, fF, fF, fF, fF, fF, fF, fF, fF, fF, fF, fF, fF] rfl rfl (any_of HT_.out (by kernel_rfl)) (fun _ _ _ h => h) (Or.inl ⟨by rfl, ?_⟩) ?_ ?_
                                  rotate_left
                                  · intro w'
                                    go_simp
                                    with_reducible rfl
                                  rotate_left
                                  · simp only [Act.put, sA, s0, s1, i64_w, i32_w]
                                    rfl
                                  refine pure_ (i := 7) (N := some 62) (v := ?_) (a' := ?_) #[tT, tT, tT, tT, fF, tT, tT, tT, fF, fF, fF, fF, fF, fF, fF, fF, fF, fF, fF, fF, fF, fF] rfl rfl (any_of HT_.out (by kernel_rfl)) (fun _ _ _ h => h) (Or.inl ⟨by rfl, ?_⟩) ?_ ?_
                                  rotate_left
                                  · intro w'
                                    go_simp
                                    with_reducible rfl
                                  rotate_left
                                  · simp only [Act.put, sA, s0, s1, i64_w, i32_w]
                                    rfl
                                  refine pure_ (i := 8) (N := some 63) (v := ?_) (a' := ?_) #[tT, tT, tT, tT, fF, tT, tT, tT, tT, fF, fF, fF, fF, fF, fF, fF, fF, fF, fF, fF, fF, fF] rfl rfl (any_of HT_.out (by kernel_rfl)) (fun _ _ _ h => h) (Or.inl ⟨by rfl, ?_⟩) ?_ ?_
                                  rotate_left
                                  · intro w'
                                    go_simp
                                    with_reducible rfl
                                  rotate_left
                                  · simp only [Act.put, sA, s0, s1, i64_w, i32_w]
                                    rfl
                                  refine pure_ (i := 10) (N := some 65) (v := ?_) (a' := ?_) #[tT, tT, tT, tT, fF, tT, tT, tT, tT, fF, tT, fF, fF, fF, fF, fF, fF, fF, fF, fF, fF, fF] rfl rfl (any_of HT_.out (by kernel_rfl)) (fun _ _ _ h => h) (Or.inl ⟨by rfl, ?_⟩) ?_ ?_
                                  rotate_left
                                  · intro w'
                                    go_simp
                                    with_reducible rfl
                                  rotate_left
                                  · simp only [Act.put, sA, s0, s1, i64_w, i32_w]
                                    rfl
                                  refine pure_ (i := 11) (N := some 66) (v := ?_) (a' := ?_) #[tT, tT, tT, tT, fF, tT, tT, tT, tT, fF, tT, tT, fF, fF, fF, fF, fF, fF, fF, fF, fF, fF] rfl rfl (any_of HT_.out (by kernel_rfl)) (fun _ _ _ h => h) (Or.inl ⟨by rfl, ?_⟩) ?_ ?_
                                  rotate_left
                                  · intro w'
                                    go_simp
                                    with_reducible rfl
                                  rotate_left
                                  · simp only [Act.put, sA, s0, s1, i64_w, i32_w]
                                    rfl
                                  refine pure_ (i := 12) (N := some 67) (v := ?_) (a' := ?_) #[tT, tT, tT, tT, fF, tT, tT, tT, tT, fF, tT, tT, tT, fF, fF, fF, fF, fF, fF, fF, fF, fF] rfl rfl (any_of HT_.out (by kernel_rfl)) (fun _ _ _ h => h) (Or.inl ⟨by rfl, ?_⟩) ?_ ?_
                                  rotate_left
                                  · intro w'
                                    go_simp
                                    with_reducible rfl
                                  rotate_left
                                  · simp only [Act.put, sA, s0, s1, i64_w, i32_w]
                                    rfl
                                  refine pure_ (i := 13) (N := some 68) (v := ?_) (a' := ?_) #[tT, tT, tT, tT, fF, tT, tT, tT, tT, fF, tT, tT, tT, tT, fF, fF, fF, fF, fF, fF, fF, fF] rfl rfl (any_of HT_.out (by kernel_rfl)) (fun _ _ _ h => h) (Or.inl ⟨by rfl, ?_⟩) ?_ ?_
                                  rotate_left
                                  · intro w'
                                    go_simp
                                    with_reducible rfl
                                  rotate_left
                                  · simp only [Act.put, sA, s0, s1, i64_w, i32_w]
                                    rfl
                                  refine pure_ (i := 15) (N := some 70) (v := ?_) (a' := ?_) #[tT, tT, tT, tT, fF, tT, tT, tT, tT, fF, tT, tT, tT, tT, fF, tT, fF, fF, fF, fF, fF, fF] rfl rfl (any_of HT_.out (by kernel_rfl)) (fun _ _ _ h => h) (Or.inl ⟨by rfl, ?_⟩) ?_ ?_
                                  rotate_left
                                  · intro w'
                                    go_simp
                                    with_reducible rfl
                                  rotate_left
                                  · simp only [Act.put, sA, s0, s1, i64_w, i32_w]
                                    rfl
                                  refine pure_ (i := 16) (N := some 71) (v := ?_) (a' := ?_) #[tT, tT, tT, tT, fF, tT, tT, tT, tT, fF, tT, tT, tT, tT, fF, tT, tT, fF, fF, fF, fF, fF] rfl rfl (any_of HT_.out (by kernel_rfl)) (fun _ _ _ h => h) (Or.inl ⟨by rfl, ?_⟩) ?_ ?_
                                  rotate_left
                                  · intro w'
                                    go_simp
                                    with_reducible rfl
                                  rotate_left
                                  · simp only [Act.put, sA, s0, s1, i64_w, i32_w]
                                    rfl
                                  refine pure_ (i := 17) (N := some 72) (v := ?_) (a' := ?_) #[tT, tT, tT, tT, fF, tT, tT, tT, tT, fF, tT, tT, tT, tT, fF, tT, tT, tT, fF, fF, fF, fF] rfl rfl (any_of HT_.out (by kernel_rfl)) (fun _ _ _ h => h) (Or.inl ⟨by rfl, ?_⟩) ?_ ?_
                                  rotate_left
                                  · intro w'
                                    go_simp
                                    with_reducible rfl
                                  rotate_left
                                  · simp only [Act.put, sA, s0, s1, i64_w, i32_w]
                                    rfl
                                  refine pure_ (i := 18) (N := some 73) (v := ?_) (a' := ?_) #[tT, tT, tT, tT, fF, tT, tT, tT, tT, fF, tT, tT, tT, tT, fF, tT, tT, tT, tT, fF, fF, fF] rfl rfl (any_of HT_.out (by kernel_rfl)) (fun _ _ _ h => h) (Or.inl ⟨by rfl, ?_⟩) ?_ ?_
                                  rotate_left
                                  · intro w'
                                    go_simp
                                    with_reducible rfl
                                  rotate_left
                                  · simp only [Act.put, sA, s0, s1, i64_w, i32_w]
                                    rfl
                                  refine take_ (i := 4) (N := some 59) (v := ?_) (a' := ?_) #[tT, tT, tT, tT, tT, tT, tT, tT, tT, fF, tT, tT, tT, tT, fF, tT, tT, tT, tT, fF, fF, fF] rfl rfl (take_ofW HT_.out HW_.out (by kernel_rfl)) (fun _ _ _ h => h) (Or.inl ⟨by rfl, ?_⟩) hHeld ?_ ?_
                                  rotate_left
                                  · rintro w' ⟨s0, s1, s2, s3, s4, s5, s6, s7⟩
                                    go_simp
                                    with_reducible rfl
                                  rotate_left
                                  · simp only [Act.put, sA, s0, s1, i64_w, i32_w]
                                    rfl
                                  refine take_ (i := 9) (N := some 64) (v := ?_) (a' := ?_) #[tT, tT, tT, tT, tT, tT, tT, tT, tT, tT, tT, tT, tT, tT, fF, tT, tT, tT, tT, fF, fF, fF] rfl rfl (take_ofW HT_.out HW_.out (by kernel_rfl)) (fun _ _ _ h => h) (Or.inl ⟨by rfl, ?_⟩) hHeld ?_ ?_
                                  rotate_left
                                  · rintro w' ⟨s0, s1, s2, s3, s4, s5, s6, s7⟩
                                    go_simp
                                    with_reducible rfl
                                  rotate_left
                                  · simp only [Act.put, sA, s0, s1, i64_w, i32_w]
                                    rfl
                                  refine take_ (i := 14) (N := some 69) (v := ?_) (a' := ?_) #[tT, tT, tT, tT, tT, tT, tT, tT, tT, tT, tT, tT, tT, tT, tT, tT, tT, tT, tT, fF, fF, fF] rfl rfl (take_ofW HT_.out HW_.out (by kernel_rfl)) (fun _ _ _ h => h) (Or.inl ⟨by rfl, ?_⟩) hHeld ?_ ?_
                                  rotate_left
                                  · rintro w' ⟨s0, s1, s2, s3, s4, s5, s6, s7⟩
                                    go_simp
                                    with_reducible rfl
                                  rotate_left
                                  · simp only [Act.put, sA, s0, s1, i64_w, i32_w]
                                    rfl
                                  refine take_ (i := 19) (N := some 74) (v := ?_) (a' := ?_) #[tT, tT, tT, tT, tT, tT, tT, tT, tT, tT, tT, tT, tT, tT, tT, tT, tT, tT, tT, tT, fF, fF] rfl rfl (take_ofW HT_.out HW_.out (by kernel_rfl)) (fun _ _ _ h => h) (Or.inl ⟨by rfl, ?_⟩) hHeld ?_ ?_
                                  rotate_left
                                  · rintro w' ⟨s0, s1, s2, s3, s4, s5, s6, s7⟩
                                    go_simp
                                    with_reducible rfl
                                  rotate_left
                                  · simp only [Act.put, sA, s0, s1, i64_w, i32_w]
                                    rfl
                                  refine one_ (i := 20) (N := some 75) #[tT, tT, tT, tT, tT, tT, tT, tT, tT, tT, tT, tT, tT, tT, tT, tT, tT, tT, tT, tT, tT, fF] rfl rfl (one_of HT_.out (by kernel_rfl)) (by decide) (fun K hK => ?_)
                                  refine goes_ Try.func16 (by kernel_rfl) rfl #[.int .u64 ((rd_T25 l0 x13_3).f0), .int .u64 ((rd_T25 l0 x13_3).f1), .int .u64 ((rd_T25 l0 x12_2).f0), .int .u64 ((rd_T25 l0 x12_2).f1)] (by rfl) rfl rfl (by (try simp only [List.map_toArray, List.map_cons, List.map_nil]); first | done | rfl | (simp only [List.length_drop, List.length_take]; rfl)) ?_
                                  with_reducible refine (bezantref01_Meet.calls k3 ((rd_T25 l0 x13_3).f0) ((rd_T25 l0 x13_3).f1) ((rd_T25 l0 x12_2).f0) ((rd_T25 l0 x12_2).f1) true _ A23.out).mono ?_
                                  rintro e w' ⟨rfl, ⟨nd, rfl⟩⟩
                                  refine ⟨_, rfl, ?_⟩
                                  refine hK.out _ _ ⟨((HB.out.cell (World.block_lt_of_cell? w _ hw145_0)).trans hw145_0), ((HB.out.cell (World.block_lt_of_cell? w _ hw145_1)).trans hw145_1), ((HB.out.cell (World.block_lt_of_cell? w _ hw146_0)).trans hw146_0), ((HB.out.cell (World.block_lt_of_cell? w _ hw146_1)).trans hw146_1), ((HB.out.cell (World.block_lt_of_cell? w _ hw147_0)).trans hw147_0), ((HB.out.cell (World.block_lt_of_cell? w _ hw147_1)).trans hw147_1), ((HB.out.cell (World.block_lt_of_cell? w _ hw148_0)).trans hw148_0), ((HB.out.cell (World.block_lt_of_cell? w _ hw148_1)).trans hw148_1)⟩ (fun hHeld => ?_)
                                  clear hK K
                                  refine norm_ (a' := ?_) ?_ ?_
                                  rotate_left
                                  · show Act.put _ (some 75) _ = _
                                    simp only [Act.put, sA, s0, s1, i64_w, i32_w]
                                    rfl
                                  refine pure_ (i := 21) (N := some 14) (v := ?_) (a' := ?_) #[tT, tT, tT, tT, tT, tT, tT, tT, tT, tT, tT, tT, tT, tT, tT, tT, tT, tT, tT, tT, tT, tT] rfl rfl (any_of HT_.out (by kernel_rfl)) (fun _ _ _ h => h) (Or.inl ⟨by rfl, ?_⟩) ?_ ?_
                                  rotate_left
                                  · intro w'
                                    go_simp
                                    with_reducible rfl
                                  rotate_left
                                  · simp only [Act.put, sA, s0, s1, i64_w, i32_w]
                                    rfl
                                  refine done_ (done_of HT_.out (by kernel_rfl)) ?_
                                  try go_wp2
                                  (try (rw [drewN_self w34]; generalize hq_ : World.drewN w34 _ = w34; have n0_ : Aside0 (w34.heap[gb136]? = some (.cells #[.int .u64 a1_0, .int .u64 a1_1] 25 (0, 0))) := ⟨by rw [← hq_]; exact (by (with_reducible repeat (first | refine blk_drewN ?_ _ | refine blk_drew ?_ | refine blk_alloc ?_ _)); exact BK136.out)⟩; have n1_ : Aside0 (w34.heap[gb137]? = some (.cells #[.int .u64 a2_0, .int .u64 a2_1] 25 (0, 0))) := ⟨by rw [← hq_]; exact (by (with_reducible repeat (first | refine blk_drewN ?_ _ | refine blk_drew ?_ | refine blk_alloc ?_ _)); exact BK137.out)⟩; have n2_ : Aside0 (Below w.heap.size w w34) := ⟨by rw [← hq_]; exact (by repeat (first | (with_reducible first | exact HB.out | apply below_alloc | apply pw_below_drewN | apply below_drew1 | refine below_set ?_ GE136.out | refine below_set ?_ GE137.out) | exact HB.out))⟩; clear BK136 BK137 HB hq_; have BK136 := n0_; have BK137 := n1_; have HB := n2_; clear n0_ n1_ n2_))
                                  have n0_ := Aside0.mk (blk_drew BK136.out)
                                  have n1_ := Aside0.mk (blk_drew BK137.out)
                                  have n2_ := Aside0.mk (below_drew1 HB.out)
                                  clear BK136
                                  clear BK137
                                  clear HB
                                  have BK136 := n0_
                                  have BK137 := n1_
                                  have HB := n2_
                                  clear n0_ n1_ n2_
                                  have p154 : 0 ≤ (x13_3 : Int) := of_decide_eq_true (by first | (with_reducible assumption) | assumption)
                                  have q154 : x13_3 < (l0.length : Int) := of_decide_eq_true (by first | (with_reducible assumption) | assumption)
                                  obtain ⟨ad154, e154, hx154_0, hx154_1⟩ := at_T25 HR0.out x13_3 p154 q154
                                  have hw154_1 := hx154_1
                                  have hw154_0 := hx154_0
                                  obtain rfl : ad145 = ad154 := (by injection e154)
                                  replace hx154_0 := (HB.out.cell (World.block_lt_of_cell? w _ hx154_0)).trans hx154_0
                                  replace hx154_1 := (HB.out.cell (World.block_lt_of_cell? w _ hx154_1)).trans hx154_1
                                  replace p154 := eq_true p154
                                  replace q154 := eq_true q154
                                  have p155 : 0 ≤ (x13_3 : Int) := of_decide_eq_true (by first | (with_reducible assumption) | assumption)
                                  have q155 : x13_3 < (l0.length : Int) := of_decide_eq_true (by first | (with_reducible assumption) | assumption)
                                  obtain ⟨ad155, e155, hx155_0, hx155_1⟩ := at_T25 HR0.out x13_3 p155 q155
                                  have hw155_1 := hx155_1
                                  have hw155_0 := hx155_0
                                  obtain rfl : ad145 = ad155 := (by injection e155)
                                  replace hx155_0 := (HB.out.cell (World.block_lt_of_cell? w _ hx155_0)).trans hx155_0
                                  replace hx155_1 := (HB.out.cell (World.block_lt_of_cell? w _ hx155_1)).trans hx155_1
                                  replace p155 := eq_true p155
                                  replace q155 := eq_true q155
                                  have p156 : 0 ≤ (x12_2 : Int) := of_decide_eq_true (by first | (with_reducible assumption) | assumption)
                                  have q156 : x12_2 < (l0.length : Int) := of_decide_eq_true (by first | (with_reducible assumption) | assumption)
                                  obtain ⟨ad156, e156, hx156_0, hx156_1⟩ := at_T25 HR0.out x12_2 p156 q156
                                  have hw156_1 := hx156_1
                                  have hw156_0 := hx156_0
                                  obtain rfl : ad145 = ad156 := (by injection e156)
                                  replace hx156_0 := (HB.out.cell (World.block_lt_of_cell? w _ hx156_0)).trans hx156_0
                                  replace hx156_1 := (HB.out.cell (World.block_lt_of_cell? w _ hx156_1)).trans hx156_1
                                  replace p156 := eq_true p156
                                  replace q156 := eq_true q156
                                  refine start_ (n := 17) (S := fun w' => w'.cell? (ad145.add ((x13_3).toNat * 2)) = some (.int .u64 ((rd_T25 l0 x13_3).f0)) ∧ w'.cell? ⟨(ad145.add ((x13_3).toNat * 2)).block, (ad145.add ((x13_3).toNat * 2)).off + 1, none⟩ = some (.int .u64 ((rd_T25 l0 x13_3).f1)) ∧ w'.cell? (ad145.add ((x13_3).toNat * 2)) = some (.int .u64 ((rd_T25 l0 x13_3).f0)) ∧ w'.cell? ⟨(ad145.add ((x13_3).toNat * 2)).block, (ad145.add ((x13_3).toNat * 2)).off + 1, none⟩ = some (.int .u64 ((rd_T25 l0 x13_3).f1)) ∧ w'.cell? (ad145.add ((x12_2).toNat * 2)) = some (.int .u64 ((rd_T25 l0 x12_2).f0)) ∧ w'.cell? ⟨(ad145.add ((x12_2).toNat * 2)).block, (ad145.add ((x12_2).toNat * 2)).off + 1, none⟩ = some (.int .u64 ((rd_T25 l0 x12_2).f1))) (ds := []) #[fF, fF, fF, fF, fF, fF, fF, fF, fF, fF, fF, fF, fF, fF, fF, fF, fF] (by kernel_rfl) rfl rfl ⟨((HB.out.cell (World.block_lt_of_cell? w _ hw154_0)).trans hw154_0), ((HB.out.cell (World.block_lt_of_cell? w _ hw154_1)).trans hw154_1), ((HB.out.cell (World.block_lt_of_cell? w _ hw155_0)).trans hw155_0), ((HB.out.cell (World.block_lt_of_cell? w _ hw155_1)).trans hw155_1), ((HB.out.cell (World.block_lt_of_cell? w _ hw156_0)).trans hw156_0), ((HB.out.cell (World.block_lt_of_cell? w _ hw156_1)).trans hw156_1)⟩ (fun hHeld => ?_); refine with_tabW bezantlaw02_SpanTells.tab19 bezantlaw02_SpanTells.bits19 (fun HT_ HW_ => ?_)
                                  generalize w34.drew = w35 at BK136 BK137 HB hx154_0 hx154_1 hx155_0 hx155_1 hx156_0 hx156_1 hHeld ⊢
                                  refine pure_ (i := 0) (N := some 83) (v := ?_) (a' := ?_) #[tT, fF, fF, fF, fF, fF, fF, fF, fF, fF, fF, fF, fF, fF, fF, fF, fF] rfl rfl (any_of HT_.out (by kernel_rfl)) (fun _ _ _ h => h) (Or.inl ⟨by rfl, ?_⟩) ?_ ?_
                                  rotate_left
                                  · intro w'
                                    go_simp
                                    with_reducible rfl
                                  rotate_left
                                  · simp only [Act.put, sA, s0, s1, i64_w, i32_w]
                                    rfl
                                  refine pure_ (i := 1) (N := some 84) (v := ?_) (a' := ?_) #[tT, tT, fF, fF, fF, fF, fF, fF, fF, fF, fF, fF, fF, fF, fF, fF, fF] rfl rfl (any_of HT_.out (by kernel_rfl)) (fun _ _ _ h => h) (Or.inl ⟨by rfl, ?_⟩) ?_ ?_
                                  rotate_left
                                  · intro w'
                                    go_simp
                                    with_reducible rfl
                                  rotate_left
                                  · simp only [Act.put, sA, s0, s1, i64_w, i32_w]
                                    rfl
                                  refine pure_ (i := 2) (N := some 85) (v := ?_) (a' := ?_) #[tT, tT, tT, fF, fF, fF, fF, fF, fF, fF, fF, fF, fF, fF, fF, fF, fF] rfl rfl (any_of HT_.out (by kernel_rfl)) (fun _ _ _ h => h) (Or.inl ⟨by rfl, ?_⟩) ?_ ?_
                                  rotate_left
                                  · intro w'
                                    go_simp
                                    with_reducible rfl
                                  rotate_left
                                  · simp only [Act.put, sA, s0, s1, i64_w, i32_w]
                                    rfl
                                  refine pure_ (i := 3) (N := some 86) (v := ?_) (a' := ?_) #[tT, tT, tT, tT, fF, fF, fF, fF, fF, fF, fF, fF, fF, fF, fF, fF, fF] rfl rfl (any_of HT_.out (by kernel_rfl)) (fun _ _ _ h => h) (Or.inl ⟨by rfl, ?_⟩) ?_ ?_
                                  rotate_left
                                  · intro w'
                                    go_simp
                                    with_reducible rfl
                                  rotate_left
                                  · simp only [Act.put, sA, s0, s1, i64_w, i32_w]
                                    rfl
                                  refine pure_ (i := 5) (N := some 88) (v := ?_) (a' := ?_) #[tT, tT, tT, tT, fF, tT, fF, fF, fF, fF, fF, fF, fF, fF, fF, fF, fF] rfl rfl (any_of HT_.out (by kernel_rfl)) (fun _ _ _ h => h) (Or.inl ⟨by rfl, ?_⟩) ?_ ?_
                                  rotate_left
                                  · intro w'
                                    go_simp
                                    with_reducible rfl
                                  rotate_left
                                  · simp only [Act.put, sA, s0, s1, i64_w, i32_w]
                                    rfl
                                  refine pure_ (i := 6) (N := some 89) (v := ?_) (a' := ?_) #[tT, tT, tT, tT, fF, tT, tT, fF, fF, fF, fF, fF, fF, fF, fF, fF, fF] rfl rfl (any_of HT_.out (by kernel_rfl)) (fun _ _ _ h => h) (Or.inl ⟨by rfl, ?_⟩) ?_ ?_
                                  rotate_left
                                  · intro w'
                                    go_simp
                                    with_reducible rfl
                                  rotate_left
                                  · simp only [Act.put, sA, s0, s1, i64_w, i32_w]
                                    rfl
                                  refine pure_ (i := 7) (N := some 90) (v := ?_) (a' := ?_) #[tT, tT, tT, tT, fF, tT, tT, tT, fF, fF, fF, fF, fF, fF, fF, fF, fF] rfl rfl (any_of HT_.out (by kernel_rfl)) (fun _ _ _ h => h) (Or.inl ⟨by rfl, ?_⟩) ?_ ?_
                                  rotate_left
                                  · intro w'
                                    go_simp
                                    with_reducible rfl
                                  rotate_left
                                  · simp only [Act.put, sA, s0, s1, i64_w, i32_w]
                                    rfl
                                  refine pure_ (i := 8) (N := some 91) (v := ?_) (a' := ?_) #[tT, tT, tT, tT, fF, tT, tT, tT, tT, fF, fF, fF, fF, fF, fF, fF, fF] rfl rfl (any_of HT_.out (by kernel_rfl)) (fun _ _ _ h => h) (Or.inl ⟨by rfl, ?_⟩) ?_ ?_
                                  rotate_left
                                  · intro w'
                                    go_simp
                                    with_reducible rfl
                                  rotate_left
                                  · simp only [Act.put, sA, s0, s1, i64_w, i32_w]
                                    rfl
                                  refine pure_ (i := 10) (N := some 93) (v := ?_) (a' := ?_) #[tT, tT, tT, tT, fF, tT, tT, tT, tT, fF, tT, fF, fF, fF, fF, fF, fF] rfl rfl (any_of HT_.out (by kernel_rfl)) (fun _ _ _ h => h) (Or.inl ⟨by rfl, ?_⟩) ?_ ?_
                                  rotate_left
                                  · intro w'
                                    go_simp
                                    with_reducible rfl
                                  rotate_left
                                  · simp only [Act.put, sA, s0, s1, i64_w, i32_w]
                                    rfl
                                  refine pure_ (i := 11) (N := some 94) (v := ?_) (a' := ?_) #[tT, tT, tT, tT, fF, tT, tT, tT, tT, fF, tT, tT, fF, fF, fF, fF, fF] rfl rfl (any_of HT_.out (by kernel_rfl)) (fun _ _ _ h => h) (Or.inl ⟨by rfl, ?_⟩) ?_ ?_
                                  rotate_left
                                  · intro w'
                                    go_simp
                                    with_reducible rfl
                                  rotate_left
                                  · simp only [Act.put, sA, s0, s1, i64_w, i32_w]
                                    rfl
                                  refine pure_ (i := 12) (N := some 95) (v := ?_) (a' := ?_) #[tT, tT, tT, tT, fF, tT, tT, tT, tT, fF, tT, tT, tT, fF, fF, fF, fF] rfl rfl (any_of HT_.out (by kernel_rfl)) (fun _ _ _ h => h) (Or.inl ⟨by rfl, ?_⟩) ?_ ?_
                                  rotate_left
                                  · intro w'
                                    go_simp
                                    with_reducible rfl
                                  rotate_left
                                  · simp only [Act.put, sA, s0, s1, i64_w, i32_w]
                                    rfl
                                  refine pure_ (i := 13) (N := some 96) (v := ?_) (a' := ?_) #[tT, tT, tT, tT, fF, tT, tT, tT, tT, fF, tT, tT, tT, tT, fF, fF, fF] rfl rfl (any_of HT_.out (by kernel_rfl)) (fun _ _ _ h => h) (Or.inl ⟨by rfl, ?_⟩) ?_ ?_
                                  rotate_left
                                  · intro w'
                                    go_simp
                                    with_reducible rfl
                                  rotate_left
                                  · simp only [Act.put, sA, s0, s1, i64_w, i32_w]
                                    rfl
                                  refine take_ (i := 4) (N := some 87) (v := ?_) (a' := ?_) #[tT, tT, tT, tT, tT, tT, tT, tT, tT, fF, tT, tT, tT, tT, fF, fF, fF] rfl rfl (take_ofW HT_.out HW_.out (by kernel_rfl)) (fun _ _ _ h => h) (Or.inl ⟨by rfl, ?_⟩) hHeld ?_ ?_
                                  rotate_left
                                  · rintro w' ⟨s0, s1, s2, s3, s4, s5⟩
                                    go_simp
                                    with_reducible rfl
                                  rotate_left
                                  · simp only [Act.put, sA, s0, s1, i64_w, i32_w]
                                    rfl
                                  refine take_ (i := 9) (N := some 92) (v := ?_) (a' := ?_) #[tT, tT, tT, tT, tT, tT, tT, tT, tT, tT, tT, tT, tT, tT, fF, fF, fF] rfl rfl (take_ofW HT_.out HW_.out (by kernel_rfl)) (fun _ _ _ h => h) (Or.inl ⟨by rfl, ?_⟩) hHeld ?_ ?_
                                  rotate_left
                                  · rintro w' ⟨s0, s1, s2, s3, s4, s5⟩
                                    go_simp
                                    with_reducible rfl
                                  rotate_left
                                  · simp only [Act.put, sA, s0, s1, i64_w, i32_w]
                                    rfl
                                  refine take_ (i := 14) (N := some 97) (v := ?_) (a' := ?_) #[tT, tT, tT, tT, tT, tT, tT, tT, tT, tT, tT, tT, tT, tT, tT, fF, fF] rfl rfl (take_ofW HT_.out HW_.out (by kernel_rfl)) (fun _ _ _ h => h) (Or.inl ⟨by rfl, ?_⟩) hHeld ?_ ?_
                                  rotate_left
                                  · rintro w' ⟨s0, s1, s2, s3, s4, s5⟩
                                    go_simp
                                    with_reducible rfl
                                  rotate_left
                                  · simp only [Act.put, sA, s0, s1, i64_w, i32_w]
                                    rfl
                                  refine one_ (i := 15) (N := some 98) #[tT, tT, tT, tT, tT, tT, tT, tT, tT, tT, tT, tT, tT, tT, tT, tT, fF] rfl rfl (one_of HT_.out (by kernel_rfl)) (by decide) (fun K hK => ?_)
                                  refine goes_ Try.func17 (by kernel_rfl) rfl #[.int .u64 ((rd_T25 l0 x13_3).f0), .int .u64 ((rd_T25 l0 x13_3).f1), .int .u64 ((rd_T25 l0 x12_2).f0)] (by rfl) rfl rfl (by (try simp only [List.map_toArray, List.map_cons, List.map_nil]); first | done | rfl | (simp only [List.length_drop, List.length_take]; rfl)) ?_
                                  with_reducible refine (bezantref01_Below.calls ((rd_T25 l0 x13_3).f0) ((rd_T25 l0 x13_3).f1) ((rd_T25 l0 x12_2).f0) t157 _ A32.out).mono ?_
                                  rintro e w' ⟨rfl, ⟨nd, rfl⟩⟩
                                  refine ⟨_, rfl, ?_⟩
                                  refine hK.out _ _ ⟨((HB.out.cell (World.block_lt_of_cell? w _ hw154_0)).trans hw154_0), ((HB.out.cell (World.block_lt_of_cell? w _ hw154_1)).trans hw154_1), ((HB.out.cell (World.block_lt_of_cell? w _ hw155_0)).trans hw155_0), ((HB.out.cell (World.block_lt_of_cell? w _ hw155_1)).trans hw155_1), ((HB.out.cell (World.block_lt_of_cell? w _ hw156_0)).trans hw156_0), ((HB.out.cell (World.block_lt_of_cell? w _ hw156_1)).trans hw156_1)⟩ (fun hHeld => ?_)
                                  clear hK K
                                  refine norm_ (a' := ?_) ?_ ?_
                                  rotate_left
                                  · show Act.put _ (some 98) _ = _
                                    simp only [Act.put, sA, s0, s1, i64_w, i32_w]
                                    rfl
                                  refine pure_ (i := 16) (N := some 15) (v := ?_) (a' := ?_) #[tT, tT, tT, tT, tT, tT, tT, tT, tT, tT, tT, tT, tT, tT, tT, tT, tT] rfl rfl (any_of HT_.out (by kernel_rfl)) (fun _ _ _ h => h) (Or.inl ⟨by rfl, ?_⟩) ?_ ?_
                                  rotate_left
                                  · intro w'
                                    go_simp
                                    with_reducible rfl
                                  rotate_left
                                  · simp only [Act.put, sA, s0, s1, i64_w, i32_w]
                                    rfl
                                  refine done_ (done_of HT_.out (by kernel_rfl)) ?_
                                  try go_wp2
                                  go_roundg k3
                                  case measure => have := HJ4.out; have := HK2.out; have := HK3.out; omega
                                  case rel => exact ⟨(x13_3), (x12_2), (true), (t157), (wrap64 (x13_3 + 1)), (by first | rfl | (simp; done) | (simp [*]; done)), (by first | rfl | (simp; done) | (simp [*]; done)), (by first | rfl | (simp; done) | (simp [*]; done)), (by first | rfl | (simp; done) | (simp [*]; done)), (by first | rfl | (simp; done) | (simp [*]; done)), H', ⟨by have := HJ4.out; have := HK2.out; have := HK3.out; omega⟩, ⟨by (with_reducible repeat (first | refine blk_drewN ?_ _ | refine blk_drew ?_ | refine blk_alloc ?_ _)); exact BK136.out⟩, ⟨by (with_reducible repeat (first | refine blk_drewN ?_ _ | refine blk_drew ?_ | refine blk_alloc ?_ _)); exact BK137.out⟩, ⟨by repeat (first | (with_reducible first | exact HB.out | apply below_alloc | apply pw_below_drewN | apply below_drew1 | refine below_set ?_ GE136.out | refine below_set ?_ GE137.out) | exact HB.out)⟩⟩
                                · replace c33 := Bool.eq_false_iff.mpr c33
                                  subst c33
                                  rw [if_neg (show ¬ (false = true) by decide)] at H
                                  have H' := Aside0.mk H
                                  clear H
                                  try go_wp2
                                  have n0_ := Aside0.mk (blk_drew BK136.out)
                                  have n1_ := Aside0.mk (blk_drew BK137.out)
                                  have n2_ := Aside0.mk (below_drew1 HB.out)
                                  clear BK136
                                  clear BK137
                                  clear HB
                                  have BK136 := n0_
                                  have BK137 := n1_
                                  have HB := n2_
                                  clear n0_ n1_ n2_
                                  have p145 : 0 ≤ (x13_3 : Int) := of_decide_eq_true (by first | (with_reducible assumption) | assumption)
                                  have q145 : x13_3 < (l0.length : Int) := of_decide_eq_true (by first | (with_reducible assumption) | assumption)
                                  obtain ⟨ad145, e145, hx145_0, hx145_1⟩ := at_T25 HR0.out x13_3 p145 q145
                                  have hw145_1 := hx145_1
                                  have hw145_0 := hx145_0
                                  cases e145
                                  replace hx145_0 := (HB.out.cell (World.block_lt_of_cell? w _ hx145_0)).trans hx145_0
                                  replace hx145_1 := (HB.out.cell (World.block_lt_of_cell? w _ hx145_1)).trans hx145_1
                                  replace p145 := eq_true p145
                                  replace q145 := eq_true q145
                                  have p146 : 0 ≤ (x13_3 : Int) := of_decide_eq_true (by first | (with_reducible assumption) | assumption)
                                  have q146 : x13_3 < (l0.length : Int) := of_decide_eq_true (by first | (with_reducible assumption) | assumption)
                                  obtain ⟨ad146, e146, hx146_0, hx146_1⟩ := at_T25 HR0.out x13_3 p146 q146
                                  have hw146_1 := hx146_1
                                  have hw146_0 := hx146_0
                                  obtain rfl : ad145 = ad146 := (by injection e146)
                                  replace hx146_0 := (HB.out.cell (World.block_lt_of_cell? w _ hx146_0)).trans hx146_0
                                  replace hx146_1 := (HB.out.cell (World.block_lt_of_cell? w _ hx146_1)).trans hx146_1
                                  replace p146 := eq_true p146
                                  replace q146 := eq_true q146
                                  have p147 : 0 ≤ (x12_2 : Int) := of_decide_eq_true (by first | (with_reducible assumption) | assumption)
                                  have q147 : x12_2 < (l0.length : Int) := of_decide_eq_true (by first | (with_reducible assumption) | assumption)
                                  obtain ⟨ad147, e147, hx147_0, hx147_1⟩ := at_T25 HR0.out x12_2 p147 q147
                                  have hw147_1 := hx147_1
                                  have hw147_0 := hx147_0
                                  obtain rfl : ad145 = ad147 := (by injection e147)
                                  replace hx147_0 := (HB.out.cell (World.block_lt_of_cell? w _ hx147_0)).trans hx147_0
                                  replace hx147_1 := (HB.out.cell (World.block_lt_of_cell? w _ hx147_1)).trans hx147_1
                                  replace p147 := eq_true p147
                                  replace q147 := eq_true q147
                                  have p148 : 0 ≤ (x12_2 : Int) := of_decide_eq_true (by first | (with_reducible assumption) | assumption)
                                  have q148 : x12_2 < (l0.length : Int) := of_decide_eq_true (by first | (with_reducible assumption) | assumption)
                                  obtain ⟨ad148, e148, hx148_0, hx148_1⟩ := at_T25 HR0.out x12_2 p148 q148
                                  have hw148_1 := hx148_1
                                  have hw148_0 := hx148_0
                                  obtain rfl : ad145 = ad148 := (by injection e148)
                                  replace hx148_0 := (HB.out.cell (World.block_lt_of_cell? w _ hx148_0)).trans hx148_0
                                  replace hx148_1 := (HB.out.cell (World.block_lt_of_cell? w _ hx148_1)).trans hx148_1
                                  replace p148 := eq_true p148
                                  replace q148 := eq_true q148
                                  refine start_ (n := 22) (S := fun w' => w'.cell? (ad145.add ((x13_3).toNat * 2)) = some (.int .u64 ((rd_T25 l0 x13_3).f0)) ∧ w'.cell? ⟨(ad145.add ((x13_3).toNat * 2)).block, (ad145.add ((x13_3).toNat * 2)).off + 1, none⟩ = some (.int .u64 ((rd_T25 l0 x13_3).f1)) ∧ w'.cell? (ad145.add ((x13_3).toNat * 2)) = some (.int .u64 ((rd_T25 l0 x13_3).f0)) ∧ w'.cell? ⟨(ad145.add ((x13_3).toNat * 2)).block, (ad145.add ((x13_3).toNat * 2)).off + 1, none⟩ = some (.int .u64 ((rd_T25 l0 x13_3).f1)) ∧ w'.cell? (ad145.add ((x12_2).toNat * 2)) = some (.int .u64 ((rd_T25 l0 x12_2).f0)) ∧ w'.cell? ⟨(ad145.add ((x12_2).toNat * 2)).block, (ad145.add ((x12_2).toNat * 2)).off + 1, none⟩ = some (.int .u64 ((rd_T25 l0 x12_2).f1)) ∧ w'.cell? (ad145.add ((x12_2).toNat * 2)) = some (.int .u64 ((rd_T25 l0 x12_2).f0)) ∧ w'.cell? ⟨(ad145.add ((x12_2).toNat * 2)).block, (ad145.add ((x12_2).toNat * 2)).off + 1, none⟩ = some (.int .u64 ((rd_T25 l0 x12_2).f1))) (ds := []) #[fF, fF, fF, fF, fF, fF, fF, fF, fF, fF, fF, fF, fF, fF, fF, fF, fF, fF, fF, fF, fF, fF] (by kernel_rfl) rfl rfl ⟨((HB.out.cell (World.block_lt_of_cell? w _ hw145_0)).trans hw145_0), ((HB.out.cell (World.block_lt_of_cell? w _ hw145_1)).trans hw145_1), ((HB.out.cell (World.block_lt_of_cell? w _ hw146_0)).trans hw146_0), ((HB.out.cell (World.block_lt_of_cell? w _ hw146_1)).trans hw146_1), ((HB.out.cell (World.block_lt_of_cell? w _ hw147_0)).trans hw147_0), ((HB.out.cell (World.block_lt_of_cell? w _ hw147_1)).trans hw147_1), ((HB.out.cell (World.block_lt_of_cell? w _ hw148_0)).trans hw148_0), ((HB.out.cell (World.block_lt_of_cell? w _ hw148_1)).trans hw148_1)⟩ (fun hHeld => ?_); refine with_tabW bezantlaw02_SpanTells.tab14 bezantlaw02_SpanTells.bits14 (fun HT_ HW_ => ?_)
                                  generalize wr.drew = w36 at BK136 BK137 HB hx145_0 hx145_1 hx146_0 hx146_1 hx147_0 hx147_1 hx148_0 hx148_1 hHeld ⊢
                                  refine pure_ (i := 0) (N := some 55) (v := ?_) (a' := ?_) #[tT, fF, fF, fF, fF, fF, fF, fF, fF, fF, fF, fF, fF, fF, fF, fF, fF, fF, fF, fF, fF, fF] rfl rfl (any_of HT_.out (by kernel_rfl)) (fun _ _ _ h => h) (Or.inl ⟨by rfl, ?_⟩) ?_ ?_
                                  rotate_left
                                  · intro w'
                                    go_simp
                                    with_reducible rfl
                                  rotate_left
                                  · simp only [Act.put, sA, s0, s1, i64_w, i32_w]
                                    rfl
                                  refine pure_ (i := 1) (N := some 56) (v := ?_) (a' := ?_) #[tT, tT, fF, fF, fF, fF, fF, fF, fF, fF, fF, fF, fF, fF, fF, fF, fF, fF, fF, fF, fF, fF] rfl rfl (any_of HT_.out (by kernel_rfl)) (fun _ _ _ h => h) (Or.inl ⟨by rfl, ?_⟩) ?_ ?_
                                  rotate_left
                                  · intro w'
                                    go_simp
                                    with_reducible rfl
                                  rotate_left
                                  · simp only [Act.put, sA, s0, s1, i64_w, i32_w]
                                    rfl
                                  refine pure_ (i := 2) (N := some 57) (v := ?_) (a' := ?_) #[tT, tT, tT, fF, fF, fF, fF, fF, fF, fF, fF, fF, fF, fF, fF, fF, fF, fF, fF, fF, fF, fF] rfl rfl (any_of HT_.out (by kernel_rfl)) (fun _ _ _ h => h) (Or.inl ⟨by rfl, ?_⟩) ?_ ?_
                                  rotate_left
                                  · intro w'
                                    go_simp
                                    with_reducible rfl
                                  rotate_left
                                  · simp only [Act.put, sA, s0, s1, i64_w, i32_w]
                                    rfl
                                  refine pure_ (i := 3) (N := some 58) (v := ?_) (a' := ?_) #[tT, tT, tT, tT, fF, fF, fF, fF, fF, fF, fF, fF, fF, fF, fF, fF, fF, fF, fF, fF, fF, fF] rfl rfl (any_of HT_.out (by kernel_rfl)) (fun _ _ _ h => h) (Or.inl ⟨by rfl, ?_⟩) ?_ ?_
                                  rotate_left
                                  · intro w'
                                    go_simp
                                    with_reducible rfl
                                  rotate_left
                                  · simp only [Act.put, sA, s0, s1, i64_w, i32_w]
                                    rfl
                                  refine pure_ (i := 5) (N := some 60) (v := ?_) (a' := ?_) #[tT, tT, tT, tT, fF, tT, fF, fF, fF, fF, fF, fF, fF, fF, fF, fF, fF, fF, fF, fF, fF, fF] rfl rfl (any_of HT_.out (by kernel_rfl)) (fun _ _ _ h => h) (Or.inl ⟨by rfl, ?_⟩) ?_ ?_
                                  rotate_left
                                  · intro w'
                                    go_simp
                                    with_reducible rfl
                                  rotate_left
                                  · simp only [Act.put, sA, s0, s1, i64_w, i32_w]
                                    rfl
                                  refine pure_ (i := 6) (N := some 61) (v := ?_) (a' := ?_) #[tT, tT, tT, tT, fF, tT, tT, fF, fF, fF, fF, fF, fF, fF, fF, fF, fF, fF, fF, fF, fF, fF] rfl rfl (any_of HT_.out (by kernel_rfl)) (fun _ _ _ h => h) (Or.inl ⟨by rfl, ?_⟩) ?_ ?_
                                  rotate_left
                                  · intro w'
                                    go_simp
                                    with_reducible rfl
                                  rotate_left
                                  · simp only [Act.put, sA, s0, s1, i64_w, i32_w]
                                    rfl
                                  refine pure_ (i := 7) (N := some 62) (v := ?_) (a' := ?_) #[tT, tT, tT, tT, fF, tT, tT, tT, fF, fF, fF, fF, fF, fF, fF, fF, fF, fF, fF, fF, fF, fF] rfl rfl (any_of HT_.out (by kernel_rfl)) (fun _ _ _ h => h) (Or.inl ⟨by rfl, ?_⟩) ?_ ?_
                                  rotate_left
                                  · intro w'
                                    go_simp
                                    with_reducible rfl
                                  rotate_left
                                  · simp only [Act.put, sA, s0, s1, i64_w, i32_w]
                                    rfl
                                  refine pure_ (i := 8) (N := some 63) (v := ?_) (a' := ?_) #[tT, tT, tT, tT, fF, tT, tT, tT, tT, fF, fF, fF, fF, fF, fF, fF, fF, fF, fF, fF, fF, fF] rfl rfl (any_of HT_.out (by kernel_rfl)) (fun _ _ _ h => h) (Or.inl ⟨by rfl, ?_⟩) ?_ ?_
                                  rotate_left
                                  · intro w'
                                    go_simp
                                    with_reducible rfl
                                  rotate_left
                                  · simp only [Act.put, sA, s0, s1, i64_w, i32_w]
                                    rfl
                                  refine pure_ (i := 10) (N := some 65) (v := ?_) (a' := ?_) #[tT, tT, tT, tT, fF, tT, tT, tT, tT, fF, tT, fF, fF, fF, fF, fF, fF, fF, fF, fF, fF, fF] rfl rfl (any_of HT_.out (by kernel_rfl)) (fun _ _ _ h => h) (Or.inl ⟨by rfl, ?_⟩) ?_ ?_
                                  rotate_left
                                  · intro w'
                                    go_simp
                                    with_reducible rfl
                                  rotate_left
                                  · simp only [Act.put, sA, s0, s1, i64_w, i32_w]
                                    rfl
                                  refine pure_ (i := 11) (N := some 66) (v := ?_) (a' := ?_) #[tT, tT, tT, tT, fF, tT, tT, tT, tT, fF, tT, tT, fF, fF, fF, fF, fF, fF, fF, fF, fF, fF] rfl rfl (any_of HT_.out (by kernel_rfl)) (fun _ _ _ h => h) (Or.inl ⟨by rfl, ?_⟩) ?_ ?_
                                  rotate_left
                                  · intro w'
                                    go_simp
                                    with_reducible rfl
                                  rotate_left
                                  · simp only [Act.put, sA, s0, s1, i64_w, i32_w]
                                    rfl
                                  refine pure_ (i := 12) (N := some 67) (v := ?_) (a' := ?_) #[tT, tT, tT, tT, fF, tT, tT, tT, tT, fF, tT, tT, tT, fF, fF, fF, fF, fF, fF, fF, fF, fF] rfl rfl (any_of HT_.out (by kernel_rfl)) (fun _ _ _ h => h) (Or.inl ⟨by rfl, ?_⟩) ?_ ?_
                                  rotate_left
                                  · intro w'
                                    go_simp
                                    with_reducible rfl
                                  rotate_left
                                  · simp only [Act.put, sA, s0, s1, i64_w, i32_w]
                                    rfl
                                  refine pure_ (i := 13) (N := some 68) (v := ?_) (a' := ?_) #[tT, tT, tT, tT, fF, tT, tT, tT, tT, fF, tT, tT, tT, tT, fF, fF, fF, fF, fF, fF, fF, fF] rfl rfl (any_of HT_.out (by kernel_rfl)) (fun _ _ _ h => h) (Or.inl ⟨by rfl, ?_⟩) ?_ ?_
                                  rotate_left
                                  · intro w'
                                    go_simp
                                    with_reducible rfl
                                  rotate_left
                                  · simp only [Act.put, sA, s0, s1, i64_w, i32_w]
                                    rfl
                                  refine pure_ (i := 15) (N := some 70) (v := ?_) (a' := ?_) #[tT, tT, tT, tT, fF, tT, tT, tT, tT, fF, tT, tT, tT, tT, fF, tT, fF, fF, fF, fF, fF, fF] rfl rfl (any_of HT_.out (by kernel_rfl)) (fun _ _ _ h => h) (Or.inl ⟨by rfl, ?_⟩) ?_ ?_
                                  rotate_left
                                  · intro w'
                                    go_simp
                                    with_reducible rfl
                                  rotate_left
                                  · simp only [Act.put, sA, s0, s1, i64_w, i32_w]
                                    rfl
                                  refine pure_ (i := 16) (N := some 71) (v := ?_) (a' := ?_) #[tT, tT, tT, tT, fF, tT, tT, tT, tT, fF, tT, tT, tT, tT, fF, tT, tT, fF, fF, fF, fF, fF] rfl rfl (any_of HT_.out (by kernel_rfl)) (fun _ _ _ h => h) (Or.inl ⟨by rfl, ?_⟩) ?_ ?_
                                  rotate_left
                                  · intro w'
                                    go_simp
                                    with_reducible rfl
                                  rotate_left
                                  · simp only [Act.put, sA, s0, s1, i64_w, i32_w]
                                    rfl
                                  refine pure_ (i := 17) (N := some 72) (v := ?_) (a' := ?_) #[tT, tT, tT, tT, fF, tT, tT, tT, tT, fF, tT, tT, tT, tT, fF, tT, tT, tT, fF, fF, fF, fF] rfl rfl (any_of HT_.out (by kernel_rfl)) (fun _ _ _ h => h) (Or.inl ⟨by rfl, ?_⟩) ?_ ?_
                                  rotate_left
                                  · intro w'
                                    go_simp
                                    with_reducible rfl
                                  rotate_left
                                  · simp only [Act.put, sA, s0, s1, i64_w, i32_w]
                                    rfl
                                  refine pure_ (i := 18) (N := some 73) (v := ?_) (a' := ?_) #[tT, tT, tT, tT, fF, tT, tT, tT, tT, fF, tT, tT, tT, tT, fF, tT, tT, tT, tT, fF, fF, fF] rfl rfl (any_of HT_.out (by kernel_rfl)) (fun _ _ _ h => h) (Or.inl ⟨by rfl, ?_⟩) ?_ ?_
                                  rotate_left
                                  · intro w'
                                    go_simp
                                    with_reducible rfl
                                  rotate_left
                                  · simp only [Act.put, sA, s0, s1, i64_w, i32_w]
                                    rfl
                                  refine take_ (i := 4) (N := some 59) (v := ?_) (a' := ?_) #[tT, tT, tT, tT, tT, tT, tT, tT, tT, fF, tT, tT, tT, tT, fF, tT, tT, tT, tT, fF, fF, fF] rfl rfl (take_ofW HT_.out HW_.out (by kernel_rfl)) (fun _ _ _ h => h) (Or.inl ⟨by rfl, ?_⟩) hHeld ?_ ?_
                                  rotate_left
                                  · rintro w' ⟨s0, s1, s2, s3, s4, s5, s6, s7⟩
                                    go_simp
                                    with_reducible rfl
                                  rotate_left
                                  · simp only [Act.put, sA, s0, s1, i64_w, i32_w]
                                    rfl
                                  refine take_ (i := 9) (N := some 64) (v := ?_) (a' := ?_) #[tT, tT, tT, tT, tT, tT, tT, tT, tT, tT, tT, tT, tT, tT, fF, tT, tT, tT, tT, fF, fF, fF] rfl rfl (take_ofW HT_.out HW_.out (by kernel_rfl)) (fun _ _ _ h => h) (Or.inl ⟨by rfl, ?_⟩) hHeld ?_ ?_
                                  rotate_left
                                  · rintro w' ⟨s0, s1, s2, s3, s4, s5, s6, s7⟩
                                    go_simp
                                    with_reducible rfl
                                  rotate_left
                                  · simp only [Act.put, sA, s0, s1, i64_w, i32_w]
                                    rfl
                                  refine take_ (i := 14) (N := some 69) (v := ?_) (a' := ?_) #[tT, tT, tT, tT, tT, tT, tT, tT, tT, tT, tT, tT, tT, tT, tT, tT, tT, tT, tT, fF, fF, fF] rfl rfl (take_ofW HT_.out HW_.out (by kernel_rfl)) (fun _ _ _ h => h) (Or.inl ⟨by rfl, ?_⟩) hHeld ?_ ?_
                                  rotate_left
                                  · rintro w' ⟨s0, s1, s2, s3, s4, s5, s6, s7⟩
                                    go_simp
                                    with_reducible rfl
                                  rotate_left
                                  · simp only [Act.put, sA, s0, s1, i64_w, i32_w]
                                    rfl
                                  refine take_ (i := 19) (N := some 74) (v := ?_) (a' := ?_) #[tT, tT, tT, tT, tT, tT, tT, tT, tT, tT, tT, tT, tT, tT, tT, tT, tT, tT, tT, tT, fF, fF] rfl rfl (take_ofW HT_.out HW_.out (by kernel_rfl)) (fun _ _ _ h => h) (Or.inl ⟨by rfl, ?_⟩) hHeld ?_ ?_
                                  rotate_left
                                  · rintro w' ⟨s0, s1, s2, s3, s4, s5, s6, s7⟩
                                    go_simp
                                    with_reducible rfl
                                  rotate_left
                                  · simp only [Act.put, sA, s0, s1, i64_w, i32_w]
                                    rfl
                                  refine one_ (i := 20) (N := some 75) #[tT, tT, tT, tT, tT, tT, tT, tT, tT, tT, tT, tT, tT, tT, tT, tT, tT, tT, tT, tT, tT, fF] rfl rfl (one_of HT_.out (by kernel_rfl)) (by decide) (fun K hK => ?_)
                                  refine goes_ Try.func16 (by kernel_rfl) rfl #[.int .u64 ((rd_T25 l0 x13_3).f0), .int .u64 ((rd_T25 l0 x13_3).f1), .int .u64 ((rd_T25 l0 x12_2).f0), .int .u64 ((rd_T25 l0 x12_2).f1)] (by rfl) rfl rfl (by (try simp only [List.map_toArray, List.map_cons, List.map_nil]); first | done | rfl | (simp only [List.length_drop, List.length_take]; rfl)) ?_
                                  with_reducible refine (bezantref01_Meet.calls k3 ((rd_T25 l0 x13_3).f0) ((rd_T25 l0 x13_3).f1) ((rd_T25 l0 x12_2).f0) ((rd_T25 l0 x12_2).f1) true _ A23.out).mono ?_
                                  rintro e w' ⟨rfl, ⟨nd, rfl⟩⟩
                                  refine ⟨_, rfl, ?_⟩
                                  refine hK.out _ _ ⟨((HB.out.cell (World.block_lt_of_cell? w _ hw145_0)).trans hw145_0), ((HB.out.cell (World.block_lt_of_cell? w _ hw145_1)).trans hw145_1), ((HB.out.cell (World.block_lt_of_cell? w _ hw146_0)).trans hw146_0), ((HB.out.cell (World.block_lt_of_cell? w _ hw146_1)).trans hw146_1), ((HB.out.cell (World.block_lt_of_cell? w _ hw147_0)).trans hw147_0), ((HB.out.cell (World.block_lt_of_cell? w _ hw147_1)).trans hw147_1), ((HB.out.cell (World.block_lt_of_cell? w _ hw148_0)).trans hw148_0), ((HB.out.cell (World.block_lt_of_cell? w _ hw148_1)).trans hw148_1)⟩ (fun hHeld => ?_)
                                  clear hK K
                                  refine norm_ (a' := ?_) ?_ ?_
                                  rotate_left
                                  · show Act.put _ (some 75) _ = _
                                    simp only [Act.put, sA, s0, s1, i64_w, i32_w]
                                    rfl
                                  refine pure_ (i := 21) (N := some 14) (v := ?_) (a' := ?_) #[tT, tT, tT, tT, tT, tT, tT, tT, tT, tT, tT, tT, tT, tT, tT, tT, tT, tT, tT, tT, tT, tT] rfl rfl (any_of HT_.out (by kernel_rfl)) (fun _ _ _ h => h) (Or.inl ⟨by rfl, ?_⟩) ?_ ?_
                                  rotate_left
                                  · intro w'
                                    go_simp
                                    with_reducible rfl
                                  rotate_left
                                  · simp only [Act.put, sA, s0, s1, i64_w, i32_w]
                                    rfl
                                  refine done_ (done_of HT_.out (by kernel_rfl)) ?_
                                  try go_wp2
                                  (try (rw [drewN_self w36]; generalize hq_ : World.drewN w36 _ = w36; have n0_ : Aside0 (w36.heap[gb136]? = some (.cells #[.int .u64 a1_0, .int .u64 a1_1] 25 (0, 0))) := ⟨by rw [← hq_]; exact (by (with_reducible repeat (first | refine blk_drewN ?_ _ | refine blk_drew ?_ | refine blk_alloc ?_ _)); exact BK136.out)⟩; have n1_ : Aside0 (w36.heap[gb137]? = some (.cells #[.int .u64 a2_0, .int .u64 a2_1] 25 (0, 0))) := ⟨by rw [← hq_]; exact (by (with_reducible repeat (first | refine blk_drewN ?_ _ | refine blk_drew ?_ | refine blk_alloc ?_ _)); exact BK137.out)⟩; have n2_ : Aside0 (Below w.heap.size w w36) := ⟨by rw [← hq_]; exact (by repeat (first | (with_reducible first | exact HB.out | apply below_alloc | apply pw_below_drewN | apply below_drew1 | refine below_set ?_ GE136.out | refine below_set ?_ GE137.out) | exact HB.out))⟩; clear BK136 BK137 HB hq_; have BK136 := n0_; have BK137 := n1_; have HB := n2_; clear n0_ n1_ n2_))
                                  have n0_ := Aside0.mk (blk_drew BK136.out)
                                  have n1_ := Aside0.mk (blk_drew BK137.out)
                                  have n2_ := Aside0.mk (below_drew1 HB.out)
                                  clear BK136
                                  clear BK137
                                  clear HB
                                  have BK136 := n0_
                                  have BK137 := n1_
                                  have HB := n2_
                                  clear n0_ n1_ n2_
                                  have p154 : 0 ≤ (x13_3 : Int) := of_decide_eq_true (by first | (with_reducible assumption) | assumption)
                                  have q154 : x13_3 < (l0.length : Int) := of_decide_eq_true (by first | (with_reducible assumption) | assumption)
                                  obtain ⟨ad154, e154, hx154_0, hx154_1⟩ := at_T25 HR0.out x13_3 p154 q154
                                  have hw154_1 := hx154_1
                                  have hw154_0 := hx154_0
                                  obtain rfl : ad145 = ad154 := (by injection e154)
                                  replace hx154_0 := (HB.out.cell (World.block_lt_of_cell? w _ hx154_0)).trans hx154_0
                                  replace hx154_1 := (HB.out.cell (World.block_lt_of_cell? w _ hx154_1)).trans hx154_1
                                  replace p154 := eq_true p154
                                  replace q154 := eq_true q154
                                  have p155 : 0 ≤ (x13_3 : Int) := of_decide_eq_true (by first | (with_reducible assumption) | assumption)
                                  have q155 : x13_3 < (l0.length : Int) := of_decide_eq_true (by first | (with_reducible assumption) | assumption)
                                  obtain ⟨ad155, e155, hx155_0, hx155_1⟩ := at_T25 HR0.out x13_3 p155 q155
                                  have hw155_1 := hx155_1
                                  have hw155_0 := hx155_0
                                  obtain rfl : ad145 = ad155 := (by injection e155)
                                  replace hx155_0 := (HB.out.cell (World.block_lt_of_cell? w _ hx155_0)).trans hx155_0
                                  replace hx155_1 := (HB.out.cell (World.block_lt_of_cell? w _ hx155_1)).trans hx155_1
                                  replace p155 := eq_true p155
                                  replace q155 := eq_true q155
                                  have p156 : 0 ≤ (x12_2 : Int) := of_decide_eq_true (by first | (with_reducible assumption) | assumption)
                                  have q156 : x12_2 < (l0.length : Int) := of_decide_eq_true (by first | (with_reducible assumption) | assumption)
                                  obtain ⟨ad156, e156, hx156_0, hx156_1⟩ := at_T25 HR0.out x12_2 p156 q156
                                  have hw156_1 := hx156_1
                                  have hw156_0 := hx156_0
                                  obtain rfl : ad145 = ad156 := (by injection e156)
                                  replace hx156_0 := (HB.out.cell (World.block_lt_of_cell? w _ hx156_0)).trans hx156_0
                                  replace hx156_1 := (HB.out.cell (World.block_lt_of_cell? w _ hx156_1)).trans hx156_1
                                  replace p156 := eq_true p156
                                  replace q156 := eq_true q156
                                  refine start_ (n := 17) (S := fun w' => w'.cell? (ad145.add ((x13_3).toNat * 2)) = some (.int .u64 ((rd_T25 l0 x13_3).f0)) ∧ w'.cell? ⟨(ad145.add ((x13_3).toNat * 2)).block, (ad145.add ((x13_3).toNat * 2)).off + 1, none⟩ = some (.int .u64 ((rd_T25 l0 x13_3).f1)) ∧ w'.cell? (ad145.add ((x13_3).toNat * 2)) = some (.int .u64 ((rd_T25 l0 x13_3).f0)) ∧ w'.cell? ⟨(ad145.add ((x13_3).toNat * 2)).block, (ad145.add ((x13_3).toNat * 2)).off + 1, none⟩ = some (.int .u64 ((rd_T25 l0 x13_3).f1)) ∧ w'.cell? (ad145.add ((x12_2).toNat * 2)) = some (.int .u64 ((rd_T25 l0 x12_2).f0)) ∧ w'.cell? ⟨(ad145.add ((x12_2).toNat * 2)).block, (ad145.add ((x12_2).toNat * 2)).off + 1, none⟩ = some (.int .u64 ((rd_T25 l0 x12_2).f1))) (ds := []) #[fF, fF, fF, fF, fF, fF, fF, fF, fF, fF, fF, fF, fF, fF, fF, fF, fF] (by kernel_rfl) rfl rfl ⟨((HB.out.cell (World.block_lt_of_cell? w _ hw154_0)).trans hw154_0), ((HB.out.cell (World.block_lt_of_cell? w _ hw154_1)).trans hw154_1), ((HB.out.cell (World.block_lt_of_cell? w _ hw155_0)).trans hw155_0), ((HB.out.cell (World.block_lt_of_cell? w _ hw155_1)).trans hw155_1), ((HB.out.cell (World.block_lt_of_cell? w _ hw156_0)).trans hw156_0), ((HB.out.cell (World.block_lt_of_cell? w _ hw156_1)).trans hw156_1)⟩ (fun hHeld => ?_); refine with_tabW bezantlaw02_SpanTells.tab19 bezantlaw02_SpanTells.bits19 (fun HT_ HW_ => ?_)
                                  generalize w36.drew = w37 at BK136 BK137 HB hx154_0 hx154_1 hx155_0 hx155_1 hx156_0 hx156_1 hHeld ⊢
                                  refine pure_ (i := 0) (N := some 83) (v := ?_) (a' := ?_) #[tT, fF, fF, fF, fF, fF, fF, fF, fF, fF, fF, fF, fF, fF, fF, fF, fF] rfl rfl (any_of HT_.out (by kernel_rfl)) (fun _ _ _ h => h) (Or.inl ⟨by rfl, ?_⟩) ?_ ?_
                                  rotate_left
                                  · intro w'
                                    go_simp
                                    with_reducible rfl
                                  rotate_left
                                  · simp only [Act.put, sA, s0, s1, i64_w, i32_w]
                                    rfl
                                  refine pure_ (i := 1) (N := some 84) (v := ?_) (a' := ?_) #[tT, tT, fF, fF, fF, fF, fF, fF, fF, fF, fF, fF, fF, fF, fF, fF, fF] rfl rfl (any_of HT_.out (by kernel_rfl)) (fun _ _ _ h => h) (Or.inl ⟨by rfl, ?_⟩) ?_ ?_
                                  rotate_left
                                  · intro w'
                                    go_simp
                                    with_reducible rfl
                                  rotate_left
                                  · simp only [Act.put, sA, s0, s1, i64_w, i32_w]
                                    rfl
                                  refine pure_ (i := 2) (N := some 85) (v := ?_) (a' := ?_) #[tT, tT, tT, fF, fF, fF, fF, fF, fF, fF, fF, fF, fF, fF, fF, fF, fF] rfl rfl (any_of HT_.out (by kernel_rfl)) (fun _ _ _ h => h) (Or.inl ⟨by rfl, ?_⟩) ?_ ?_
                                  rotate_left
                                  · intro w'
                                    go_simp
                                    with_reducible rfl
                                  rotate_left
                                  · simp only [Act.put, sA, s0, s1, i64_w, i32_w]
                                    rfl
                                  refine pure_ (i := 3) (N := some 86) (v := ?_) (a' := ?_) #[tT, tT, tT, tT, fF, fF, fF, fF, fF, fF, fF, fF, fF, fF, fF, fF, fF] rfl rfl (any_of HT_.out (by kernel_rfl)) (fun _ _ _ h => h) (Or.inl ⟨by rfl, ?_⟩) ?_ ?_
                                  rotate_left
                                  · intro w'
                                    go_simp
                                    with_reducible rfl
                                  rotate_left
                                  · simp only [Act.put, sA, s0, s1, i64_w, i32_w]
                                    rfl
                                  refine pure_ (i := 5) (N := some 88) (v := ?_) (a' := ?_) #[tT, tT, tT, tT, fF, tT, fF, fF, fF, fF, fF, fF, fF, fF, fF, fF, fF] rfl rfl (any_of HT_.out (by kernel_rfl)) (fun _ _ _ h => h) (Or.inl ⟨by rfl, ?_⟩) ?_ ?_
                                  rotate_left
                                  · intro w'
                                    go_simp
                                    with_reducible rfl
                                  rotate_left
                                  · simp only [Act.put, sA, s0, s1, i64_w, i32_w]
                                    rfl
                                  refine pure_ (i := 6) (N := some 89) (v := ?_) (a' := ?_) #[tT, tT, tT, tT, fF, tT, tT, fF, fF, fF, fF, fF, fF, fF, fF, fF, fF] rfl rfl (any_of HT_.out (by kernel_rfl)) (fun _ _ _ h => h) (Or.inl ⟨by rfl, ?_⟩) ?_ ?_
                                  rotate_left
                                  · intro w'
                                    go_simp
                                    with_reducible rfl
                                  rotate_left
                                  · simp only [Act.put, sA, s0, s1, i64_w, i32_w]
                                    rfl
                                  refine pure_ (i := 7) (N := some 90) (v := ?_) (a' := ?_) #[tT, tT, tT, tT, fF, tT, tT, tT, fF, fF, fF, fF, fF, fF, fF, fF, fF] rfl rfl (any_of HT_.out (by kernel_rfl)) (fun _ _ _ h => h) (Or.inl ⟨by rfl, ?_⟩) ?_ ?_
                                  rotate_left
                                  · intro w'
                                    go_simp
                                    with_reducible rfl
                                  rotate_left
                                  · simp only [Act.put, sA, s0, s1, i64_w, i32_w]
                                    rfl
                                  refine pure_ (i := 8) (N := some 91) (v := ?_) (a' := ?_) #[tT, tT, tT, tT, fF, tT, tT, tT, tT, fF, fF, fF, fF, fF, fF, fF, fF] rfl rfl (any_of HT_.out (by kernel_rfl)) (fun _ _ _ h => h) (Or.inl ⟨by rfl, ?_⟩) ?_ ?_
                                  rotate_left
                                  · intro w'
                                    go_simp
                                    with_reducible rfl
                                  rotate_left
                                  · simp only [Act.put, sA, s0, s1, i64_w, i32_w]
                                    rfl
                                  refine pure_ (i := 10) (N := some 93) (v := ?_) (a' := ?_) #[tT, tT, tT, tT, fF, tT, tT, tT, tT, fF, tT, fF, fF, fF, fF, fF, fF] rfl rfl (any_of HT_.out (by kernel_rfl)) (fun _ _ _ h => h) (Or.inl ⟨by rfl, ?_⟩) ?_ ?_
                                  rotate_left
                                  · intro w'
                                    go_simp
                                    with_reducible rfl
                                  rotate_left
                                  · simp only [Act.put, sA, s0, s1, i64_w, i32_w]
                                    rfl
                                  refine pure_ (i := 11) (N := some 94) (v := ?_) (a' := ?_) #[tT, tT, tT, tT, fF, tT, tT, tT, tT, fF, tT, tT, fF, fF, fF, fF, fF] rfl rfl (any_of HT_.out (by kernel_rfl)) (fun _ _ _ h => h) (Or.inl ⟨by rfl, ?_⟩) ?_ ?_
                                  rotate_left
                                  · intro w'
                                    go_simp
                                    with_reducible rfl
                                  rotate_left
                                  · simp only [Act.put, sA, s0, s1, i64_w, i32_w]
                                    rfl
                                  refine pure_ (i := 12) (N := some 95) (v := ?_) (a' := ?_) #[tT, tT, tT, tT, fF, tT, tT, tT, tT, fF, tT, tT, tT, fF, fF, fF, fF] rfl rfl (any_of HT_.out (by kernel_rfl)) (fun _ _ _ h => h) (Or.inl ⟨by rfl, ?_⟩) ?_ ?_
                                  rotate_left
                                  · intro w'
                                    go_simp
                                    with_reducible rfl
                                  rotate_left
                                  · simp only [Act.put, sA, s0, s1, i64_w, i32_w]
                                    rfl
                                  refine pure_ (i := 13) (N := some 96) (v := ?_) (a' := ?_) #[tT, tT, tT, tT, fF, tT, tT, tT, tT, fF, tT, tT, tT, tT, fF, fF, fF] rfl rfl (any_of HT_.out (by kernel_rfl)) (fun _ _ _ h => h) (Or.inl ⟨by rfl, ?_⟩) ?_ ?_
                                  rotate_left
                                  · intro w'
                                    go_simp
                                    with_reducible rfl
                                  rotate_left
                                  · simp only [Act.put, sA, s0, s1, i64_w, i32_w]
                                    rfl
                                  refine take_ (i := 4) (N := some 87) (v := ?_) (a' := ?_) #[tT, tT, tT, tT, tT, tT, tT, tT, tT, fF, tT, tT, tT, tT, fF, fF, fF] rfl rfl (take_ofW HT_.out HW_.out (by kernel_rfl)) (fun _ _ _ h => h) (Or.inl ⟨by rfl, ?_⟩) hHeld ?_ ?_
                                  rotate_left
                                  · rintro w' ⟨s0, s1, s2, s3, s4, s5⟩
                                    go_simp
                                    with_reducible rfl
                                  rotate_left
                                  · simp only [Act.put, sA, s0, s1, i64_w, i32_w]
                                    rfl
                                  refine take_ (i := 9) (N := some 92) (v := ?_) (a' := ?_) #[tT, tT, tT, tT, tT, tT, tT, tT, tT, tT, tT, tT, tT, tT, fF, fF, fF] rfl rfl (take_ofW HT_.out HW_.out (by kernel_rfl)) (fun _ _ _ h => h) (Or.inl ⟨by rfl, ?_⟩) hHeld ?_ ?_
                                  rotate_left
                                  · rintro w' ⟨s0, s1, s2, s3, s4, s5⟩
                                    go_simp
                                    with_reducible rfl
                                  rotate_left
                                  · simp only [Act.put, sA, s0, s1, i64_w, i32_w]
                                    rfl
                                  refine take_ (i := 14) (N := some 97) (v := ?_) (a' := ?_) #[tT, tT, tT, tT, tT, tT, tT, tT, tT, tT, tT, tT, tT, tT, tT, fF, fF] rfl rfl (take_ofW HT_.out HW_.out (by kernel_rfl)) (fun _ _ _ h => h) (Or.inl ⟨by rfl, ?_⟩) hHeld ?_ ?_
                                  rotate_left
                                  · rintro w' ⟨s0, s1, s2, s3, s4, s5⟩
                                    go_simp
                                    with_reducible rfl
                                  rotate_left
                                  · simp only [Act.put, sA, s0, s1, i64_w, i32_w]
                                    rfl
                                  refine one_ (i := 15) (N := some 98) #[tT, tT, tT, tT, tT, tT, tT, tT, tT, tT, tT, tT, tT, tT, tT, tT, fF] rfl rfl (one_of HT_.out (by kernel_rfl)) (by decide) (fun K hK => ?_)
                                  refine goes_ Try.func17 (by kernel_rfl) rfl #[.int .u64 ((rd_T25 l0 x13_3).f0), .int .u64 ((rd_T25 l0 x13_3).f1), .int .u64 ((rd_T25 l0 x12_2).f0)] (by rfl) rfl rfl (by (try simp only [List.map_toArray, List.map_cons, List.map_nil]); first | done | rfl | (simp only [List.length_drop, List.length_take]; rfl)) ?_
                                  with_reducible refine (bezantref01_Below.calls ((rd_T25 l0 x13_3).f0) ((rd_T25 l0 x13_3).f1) ((rd_T25 l0 x12_2).f0) t157 _ A32.out).mono ?_
                                  rintro e w' ⟨rfl, ⟨nd, rfl⟩⟩
                                  refine ⟨_, rfl, ?_⟩
                                  refine hK.out _ _ ⟨((HB.out.cell (World.block_lt_of_cell? w _ hw154_0)).trans hw154_0), ((HB.out.cell (World.block_lt_of_cell? w _ hw154_1)).trans hw154_1), ((HB.out.cell (World.block_lt_of_cell? w _ hw155_0)).trans hw155_0), ((HB.out.cell (World.block_lt_of_cell? w _ hw155_1)).trans hw155_1), ((HB.out.cell (World.block_lt_of_cell? w _ hw156_0)).trans hw156_0), ((HB.out.cell (World.block_lt_of_cell? w _ hw156_1)).trans hw156_1)⟩ (fun hHeld => ?_)
                                  clear hK K
                                  refine norm_ (a' := ?_) ?_ ?_
                                  rotate_left
                                  · show Act.put _ (some 98) _ = _
                                    simp only [Act.put, sA, s0, s1, i64_w, i32_w]
                                    rfl
                                  refine pure_ (i := 16) (N := some 15) (v := ?_) (a' := ?_) #[tT, tT, tT, tT, tT, tT, tT, tT, tT, tT, tT, tT, tT, tT, tT, tT, tT] rfl rfl (any_of HT_.out (by kernel_rfl)) (fun _ _ _ h => h) (Or.inl ⟨by rfl, ?_⟩) ?_ ?_
                                  rotate_left
                                  · intro w'
                                    go_simp
                                    with_reducible rfl
                                  rotate_left
                                  · simp only [Act.put, sA, s0, s1, i64_w, i32_w]
                                    rfl
                                  refine done_ (done_of HT_.out (by kernel_rfl)) ?_
                                  try go_wp2
                                  go_roundg k3
                                  case measure => have := HJ4.out; have := HK2.out; have := HK3.out; omega
                                  case rel => exact ⟨(x13_3), (x12_2), (true), (false), (wrap64 (x13_3 + 1)), (by first | rfl | (simp; done) | (simp [*]; done)), (by first | rfl | (simp; done) | (simp [*]; done)), (by first | rfl | (simp; done) | (simp [*]; done)), (by first | rfl | (simp; done) | (simp [*]; done)), (by first | rfl | (simp; done) | (simp [*]; done)), H', ⟨by have := HJ4.out; have := HK2.out; have := HK3.out; omega⟩, ⟨by (with_reducible repeat (first | refine blk_drewN ?_ _ | refine blk_drew ?_ | refine blk_alloc ?_ _)); exact BK136.out⟩, ⟨by (with_reducible repeat (first | refine blk_drewN ?_ _ | refine blk_drew ?_ | refine blk_alloc ?_ _)); exact BK137.out⟩, ⟨by repeat (first | (with_reducible first | exact HB.out | apply below_alloc | apply pw_below_drewN | apply below_drew1 | refine below_set ?_ GE136.out | refine below_set ?_ GE137.out) | exact HB.out)⟩⟩
                            · replace c24 := Bool.eq_false_iff.mpr c24
                              subst c24
                              rw [if_neg (show ¬ (false = true) by decide)] at H
                              replace H := Option.bind_eq_some_iff.mp H
                              obtain ⟨t161, A380, H⟩ := H
                              (try dsimp only at H)
                              have A38 := Aside0.mk A380
                              clear A380
                              by_cases c39 : x11_3 = true
                              · subst c39
                                rw [if_pos rfl] at H
                                have H' := Aside0.mk H
                                clear H
                                try go_wp2
                                have n0_ := Aside0.mk (blk_drew BK136.out)
                                have n1_ := Aside0.mk (blk_drew BK137.out)
                                have n2_ := Aside0.mk (below_drew1 HB.out)
                                clear BK136
                                clear BK137
                                clear HB
                                have BK136 := n0_
                                have BK137 := n1_
                                have HB := n2_
                                clear n0_ n1_ n2_
                                have p145 : 0 ≤ (x13_3 : Int) := of_decide_eq_true (by first | (with_reducible assumption) | assumption)
                                have q145 : x13_3 < (l0.length : Int) := of_decide_eq_true (by first | (with_reducible assumption) | assumption)
                                obtain ⟨ad145, e145, hx145_0, hx145_1⟩ := at_T25 HR0.out x13_3 p145 q145
                                have hw145_1 := hx145_1
                                have hw145_0 := hx145_0
                                cases e145
                                replace hx145_0 := (HB.out.cell (World.block_lt_of_cell? w _ hx145_0)).trans hx145_0
                                replace hx145_1 := (HB.out.cell (World.block_lt_of_cell? w _ hx145_1)).trans hx145_1
                                replace p145 := eq_true p145
                                replace q145 := eq_true q145
                                have p146 : 0 ≤ (x13_3 : Int) := of_decide_eq_true (by first | (with_reducible assumption) | assumption)
                                have q146 : x13_3 < (l0.length : Int) := of_decide_eq_true (by first | (with_reducible assumption) | assumption)
                                obtain ⟨ad146, e146, hx146_0, hx146_1⟩ := at_T25 HR0.out x13_3 p146 q146
                                have hw146_1 := hx146_1
                                have hw146_0 := hx146_0
                                obtain rfl : ad145 = ad146 := (by injection e146)
                                replace hx146_0 := (HB.out.cell (World.block_lt_of_cell? w _ hx146_0)).trans hx146_0
                                replace hx146_1 := (HB.out.cell (World.block_lt_of_cell? w _ hx146_1)).trans hx146_1
                                replace p146 := eq_true p146
                                replace q146 := eq_true q146
                                have p147 : 0 ≤ (x12_2 : Int) := of_decide_eq_true (by first | (with_reducible assumption) | assumption)
                                have q147 : x12_2 < (l0.length : Int) := of_decide_eq_true (by first | (with_reducible assumption) | assumption)
                                obtain ⟨ad147, e147, hx147_0, hx147_1⟩ := at_T25 HR0.out x12_2 p147 q147
                                have hw147_1 := hx147_1
                                have hw147_0 := hx147_0
                                obtain rfl : ad145 = ad147 := (by injection e147)
                                replace hx147_0 := (HB.out.cell (World.block_lt_of_cell? w _ hx147_0)).trans hx147_0
                                replace hx147_1 := (HB.out.cell (World.block_lt_of_cell? w _ hx147_1)).trans hx147_1
                                replace p147 := eq_true p147
                                replace q147 := eq_true q147
                                have p148 : 0 ≤ (x12_2 : Int) := of_decide_eq_true (by first | (with_reducible assumption) | assumption)
                                have q148 : x12_2 < (l0.length : Int) := of_decide_eq_true (by first | (with_reducible assumption) | assumption)
                                obtain ⟨ad148, e148, hx148_0, hx148_1⟩ := at_T25 HR0.out x12_2 p148 q148
                                have hw148_1 := hx148_1
                                have hw148_0 := hx148_0
                                obtain rfl : ad145 = ad148 := (by injection e148)
                                replace hx148_0 := (HB.out.cell (World.block_lt_of_cell? w _ hx148_0)).trans hx148_0
                                replace hx148_1 := (HB.out.cell (World.block_lt_of_cell? w _ hx148_1)).trans hx148_1
                                replace p148 := eq_true p148
                                replace q148 := eq_true q148
                                refine start_ (n := 22) (S := fun w' => w'.cell? (ad145.add ((x13_3).toNat * 2)) = some (.int .u64 ((rd_T25 l0 x13_3).f0)) ∧ w'.cell? ⟨(ad145.add ((x13_3).toNat * 2)).block, (ad145.add ((x13_3).toNat * 2)).off + 1, none⟩ = some (.int .u64 ((rd_T25 l0 x13_3).f1)) ∧ w'.cell? (ad145.add ((x13_3).toNat * 2)) = some (.int .u64 ((rd_T25 l0 x13_3).f0)) ∧ w'.cell? ⟨(ad145.add ((x13_3).toNat * 2)).block, (ad145.add ((x13_3).toNat * 2)).off + 1, none⟩ = some (.int .u64 ((rd_T25 l0 x13_3).f1)) ∧ w'.cell? (ad145.add ((x12_2).toNat * 2)) = some (.int .u64 ((rd_T25 l0 x12_2).f0)) ∧ w'.cell? ⟨(ad145.add ((x12_2).toNat * 2)).block, (ad145.add ((x12_2).toNat * 2)).off + 1, none⟩ = some (.int .u64 ((rd_T25 l0 x12_2).f1)) ∧ w'.cell? (ad145.add ((x12_2).toNat * 2)) = some (.int .u64 ((rd_T25 l0 x12_2).f0)) ∧ w'.cell? ⟨(ad145.add ((x12_2).toNat * 2)).block, (ad145.add ((x12_2).toNat * 2)).off + 1, none⟩ = some (.int .u64 ((rd_T25 l0 x12_2).f1))) (ds := []) #[fF, fF, fF, fF, fF, fF, fF, fF, fF, fF, fF, fF, fF, fF, fF, fF, fF, fF, fF, fF, fF, fF] (by kernel_rfl) rfl rfl ⟨((HB.out.cell (World.block_lt_of_cell? w _ hw145_0)).trans hw145_0), ((HB.out.cell (World.block_lt_of_cell? w _ hw145_1)).trans hw145_1), ((HB.out.cell (World.block_lt_of_cell? w _ hw146_0)).trans hw146_0), ((HB.out.cell (World.block_lt_of_cell? w _ hw146_1)).trans hw146_1), ((HB.out.cell (World.block_lt_of_cell? w _ hw147_0)).trans hw147_0), ((HB.out.cell (World.block_lt_of_cell? w _ hw147_1)).trans hw147_1), ((HB.out.cell (World.block_lt_of_cell? w _ hw148_0)).trans hw148_0), ((HB.out.cell (World.block_lt_of_cell? w _ hw148_1)).trans hw148_1)⟩ (fun hHeld => ?_); refine with_tabW bezantlaw02_SpanTells.tab14 bezantlaw02_SpanTells.bits14 (fun HT_ HW_ => ?_)
                                generalize wr.drew = w40 at BK136 BK137 HB hx145_0 hx145_1 hx146_0 hx146_1 hx147_0 hx147_1 hx148_0 hx148_1 hHeld ⊢
                                refine pure_ (i := 0) (N := some 55) (v := ?_) (a' := ?_) #[tT, fF, fF, fF, fF, fF, fF, fF, fF, fF, fF, fF, fF, fF, fF, fF, fF, fF, fF, fF, fF, fF] rfl rfl (any_of HT_.out (by kernel_rfl)) (fun _ _ _ h => h) (Or.inl ⟨by rfl, ?_⟩) ?_ ?_
                                rotate_left
                                · intro w'
                                  go_simp
                                  with_reducible rfl
                                rotate_left
                                · simp only [Act.put, sA, s0, s1, i64_w, i32_w]
                                  rfl
                                refine pure_ (i := 1) (N := some 56) (v := ?_) (a' := ?_) #[tT, tT, fF, fF, fF, fF, fF, fF, fF, fF, fF, fF, fF, fF, fF, fF, fF, fF, fF, fF, fF, fF] rfl rfl (any_of HT_.out (by kernel_rfl)) (fun _ _ _ h => h) (Or.inl ⟨by rfl, ?_⟩) ?_ ?_
                                rotate_left
                                · intro w'
                                  go_simp
                                  with_reducible rfl
                                rotate_left
                                · simp only [Act.put, sA, s0, s1, i64_w, i32_w]
                                  rfl
                                refine pure_ (i := 2) (N := some 57) (v := ?_) (a' := ?_) #[tT, tT, tT, fF, fF, fF, fF, fF, fF, fF, fF, fF, fF, fF, fF, fF, fF, fF, fF, fF, fF, fF] rfl rfl (any_of HT_.out (by kernel_rfl)) (fun _ _ _ h => h) (Or.inl ⟨by rfl, ?_⟩) ?_ ?_
                                rotate_left
                                · intro w'
                                  go_simp
                                  with_reducible rfl
                                rotate_left
                                · simp only [Act.put, sA, s0, s1, i64_w, i32_w]
                                  rfl
                                refine pure_ (i := 3) (N := some 58) (v := ?_) (a' := ?_) #[tT, tT, tT, tT, fF, fF, fF, fF, fF, fF, fF, fF, fF, fF, fF, fF, fF, fF, fF, fF, fF, fF] rfl rfl (any_of HT_.out (by kernel_rfl)) (fun _ _ _ h => h) (Or.inl ⟨by rfl, ?_⟩) ?_ ?_
                                rotate_left
                                · intro w'
                                  go_simp
                                  with_reducible rfl
                                rotate_left
                                · simp only [Act.put, sA, s0, s1, i64_w, i32_w]
                                  rfl
                                refine pure_ (i := 5) (N := some 60) (v := ?_) (a' := ?_) #[tT, tT, tT, tT, fF, tT, fF, fF, fF, fF, fF, fF, fF, fF, fF, fF, fF, fF, fF, fF, fF, fF] rfl rfl (any_of HT_.out (by kernel_rfl)) (fun _ _ _ h => h) (Or.inl ⟨by rfl, ?_⟩) ?_ ?_
                                rotate_left
                                · intro w'
                                  go_simp
                                  with_reducible rfl
                                rotate_left
                                · simp only [Act.put, sA, s0, s1, i64_w, i32_w]
                                  rfl
                                refine pure_ (i := 6) (N := some 61) (v := ?_) (a' := ?_) #[tT, tT, tT, tT, fF, tT, tT, fF, fF, fF, fF, fF, fF, fF, fF, fF, fF, fF, fF, fF, fF, fF] rfl rfl (any_of HT_.out (by kernel_rfl)) (fun _ _ _ h => h) (Or.inl ⟨by rfl, ?_⟩) ?_ ?_
                                rotate_left
                                · intro w'
                                  go_simp
                                  with_reducible rfl
                                rotate_left
                                · simp only [Act.put, sA, s0, s1, i64_w, i32_w]
                                  rfl
                                refine pure_ (i := 7) (N := some 62) (v := ?_) (a' := ?_) #[tT, tT, tT, tT, fF, tT, tT, tT, fF, fF, fF, fF, fF, fF, fF, fF, fF, fF, fF, fF, fF, fF] rfl rfl (any_of HT_.out (by kernel_rfl)) (fun _ _ _ h => h) (Or.inl ⟨by rfl, ?_⟩) ?_ ?_
                                rotate_left
                                · intro w'
                                  go_simp
                                  with_reducible rfl
                                rotate_left
                                · simp only [Act.put, sA, s0, s1, i64_w, i32_w]
                                  rfl
                                refine pure_ (i := 8) (N := some 63) (v := ?_) (a' := ?_) #[tT, tT, tT, tT, fF, tT, tT, tT, tT, fF, fF, fF, fF, fF, fF, fF, fF, fF, fF, fF, fF, fF] rfl rfl (any_of HT_.out (by kernel_rfl)) (fun _ _ _ h => h) (Or.inl ⟨by rfl, ?_⟩) ?_ ?_
                                rotate_left
                                · intro w'
                                  go_simp
                                  with_reducible rfl
                                rotate_left
                                · simp only [Act.put, sA, s0, s1, i64_w, i32_w]
                                  rfl
                                refine pure_ (i := 10) (N := some 65) (v := ?_) (a' := ?_) #[tT, tT, tT, tT, fF, tT, tT, tT, tT, fF, tT, fF, fF, fF, fF, fF, fF, fF, fF, fF, fF, fF] rfl rfl (any_of HT_.out (by kernel_rfl)) (fun _ _ _ h => h) (Or.inl ⟨by rfl, ?_⟩) ?_ ?_
                                rotate_left
                                · intro w'
                                  go_simp
                                  with_reducible rfl
                                rotate_left
                                · simp only [Act.put, sA, s0, s1, i64_w, i32_w]
                                  rfl
                                refine pure_ (i := 11) (N := some 66) (v := ?_) (a' := ?_) #[tT, tT, tT, tT, fF, tT, tT, tT, tT, fF, tT, tT, fF, fF, fF, fF, fF, fF, fF, fF, fF, fF] rfl rfl (any_of HT_.out (by kernel_rfl)) (fun _ _ _ h => h) (Or.inl ⟨by rfl, ?_⟩) ?_ ?_
                                rotate_left
                                · intro w'
                                  go_simp
                                  with_reducible rfl
                                rotate_left
                                · simp only [Act.put, sA, s0, s1, i64_w, i32_w]
                                  rfl
                                refine pure_ (i := 12) (N := some 67) (v := ?_) (a' := ?_) #[tT, tT, tT, tT, fF, tT, tT, tT, tT, fF, tT, tT, tT, fF, fF, fF, fF, fF, fF, fF, fF, fF] rfl rfl (any_of HT_.out (by kernel_rfl)) (fun _ _ _ h => h) (Or.inl ⟨by rfl, ?_⟩) ?_ ?_
                                rotate_left
                                · intro w'
                                  go_simp
                                  with_reducible rfl
                                rotate_left
                                · simp only [Act.put, sA, s0, s1, i64_w, i32_w]
                                  rfl
                                refine pure_ (i := 13) (N := some 68) (v := ?_) (a' := ?_) #[tT, tT, tT, tT, fF, tT, tT, tT, tT, fF, tT, tT, tT, tT, fF, fF, fF, fF, fF, fF, fF, fF] rfl rfl (any_of HT_.out (by kernel_rfl)) (fun _ _ _ h => h) (Or.inl ⟨by rfl, ?_⟩) ?_ ?_
                                rotate_left
                                · intro w'
                                  go_simp
                                  with_reducible rfl
                                rotate_left
                                · simp only [Act.put, sA, s0, s1, i64_w, i32_w]
                                  rfl
                                refine pure_ (i := 15) (N := some 70) (v := ?_) (a' := ?_) #[tT, tT, tT, tT, fF, tT, tT, tT, tT, fF, tT, tT, tT, tT, fF, tT, fF, fF, fF, fF, fF, fF] rfl rfl (any_of HT_.out (by kernel_rfl)) (fun _ _ _ h => h) (Or.inl ⟨by rfl, ?_⟩) ?_ ?_
                                rotate_left
                                · intro w'
                                  go_simp
                                  with_reducible rfl
                                rotate_left
                                · simp only [Act.put, sA, s0, s1, i64_w, i32_w]
                                  rfl
                                refine pure_ (i := 16) (N := some 71) (v := ?_) (a' := ?_) #[tT, tT, tT, tT, fF, tT, tT, tT, tT, fF, tT, tT, tT, tT, fF, tT, tT, fF, fF, fF, fF, fF] rfl rfl (any_of HT_.out (by kernel_rfl)) (fun _ _ _ h => h) (Or.inl ⟨by rfl, ?_⟩) ?_ ?_
                                rotate_left
                                · intro w'
                                  go_simp
                                  with_reducible rfl
                                rotate_left
                                · simp only [Act.put, sA, s0, s1, i64_w, i32_w]
                                  rfl
                                refine pure_ (i := 17) (N := some 72) (v := ?_) (a' := ?_) #[tT, tT, tT, tT, fF, tT, tT, tT, tT, fF, tT, tT, tT, tT, fF, tT, tT, tT, fF, fF, fF, fF] rfl rfl (any_of HT_.out (by kernel_rfl)) (fun _ _ _ h => h) (Or.inl ⟨by rfl, ?_⟩) ?_ ?_
                                rotate_left
                                · intro w'
                                  go_simp
                                  with_reducible rfl
                                rotate_left
                                · simp only [Act.put, sA, s0, s1, i64_w, i32_w]
                                  rfl
                                refine pure_ (i := 18) (N := some 73) (v := ?_) (a' := ?_) #[tT, tT, tT, tT, fF, tT, tT, tT, tT, fF, tT, tT, tT, tT, fF, tT, tT, tT, tT, fF, fF, fF] rfl rfl (any_of HT_.out (by kernel_rfl)) (fun _ _ _ h => h) (Or.inl ⟨by rfl, ?_⟩) ?_ ?_
                                rotate_left
                                · intro w'
                                  go_simp
                                  with_reducible rfl
                                rotate_left
                                · simp only [Act.put, sA, s0, s1, i64_w, i32_w]
                                  rfl
                                refine take_ (i := 4) (N := some 59) (v := ?_) (a' := ?_) #[tT, tT, tT, tT, tT, tT, tT, tT, tT, fF, tT, tT, tT, tT, fF, tT, tT, tT, tT, fF, fF, fF] rfl rfl (take_ofW HT_.out HW_.out (by kernel_rfl)) (fun _ _ _ h => h) (Or.inl ⟨by rfl, ?_⟩) hHeld ?_ ?_
                                rotate_left
                                · rintro w' ⟨s0, s1, s2, s3, s4, s5, s6, s7⟩
                                  go_simp
                                  with_reducible rfl
                                rotate_left
                                · simp only [Act.put, sA, s0, s1, i64_w, i32_w]
                                  rfl
                                refine take_ (i := 9) (N := some 64) (v := ?_) (a' := ?_) #[tT, tT, tT, tT, tT, tT, tT, tT, tT, tT, tT, tT, tT, tT, fF, tT, tT, tT, tT, fF, fF, fF] rfl rfl (take_ofW HT_.out HW_.out (by kernel_rfl)) (fun _ _ _ h => h) (Or.inl ⟨by rfl, ?_⟩) hHeld ?_ ?_
                                rotate_left
                                · rintro w' ⟨s0, s1, s2, s3, s4, s5, s6, s7⟩
                                  go_simp
                                  with_reducible rfl
                                rotate_left
                                · simp only [Act.put, sA, s0, s1, i64_w, i32_w]
                                  rfl
                                refine take_ (i := 14) (N := some 69) (v := ?_) (a' := ?_) #[tT, tT, tT, tT, tT, tT, tT, tT, tT, tT, tT, tT, tT, tT, tT, tT, tT, tT, tT, fF, fF, fF] rfl rfl (take_ofW HT_.out HW_.out (by kernel_rfl)) (fun _ _ _ h => h) (Or.inl ⟨by rfl, ?_⟩) hHeld ?_ ?_
                                rotate_left
                                · rintro w' ⟨s0, s1, s2, s3, s4, s5, s6, s7⟩
                                  go_simp
                                  with_reducible rfl
                                rotate_left
                                · simp only [Act.put, sA, s0, s1, i64_w, i32_w]
                                  rfl
                                refine take_ (i := 19) (N := some 74) (v := ?_) (a' := ?_) #[tT, tT, tT, tT, tT, tT, tT, tT, tT, tT, tT, tT, tT, tT, tT, tT, tT, tT, tT, tT, fF, fF] rfl rfl (take_ofW HT_.out HW_.out (by kernel_rfl)) (fun _ _ _ h => h) (Or.inl ⟨by rfl, ?_⟩) hHeld ?_ ?_
                                rotate_left
                                · rintro w' ⟨s0, s1, s2, s3, s4, s5, s6, s7⟩
                                  go_simp
                                  with_reducible rfl
                                rotate_left
                                · simp only [Act.put, sA, s0, s1, i64_w, i32_w]
                                  rfl
                                refine one_ (i := 20) (N := some 75) #[tT, tT, tT, tT, tT, tT, tT, tT, tT, tT, tT, tT, tT, tT, tT, tT, tT, tT, tT, tT, tT, fF] rfl rfl (one_of HT_.out (by kernel_rfl)) (by decide) (fun K hK => ?_)
                                refine goes_ Try.func16 (by kernel_rfl) rfl #[.int .u64 ((rd_T25 l0 x13_3).f0), .int .u64 ((rd_T25 l0 x13_3).f1), .int .u64 ((rd_T25 l0 x12_2).f0), .int .u64 ((rd_T25 l0 x12_2).f1)] (by rfl) rfl rfl (by (try simp only [List.map_toArray, List.map_cons, List.map_nil]); first | done | rfl | (simp only [List.length_drop, List.length_take]; rfl)) ?_
                                with_reducible refine (bezantref01_Meet.calls k3 ((rd_T25 l0 x13_3).f0) ((rd_T25 l0 x13_3).f1) ((rd_T25 l0 x12_2).f0) ((rd_T25 l0 x12_2).f1) false _ A23.out).mono ?_
                                rintro e w' ⟨rfl, ⟨nd, rfl⟩⟩
                                refine ⟨_, rfl, ?_⟩
                                refine hK.out _ _ ⟨((HB.out.cell (World.block_lt_of_cell? w _ hw145_0)).trans hw145_0), ((HB.out.cell (World.block_lt_of_cell? w _ hw145_1)).trans hw145_1), ((HB.out.cell (World.block_lt_of_cell? w _ hw146_0)).trans hw146_0), ((HB.out.cell (World.block_lt_of_cell? w _ hw146_1)).trans hw146_1), ((HB.out.cell (World.block_lt_of_cell? w _ hw147_0)).trans hw147_0), ((HB.out.cell (World.block_lt_of_cell? w _ hw147_1)).trans hw147_1), ((HB.out.cell (World.block_lt_of_cell? w _ hw148_0)).trans hw148_0), ((HB.out.cell (World.block_lt_of_cell? w _ hw148_1)).trans hw148_1)⟩ (fun hHeld => ?_)
                                clear hK K
                                refine norm_ (a' := ?_) ?_ ?_
                                rotate_left
                                · show Act.put _ (some 75) _ = _
                                  simp only [Act.put, sA, s0, s1, i64_w, i32_w]
                                  rfl
                                refine pure_ (i := 21) (N := some 14) (v := ?_) (a' := ?_) #[tT, tT, tT, tT, tT, tT, tT, tT, tT, tT, tT, tT, tT, tT, tT, tT, tT, tT, tT, tT, tT, tT] rfl rfl (any_of HT_.out (by kernel_rfl)) (fun _ _ _ h => h) (Or.inl ⟨by rfl, ?_⟩) ?_ ?_
                                rotate_left
                                · intro w'
                                  go_simp
                                  with_reducible rfl
                                rotate_left
                                · simp only [Act.put, sA, s0, s1, i64_w, i32_w]
                                  rfl
                                refine done_ (done_of HT_.out (by kernel_rfl)) ?_
                                try go_wp2
                                (try (rw [drewN_self w40]; generalize hq_ : World.drewN w40 _ = w40; have n0_ : Aside0 (w40.heap[gb136]? = some (.cells #[.int .u64 a1_0, .int .u64 a1_1] 25 (0, 0))) := ⟨by rw [← hq_]; exact (by (with_reducible repeat (first | refine blk_drewN ?_ _ | refine blk_drew ?_ | refine blk_alloc ?_ _)); exact BK136.out)⟩; have n1_ : Aside0 (w40.heap[gb137]? = some (.cells #[.int .u64 a2_0, .int .u64 a2_1] 25 (0, 0))) := ⟨by rw [← hq_]; exact (by (with_reducible repeat (first | refine blk_drewN ?_ _ | refine blk_drew ?_ | refine blk_alloc ?_ _)); exact BK137.out)⟩; have n2_ : Aside0 (Below w.heap.size w w40) := ⟨by rw [← hq_]; exact (by repeat (first | (with_reducible first | exact HB.out | apply below_alloc | apply pw_below_drewN | apply below_drew1 | refine below_set ?_ GE136.out | refine below_set ?_ GE137.out) | exact HB.out))⟩; clear BK136 BK137 HB hq_; have BK136 := n0_; have BK137 := n1_; have HB := n2_; clear n0_ n1_ n2_))
                                have n0_ := Aside0.mk (blk_drew BK136.out)
                                have n1_ := Aside0.mk (blk_drew BK137.out)
                                have n2_ := Aside0.mk (below_drew1 HB.out)
                                clear BK136
                                clear BK137
                                clear HB
                                have BK136 := n0_
                                have BK137 := n1_
                                have HB := n2_
                                clear n0_ n1_ n2_
                                have p158 : 0 ≤ (x13_3 : Int) := of_decide_eq_true (by first | (with_reducible assumption) | assumption)
                                have q158 : x13_3 < (l0.length : Int) := of_decide_eq_true (by first | (with_reducible assumption) | assumption)
                                obtain ⟨ad158, e158, hx158_0, hx158_1⟩ := at_T25 HR0.out x13_3 p158 q158
                                have hw158_1 := hx158_1
                                have hw158_0 := hx158_0
                                obtain rfl : ad145 = ad158 := (by injection e158)
                                replace hx158_0 := (HB.out.cell (World.block_lt_of_cell? w _ hx158_0)).trans hx158_0
                                replace hx158_1 := (HB.out.cell (World.block_lt_of_cell? w _ hx158_1)).trans hx158_1
                                replace p158 := eq_true p158
                                replace q158 := eq_true q158
                                have p159 : 0 ≤ (x13_3 : Int) := of_decide_eq_true (by first | (with_reducible assumption) | assumption)
                                have q159 : x13_3 < (l0.length : Int) := of_decide_eq_true (by first | (with_reducible assumption) | assumption)
                                obtain ⟨ad159, e159, hx159_0, hx159_1⟩ := at_T25 HR0.out x13_3 p159 q159
                                have hw159_1 := hx159_1
                                have hw159_0 := hx159_0
                                obtain rfl : ad145 = ad159 := (by injection e159)
                                replace hx159_0 := (HB.out.cell (World.block_lt_of_cell? w _ hx159_0)).trans hx159_0
                                replace hx159_1 := (HB.out.cell (World.block_lt_of_cell? w _ hx159_1)).trans hx159_1
                                replace p159 := eq_true p159
                                replace q159 := eq_true q159
                                have p160 : 0 ≤ (x12_2 : Int) := of_decide_eq_true (by first | (with_reducible assumption) | assumption)
                                have q160 : x12_2 < (l0.length : Int) := of_decide_eq_true (by first | (with_reducible assumption) | assumption)
                                obtain ⟨ad160, e160, hx160_0, hx160_1⟩ := at_T25 HR0.out x12_2 p160 q160
                                have hw160_1 := hx160_1
                                have hw160_0 := hx160_0
                                obtain rfl : ad145 = ad160 := (by injection e160)
                                replace hx160_0 := (HB.out.cell (World.block_lt_of_cell? w _ hx160_0)).trans hx160_0
                                replace hx160_1 := (HB.out.cell (World.block_lt_of_cell? w _ hx160_1)).trans hx160_1
                                replace p160 := eq_true p160
                                replace q160 := eq_true q160
                                refine start_ (n := 17) (S := fun w' => w'.cell? (ad145.add ((x13_3).toNat * 2)) = some (.int .u64 ((rd_T25 l0 x13_3).f0)) ∧ w'.cell? ⟨(ad145.add ((x13_3).toNat * 2)).block, (ad145.add ((x13_3).toNat * 2)).off + 1, none⟩ = some (.int .u64 ((rd_T25 l0 x13_3).f1)) ∧ w'.cell? (ad145.add ((x13_3).toNat * 2)) = some (.int .u64 ((rd_T25 l0 x13_3).f0)) ∧ w'.cell? ⟨(ad145.add ((x13_3).toNat * 2)).block, (ad145.add ((x13_3).toNat * 2)).off + 1, none⟩ = some (.int .u64 ((rd_T25 l0 x13_3).f1)) ∧ w'.cell? (ad145.add ((x12_2).toNat * 2)) = some (.int .u64 ((rd_T25 l0 x12_2).f0)) ∧ w'.cell? ⟨(ad145.add ((x12_2).toNat * 2)).block, (ad145.add ((x12_2).toNat * 2)).off + 1, none⟩ = some (.int .u64 ((rd_T25 l0 x12_2).f1))) (ds := []) #[fF, fF, fF, fF, fF, fF, fF, fF, fF, fF, fF, fF, fF, fF, fF, fF, fF] (by kernel_rfl) rfl rfl ⟨((HB.out.cell (World.block_lt_of_cell? w _ hw158_0)).trans hw158_0), ((HB.out.cell (World.block_lt_of_cell? w _ hw158_1)).trans hw158_1), ((HB.out.cell (World.block_lt_of_cell? w _ hw159_0)).trans hw159_0), ((HB.out.cell (World.block_lt_of_cell? w _ hw159_1)).trans hw159_1), ((HB.out.cell (World.block_lt_of_cell? w _ hw160_0)).trans hw160_0), ((HB.out.cell (World.block_lt_of_cell? w _ hw160_1)).trans hw160_1)⟩ (fun hHeld => ?_); refine with_tabW bezantlaw02_SpanTells.tab19 bezantlaw02_SpanTells.bits19 (fun HT_ HW_ => ?_)
                                generalize w40.drew = w41 at BK136 BK137 HB hx158_0 hx158_1 hx159_0 hx159_1 hx160_0 hx160_1 hHeld ⊢
                                refine pure_ (i := 0) (N := some 83) (v := ?_) (a' := ?_) #[tT, fF, fF, fF, fF, fF, fF, fF, fF, fF, fF, fF, fF, fF, fF, fF, fF] rfl rfl (any_of HT_.out (by kernel_rfl)) (fun _ _ _ h => h) (Or.inl ⟨by rfl, ?_⟩) ?_ ?_
                                rotate_left
                                · intro w'
                                  go_simp
                                  with_reducible rfl
                                rotate_left
                                · simp only [Act.put, sA, s0, s1, i64_w, i32_w]
                                  rfl
                                refine pure_ (i := 1) (N := some 84) (v := ?_) (a' := ?_) #[tT, tT, fF, fF, fF, fF, fF, fF, fF, fF, fF, fF, fF, fF, fF, fF, fF] rfl rfl (any_of HT_.out (by kernel_rfl)) (fun _ _ _ h => h) (Or.inl ⟨by rfl, ?_⟩) ?_ ?_
                                rotate_left
                                · intro w'
                                  go_simp
                                  with_reducible rfl
                                rotate_left
                                · simp only [Act.put, sA, s0, s1, i64_w, i32_w]
                                  rfl
                                refine pure_ (i := 2) (N := some 85) (v := ?_) (a' := ?_) #[tT, tT, tT, fF, fF, fF, fF, fF, fF, fF, fF, fF, fF, fF, fF, fF, fF] rfl rfl (any_of HT_.out (by kernel_rfl)) (fun _ _ _ h => h) (Or.inl ⟨by rfl, ?_⟩) ?_ ?_
                                rotate_left
                                · intro w'
                                  go_simp
                                  with_reducible rfl
                                rotate_left
                                · simp only [Act.put, sA, s0, s1, i64_w, i32_w]
                                  rfl
                                refine pure_ (i := 3) (N := some 86) (v := ?_) (a' := ?_) #[tT, tT, tT, tT, fF, fF, fF, fF, fF, fF, fF, fF, fF, fF, fF, fF, fF] rfl rfl (any_of HT_.out (by kernel_rfl)) (fun _ _ _ h => h) (Or.inl ⟨by rfl, ?_⟩) ?_ ?_
                                rotate_left
                                · intro w'
                                  go_simp
                                  with_reducible rfl
                                rotate_left
                                · simp only [Act.put, sA, s0, s1, i64_w, i32_w]
                                  rfl
                                refine pure_ (i := 5) (N := some 88) (v := ?_) (a' := ?_) #[tT, tT, tT, tT, fF, tT, fF, fF, fF, fF, fF, fF, fF, fF, fF, fF, fF] rfl rfl (any_of HT_.out (by kernel_rfl)) (fun _ _ _ h => h) (Or.inl ⟨by rfl, ?_⟩) ?_ ?_
                                rotate_left
                                · intro w'
                                  go_simp
                                  with_reducible rfl
                                rotate_left
                                · simp only [Act.put, sA, s0, s1, i64_w, i32_w]
                                  rfl
                                refine pure_ (i := 6) (N := some 89) (v := ?_) (a' := ?_) #[tT, tT, tT, tT, fF, tT, tT, fF, fF, fF, fF, fF, fF, fF, fF, fF, fF] rfl rfl (any_of HT_.out (by kernel_rfl)) (fun _ _ _ h => h) (Or.inl ⟨by rfl, ?_⟩) ?_ ?_
                                rotate_left
                                · intro w'
                                  go_simp
                                  with_reducible rfl
                                rotate_left
                                · simp only [Act.put, sA, s0, s1, i64_w, i32_w]
                                  rfl
                                refine pure_ (i := 7) (N := some 90) (v := ?_) (a' := ?_) #[tT, tT, tT, tT, fF, tT, tT, tT, fF, fF, fF, fF, fF, fF, fF, fF, fF] rfl rfl (any_of HT_.out (by kernel_rfl)) (fun _ _ _ h => h) (Or.inl ⟨by rfl, ?_⟩) ?_ ?_
                                rotate_left
                                · intro w'
                                  go_simp
                                  with_reducible rfl
                                rotate_left
                                · simp only [Act.put, sA, s0, s1, i64_w, i32_w]
                                  rfl
                                refine pure_ (i := 8) (N := some 91) (v := ?_) (a' := ?_) #[tT, tT, tT, tT, fF, tT, tT, tT, tT, fF, fF, fF, fF, fF, fF, fF, fF] rfl rfl (any_of HT_.out (by kernel_rfl)) (fun _ _ _ h => h) (Or.inl ⟨by rfl, ?_⟩) ?_ ?_
                                rotate_left
                                · intro w'
                                  go_simp
                                  with_reducible rfl
                                rotate_left
                                · simp only [Act.put, sA, s0, s1, i64_w, i32_w]
                                  rfl
                                refine pure_ (i := 10) (N := some 93) (v := ?_) (a' := ?_) #[tT, tT, tT, tT, fF, tT, tT, tT, tT, fF, tT, fF, fF, fF, fF, fF, fF] rfl rfl (any_of HT_.out (by kernel_rfl)) (fun _ _ _ h => h) (Or.inl ⟨by rfl, ?_⟩) ?_ ?_
                                rotate_left
                                · intro w'
                                  go_simp
                                  with_reducible rfl
                                rotate_left
                                · simp only [Act.put, sA, s0, s1, i64_w, i32_w]
                                  rfl
                                refine pure_ (i := 11) (N := some 94) (v := ?_) (a' := ?_) #[tT, tT, tT, tT, fF, tT, tT, tT, tT, fF, tT, tT, fF, fF, fF, fF, fF] rfl rfl (any_of HT_.out (by kernel_rfl)) (fun _ _ _ h => h) (Or.inl ⟨by rfl, ?_⟩) ?_ ?_
                                rotate_left
                                · intro w'
                                  go_simp
                                  with_reducible rfl
                                rotate_left
                                · simp only [Act.put, sA, s0, s1, i64_w, i32_w]
                                  rfl
                                refine pure_ (i := 12) (N := some 95) (v := ?_) (a' := ?_) #[tT, tT, tT, tT, fF, tT, tT, tT, tT, fF, tT, tT, tT, fF, fF, fF, fF] rfl rfl (any_of HT_.out (by kernel_rfl)) (fun _ _ _ h => h) (Or.inl ⟨by rfl, ?_⟩) ?_ ?_
                                rotate_left
                                · intro w'
                                  go_simp
                                  with_reducible rfl
                                rotate_left
                                · simp only [Act.put, sA, s0, s1, i64_w, i32_w]
                                  rfl
                                refine pure_ (i := 13) (N := some 96) (v := ?_) (a' := ?_) #[tT, tT, tT, tT, fF, tT, tT, tT, tT, fF, tT, tT, tT, tT, fF, fF, fF] rfl rfl (any_of HT_.out (by kernel_rfl)) (fun _ _ _ h => h) (Or.inl ⟨by rfl, ?_⟩) ?_ ?_
                                rotate_left
                                · intro w'
                                  go_simp
                                  with_reducible rfl
                                rotate_left
                                · simp only [Act.put, sA, s0, s1, i64_w, i32_w]
                                  rfl
                                refine take_ (i := 4) (N := some 87) (v := ?_) (a' := ?_) #[tT, tT, tT, tT, tT, tT, tT, tT, tT, fF, tT, tT, tT, tT, fF, fF, fF] rfl rfl (take_ofW HT_.out HW_.out (by kernel_rfl)) (fun _ _ _ h => h) (Or.inl ⟨by rfl, ?_⟩) hHeld ?_ ?_
                                rotate_left
                                · rintro w' ⟨s0, s1, s2, s3, s4, s5⟩
                                  go_simp
                                  with_reducible rfl
                                rotate_left
                                · simp only [Act.put, sA, s0, s1, i64_w, i32_w]
                                  rfl
                                refine take_ (i := 9) (N := some 92) (v := ?_) (a' := ?_) #[tT, tT, tT, tT, tT, tT, tT, tT, tT, tT, tT, tT, tT, tT, fF, fF, fF] rfl rfl (take_ofW HT_.out HW_.out (by kernel_rfl)) (fun _ _ _ h => h) (Or.inl ⟨by rfl, ?_⟩) hHeld ?_ ?_
                                rotate_left
                                · rintro w' ⟨s0, s1, s2, s3, s4, s5⟩
                                  go_simp
                                  with_reducible rfl
                                rotate_left
                                · simp only [Act.put, sA, s0, s1, i64_w, i32_w]
                                  rfl
                                refine take_ (i := 14) (N := some 97) (v := ?_) (a' := ?_) #[tT, tT, tT, tT, tT, tT, tT, tT, tT, tT, tT, tT, tT, tT, tT, fF, fF] rfl rfl (take_ofW HT_.out HW_.out (by kernel_rfl)) (fun _ _ _ h => h) (Or.inl ⟨by rfl, ?_⟩) hHeld ?_ ?_
                                rotate_left
                                · rintro w' ⟨s0, s1, s2, s3, s4, s5⟩
                                  go_simp
                                  with_reducible rfl
                                rotate_left
                                · simp only [Act.put, sA, s0, s1, i64_w, i32_w]
                                  rfl
                                refine one_ (i := 15) (N := some 98) #[tT, tT, tT, tT, tT, tT, tT, tT, tT, tT, tT, tT, tT, tT, tT, tT, fF] rfl rfl (one_of HT_.out (by kernel_rfl)) (by decide) (fun K hK => ?_)
                                refine goes_ Try.func17 (by kernel_rfl) rfl #[.int .u64 ((rd_T25 l0 x13_3).f0), .int .u64 ((rd_T25 l0 x13_3).f1), .int .u64 ((rd_T25 l0 x12_2).f0)] (by rfl) rfl rfl (by (try simp only [List.map_toArray, List.map_cons, List.map_nil]); first | done | rfl | (simp only [List.length_drop, List.length_take]; rfl)) ?_
                                with_reducible refine (bezantref01_Below.calls ((rd_T25 l0 x13_3).f0) ((rd_T25 l0 x13_3).f1) ((rd_T25 l0 x12_2).f0) t161 _ A38.out).mono ?_
                                rintro e w' ⟨rfl, ⟨nd, rfl⟩⟩
                                refine ⟨_, rfl, ?_⟩
                                refine hK.out _ _ ⟨((HB.out.cell (World.block_lt_of_cell? w _ hw158_0)).trans hw158_0), ((HB.out.cell (World.block_lt_of_cell? w _ hw158_1)).trans hw158_1), ((HB.out.cell (World.block_lt_of_cell? w _ hw159_0)).trans hw159_0), ((HB.out.cell (World.block_lt_of_cell? w _ hw159_1)).trans hw159_1), ((HB.out.cell (World.block_lt_of_cell? w _ hw160_0)).trans hw160_0), ((HB.out.cell (World.block_lt_of_cell? w _ hw160_1)).trans hw160_1)⟩ (fun hHeld => ?_)
                                clear hK K
                                refine norm_ (a' := ?_) ?_ ?_
                                rotate_left
                                · show Act.put _ (some 98) _ = _
                                  simp only [Act.put, sA, s0, s1, i64_w, i32_w]
                                  rfl
                                refine pure_ (i := 16) (N := some 15) (v := ?_) (a' := ?_) #[tT, tT, tT, tT, tT, tT, tT, tT, tT, tT, tT, tT, tT, tT, tT, tT, tT] rfl rfl (any_of HT_.out (by kernel_rfl)) (fun _ _ _ h => h) (Or.inl ⟨by rfl, ?_⟩) ?_ ?_
                                rotate_left
                                · intro w'
                                  go_simp
                                  with_reducible rfl
                                rotate_left
                                · simp only [Act.put, sA, s0, s1, i64_w, i32_w]
                                  rfl
                                refine done_ (done_of HT_.out (by kernel_rfl)) ?_
                                try go_wp2
                                go_roundg k3
                                case measure => have := HJ4.out; have := HK2.out; have := HK3.out; omega
                                case rel => exact ⟨(x8_3), (x9_3), (x10_3), (t161), (wrap64 (x13_3 + 1)), (by first | rfl | (simp; done) | (simp [*]; done)), (by first | rfl | (simp; done) | (simp [*]; done)), (by first | rfl | (simp; done) | (simp [*]; done)), (by first | rfl | (simp; done) | (simp [*]; done)), (by first | rfl | (simp; done) | (simp [*]; done)), H', ⟨by have := HJ4.out; have := HK2.out; have := HK3.out; omega⟩, ⟨by (with_reducible repeat (first | refine blk_drewN ?_ _ | refine blk_drew ?_ | refine blk_alloc ?_ _)); exact BK136.out⟩, ⟨by (with_reducible repeat (first | refine blk_drewN ?_ _ | refine blk_drew ?_ | refine blk_alloc ?_ _)); exact BK137.out⟩, ⟨by repeat (first | (with_reducible first | exact HB.out | apply below_alloc | apply pw_below_drewN | apply below_drew1 | refine below_set ?_ GE136.out | refine below_set ?_ GE137.out) | exact HB.out)⟩⟩
                              · replace c39 := Bool.eq_false_iff.mpr c39
                                subst c39
                                rw [if_neg (show ¬ (false = true) by decide)] at H
                                have H' := Aside0.mk H
                                clear H
                                try go_wp2
                                have n0_ := Aside0.mk (blk_drew BK136.out)
                                have n1_ := Aside0.mk (blk_drew BK137.out)
                                have n2_ := Aside0.mk (below_drew1 HB.out)
                                clear BK136
                                clear BK137
                                clear HB
                                have BK136 := n0_
                                have BK137 := n1_
                                have HB := n2_
                                clear n0_ n1_ n2_
                                have p145 : 0 ≤ (x13_3 : Int) := of_decide_eq_true (by first | (with_reducible assumption) | assumption)
                                have q145 : x13_3 < (l0.length : Int) := of_decide_eq_true (by first | (with_reducible assumption) | assumption)
                                obtain ⟨ad145, e145, hx145_0, hx145_1⟩ := at_T25 HR0.out x13_3 p145 q145
                                have hw145_1 := hx145_1
                                have hw145_0 := hx145_0
                                cases e145
                                replace hx145_0 := (HB.out.cell (World.block_lt_of_cell? w _ hx145_0)).trans hx145_0
                                replace hx145_1 := (HB.out.cell (World.block_lt_of_cell? w _ hx145_1)).trans hx145_1
                                replace p145 := eq_true p145
                                replace q145 := eq_true q145
                                have p146 : 0 ≤ (x13_3 : Int) := of_decide_eq_true (by first | (with_reducible assumption) | assumption)
                                have q146 : x13_3 < (l0.length : Int) := of_decide_eq_true (by first | (with_reducible assumption) | assumption)
                                obtain ⟨ad146, e146, hx146_0, hx146_1⟩ := at_T25 HR0.out x13_3 p146 q146
                                have hw146_1 := hx146_1
                                have hw146_0 := hx146_0
                                obtain rfl : ad145 = ad146 := (by injection e146)
                                replace hx146_0 := (HB.out.cell (World.block_lt_of_cell? w _ hx146_0)).trans hx146_0
                                replace hx146_1 := (HB.out.cell (World.block_lt_of_cell? w _ hx146_1)).trans hx146_1
                                replace p146 := eq_true p146
                                replace q146 := eq_true q146
                                have p147 : 0 ≤ (x12_2 : Int) := of_decide_eq_true (by first | (with_reducible assumption) | assumption)
                                have q147 : x12_2 < (l0.length : Int) := of_decide_eq_true (by first | (with_reducible assumption) | assumption)
                                obtain ⟨ad147, e147, hx147_0, hx147_1⟩ := at_T25 HR0.out x12_2 p147 q147
                                have hw147_1 := hx147_1
                                have hw147_0 := hx147_0
                                obtain rfl : ad145 = ad147 := (by injection e147)
                                replace hx147_0 := (HB.out.cell (World.block_lt_of_cell? w _ hx147_0)).trans hx147_0
                                replace hx147_1 := (HB.out.cell (World.block_lt_of_cell? w _ hx147_1)).trans hx147_1
                                replace p147 := eq_true p147
                                replace q147 := eq_true q147
                                have p148 : 0 ≤ (x12_2 : Int) := of_decide_eq_true (by first | (with_reducible assumption) | assumption)
                                have q148 : x12_2 < (l0.length : Int) := of_decide_eq_true (by first | (with_reducible assumption) | assumption)
                                obtain ⟨ad148, e148, hx148_0, hx148_1⟩ := at_T25 HR0.out x12_2 p148 q148
                                have hw148_1 := hx148_1
                                have hw148_0 := hx148_0
                                obtain rfl : ad145 = ad148 := (by injection e148)
                                replace hx148_0 := (HB.out.cell (World.block_lt_of_cell? w _ hx148_0)).trans hx148_0
                                replace hx148_1 := (HB.out.cell (World.block_lt_of_cell? w _ hx148_1)).trans hx148_1
                                replace p148 := eq_true p148
                                replace q148 := eq_true q148
                                refine start_ (n := 22) (S := fun w' => w'.cell? (ad145.add ((x13_3).toNat * 2)) = some (.int .u64 ((rd_T25 l0 x13_3).f0)) ∧ w'.cell? ⟨(ad145.add ((x13_3).toNat * 2)).block, (ad145.add ((x13_3).toNat * 2)).off + 1, none⟩ = some (.int .u64 ((rd_T25 l0 x13_3).f1)) ∧ w'.cell? (ad145.add ((x13_3).toNat * 2)) = some (.int .u64 ((rd_T25 l0 x13_3).f0)) ∧ w'.cell? ⟨(ad145.add ((x13_3).toNat * 2)).block, (ad145.add ((x13_3).toNat * 2)).off + 1, none⟩ = some (.int .u64 ((rd_T25 l0 x13_3).f1)) ∧ w'.cell? (ad145.add ((x12_2).toNat * 2)) = some (.int .u64 ((rd_T25 l0 x12_2).f0)) ∧ w'.cell? ⟨(ad145.add ((x12_2).toNat * 2)).block, (ad145.add ((x12_2).toNat * 2)).off + 1, none⟩ = some (.int .u64 ((rd_T25 l0 x12_2).f1)) ∧ w'.cell? (ad145.add ((x12_2).toNat * 2)) = some (.int .u64 ((rd_T25 l0 x12_2).f0)) ∧ w'.cell? ⟨(ad145.add ((x12_2).toNat * 2)).block, (ad145.add ((x12_2).toNat * 2)).off + 1, none⟩ = some (.int .u64 ((rd_T25 l0 x12_2).f1))) (ds := []) #[fF, fF, fF, fF, fF, fF, fF, fF, fF, fF, fF, fF, fF, fF, fF, fF, fF, fF, fF, fF, fF, fF] (by kernel_rfl) rfl rfl ⟨((HB.out.cell (World.block_lt_of_cell? w _ hw145_0)).trans hw145_0), ((HB.out.cell (World.block_lt_of_cell? w _ hw145_1)).trans hw145_1), ((HB.out.cell (World.block_lt_of_cell? w _ hw146_0)).trans hw146_0), ((HB.out.cell (World.block_lt_of_cell? w _ hw146_1)).trans hw146_1), ((HB.out.cell (World.block_lt_of_cell? w _ hw147_0)).trans hw147_0), ((HB.out.cell (World.block_lt_of_cell? w _ hw147_1)).trans hw147_1), ((HB.out.cell (World.block_lt_of_cell? w _ hw148_0)).trans hw148_0), ((HB.out.cell (World.block_lt_of_cell? w _ hw148_1)).trans hw148_1)⟩ (fun hHeld => ?_); refine with_tabW bezantlaw02_SpanTells.tab14 bezantlaw02_SpanTells.bits14 (fun HT_ HW_ => ?_)
                                generalize wr.drew = w42 at BK136 BK137 HB hx145_0 hx145_1 hx146_0 hx146_1 hx147_0 hx147_1 hx148_0 hx148_1 hHeld ⊢
                                refine pure_ (i := 0) (N := some 55) (v := ?_) (a' := ?_) #[tT, fF, fF, fF, fF, fF, fF, fF, fF, fF, fF, fF, fF, fF, fF, fF, fF, fF, fF, fF, fF, fF] rfl rfl (any_of HT_.out (by kernel_rfl)) (fun _ _ _ h => h) (Or.inl ⟨by rfl, ?_⟩) ?_ ?_
                                rotate_left
                                · intro w'
                                  go_simp
                                  with_reducible rfl
                                rotate_left
                                · simp only [Act.put, sA, s0, s1, i64_w, i32_w]
                                  rfl
                                refine pure_ (i := 1) (N := some 56) (v := ?_) (a' := ?_) #[tT, tT, fF, fF, fF, fF, fF, fF, fF, fF, fF, fF, fF, fF, fF, fF, fF, fF, fF, fF, fF, fF] rfl rfl (any_of HT_.out (by kernel_rfl)) (fun _ _ _ h => h) (Or.inl ⟨by rfl, ?_⟩) ?_ ?_
                                rotate_left
                                · intro w'
                                  go_simp
                                  with_reducible rfl
                                rotate_left
                                · simp only [Act.put, sA, s0, s1, i64_w, i32_w]
                                  rfl
                                refine pure_ (i := 2) (N := some 57) (v := ?_) (a' := ?_) #[tT, tT, tT, fF, fF, fF, fF, fF, fF, fF, fF, fF, fF, fF, fF, fF, fF, fF, fF, fF, fF, fF] rfl rfl (any_of HT_.out (by kernel_rfl)) (fun _ _ _ h => h) (Or.inl ⟨by rfl, ?_⟩) ?_ ?_
                                rotate_left
                                · intro w'
                                  go_simp
                                  with_reducible rfl
                                rotate_left
                                · simp only [Act.put, sA, s0, s1, i64_w, i32_w]
                                  rfl
                                refine pure_ (i := 3) (N := some 58) (v := ?_) (a' := ?_) #[tT, tT, tT, tT, fF, fF, fF, fF, fF, fF, fF, fF, fF, fF, fF, fF, fF, fF, fF, fF, fF, fF] rfl rfl (any_of HT_.out (by kernel_rfl)) (fun _ _ _ h => h) (Or.inl ⟨by rfl, ?_⟩) ?_ ?_
                                rotate_left
                                · intro w'
                                  go_simp
                                  with_reducible rfl
                                rotate_left
                                · simp only [Act.put, sA, s0, s1, i64_w, i32_w]
                                  rfl
                                refine pure_ (i := 5) (N := some 60) (v := ?_) (a' := ?_) #[tT, tT, tT, tT, fF, tT, fF, fF, fF, fF, fF, fF, fF, fF, fF, fF, fF, fF, fF, fF, fF, fF] rfl rfl (any_of HT_.out (by kernel_rfl)) (fun _ _ _ h => h) (Or.inl ⟨by rfl, ?_⟩) ?_ ?_
                                rotate_left
                                · intro w'
                                  go_simp
                                  with_reducible rfl
                                rotate_left
                                · simp only [Act.put, sA, s0, s1, i64_w, i32_w]
                                  rfl
                                refine pure_ (i := 6) (N := some 61) (v := ?_) (a' := ?_) #[tT, tT, tT, tT, fF, tT, tT, fF, fF, fF, fF, fF, fF, fF, fF, fF, fF, fF, fF, fF, fF, fF] rfl rfl (any_of HT_.out (by kernel_rfl)) (fun _ _ _ h => h) (Or.inl ⟨by rfl, ?_⟩) ?_ ?_
                                rotate_left
                                · intro w'
                                  go_simp
                                  with_reducible rfl
                                rotate_left
                                · simp only [Act.put, sA, s0, s1, i64_w, i32_w]
                                  rfl
                                refine pure_ (i := 7) (N := some 62) (v := ?_) (a' := ?_) #[tT, tT, tT, tT, fF, tT, tT, tT, fF, fF, fF, fF, fF, fF, fF, fF, fF, fF, fF, fF, fF, fF] rfl rfl (any_of HT_.out (by kernel_rfl)) (fun _ _ _ h => h) (Or.inl ⟨by rfl, ?_⟩) ?_ ?_
                                rotate_left
                                · intro w'
                                  go_simp
                                  with_reducible rfl
                                rotate_left
                                · simp only [Act.put, sA, s0, s1, i64_w, i32_w]
                                  rfl
                                refine pure_ (i := 8) (N := some 63) (v := ?_) (a' := ?_) #[tT, tT, tT, tT, fF, tT, tT, tT, tT, fF, fF, fF, fF, fF, fF, fF, fF, fF, fF, fF, fF, fF] rfl rfl (any_of HT_.out (by kernel_rfl)) (fun _ _ _ h => h) (Or.inl ⟨by rfl, ?_⟩) ?_ ?_
                                rotate_left
                                · intro w'
                                  go_simp
                                  with_reducible rfl
                                rotate_left
                                · simp only [Act.put, sA, s0, s1, i64_w, i32_w]
                                  rfl
                                refine pure_ (i := 10) (N := some 65) (v := ?_) (a' := ?_) #[tT, tT, tT, tT, fF, tT, tT, tT, tT, fF, tT, fF, fF, fF, fF, fF, fF, fF, fF, fF, fF, fF] rfl rfl (any_of HT_.out (by kernel_rfl)) (fun _ _ _ h => h) (Or.inl ⟨by rfl, ?_⟩) ?_ ?_
                                rotate_left
                                · intro w'
                                  go_simp
                                  with_reducible rfl
                                rotate_left
                                · simp only [Act.put, sA, s0, s1, i64_w, i32_w]
                                  rfl
                                refine pure_ (i := 11) (N := some 66) (v := ?_) (a' := ?_) #[tT, tT, tT, tT, fF, tT, tT, tT, tT, fF, tT, tT, fF, fF, fF, fF, fF, fF, fF, fF, fF, fF] rfl rfl (any_of HT_.out (by kernel_rfl)) (fun _ _ _ h => h) (Or.inl ⟨by rfl, ?_⟩) ?_ ?_
                                rotate_left
                                · intro w'
                                  go_simp
                                  with_reducible rfl
                                rotate_left
                                · simp only [Act.put, sA, s0, s1, i64_w, i32_w]
                                  rfl
                                refine pure_ (i := 12) (N := some 67) (v := ?_) (a' := ?_) #[tT, tT, tT, tT, fF, tT, tT, tT, tT, fF, tT, tT, tT, fF, fF, fF, fF, fF, fF, fF, fF, fF] rfl rfl (any_of HT_.out (by kernel_rfl)) (fun _ _ _ h => h) (Or.inl ⟨by rfl, ?_⟩) ?_ ?_
                                rotate_left
                                · intro w'
                                  go_simp
                                  with_reducible rfl
                                rotate_left
                                · simp only [Act.put, sA, s0, s1, i64_w, i32_w]
                                  rfl
                                refine pure_ (i := 13) (N := some 68) (v := ?_) (a' := ?_) #[tT, tT, tT, tT, fF, tT, tT, tT, tT, fF, tT, tT, tT, tT, fF, fF, fF, fF, fF, fF, fF, fF] rfl rfl (any_of HT_.out (by kernel_rfl)) (fun _ _ _ h => h) (Or.inl ⟨by rfl, ?_⟩) ?_ ?_
                                rotate_left
                                · intro w'
                                  go_simp
                                  with_reducible rfl
                                rotate_left
                                · simp only [Act.put, sA, s0, s1, i64_w, i32_w]
                                  rfl
                                refine pure_ (i := 15) (N := some 70) (v := ?_) (a' := ?_) #[tT, tT, tT, tT, fF, tT, tT, tT, tT, fF, tT, tT, tT, tT, fF, tT, fF, fF, fF, fF, fF, fF] rfl rfl (any_of HT_.out (by kernel_rfl)) (fun _ _ _ h => h) (Or.inl ⟨by rfl, ?_⟩) ?_ ?_
                                rotate_left
                                · intro w'
                                  go_simp
                                  with_reducible rfl
                                rotate_left
                                · simp only [Act.put, sA, s0, s1, i64_w, i32_w]
                                  rfl
                                refine pure_ (i := 16) (N := some 71) (v := ?_) (a' := ?_) #[tT, tT, tT, tT, fF, tT, tT, tT, tT, fF, tT, tT, tT, tT, fF, tT, tT, fF, fF, fF, fF, fF] rfl rfl (any_of HT_.out (by kernel_rfl)) (fun _ _ _ h => h) (Or.inl ⟨by rfl, ?_⟩) ?_ ?_
                                rotate_left
                                · intro w'
                                  go_simp
                                  with_reducible rfl
                                rotate_left
                                · simp only [Act.put, sA, s0, s1, i64_w, i32_w]
                                  rfl
                                refine pure_ (i := 17) (N := some 72) (v := ?_) (a' := ?_) #[tT, tT, tT, tT, fF, tT, tT, tT, tT, fF, tT, tT, tT, tT, fF, tT, tT, tT, fF, fF, fF, fF] rfl rfl (any_of HT_.out (by kernel_rfl)) (fun _ _ _ h => h) (Or.inl ⟨by rfl, ?_⟩) ?_ ?_
                                rotate_left
                                · intro w'
                                  go_simp
                                  with_reducible rfl
                                rotate_left
                                · simp only [Act.put, sA, s0, s1, i64_w, i32_w]
                                  rfl
                                refine pure_ (i := 18) (N := some 73) (v := ?_) (a' := ?_) #[tT, tT, tT, tT, fF, tT, tT, tT, tT, fF, tT, tT, tT, tT, fF, tT, tT, tT, tT, fF, fF, fF] rfl rfl (any_of HT_.out (by kernel_rfl)) (fun _ _ _ h => h) (Or.inl ⟨by rfl, ?_⟩) ?_ ?_
                                rotate_left
                                · intro w'
                                  go_simp
                                  with_reducible rfl
                                rotate_left
                                · simp only [Act.put, sA, s0, s1, i64_w, i32_w]
                                  rfl
                                refine take_ (i := 4) (N := some 59) (v := ?_) (a' := ?_) #[tT, tT, tT, tT, tT, tT, tT, tT, tT, fF, tT, tT, tT, tT, fF, tT, tT, tT, tT, fF, fF, fF] rfl rfl (take_ofW HT_.out HW_.out (by kernel_rfl)) (fun _ _ _ h => h) (Or.inl ⟨by rfl, ?_⟩) hHeld ?_ ?_
                                rotate_left
                                · rintro w' ⟨s0, s1, s2, s3, s4, s5, s6, s7⟩
                                  go_simp
                                  with_reducible rfl
                                rotate_left
                                · simp only [Act.put, sA, s0, s1, i64_w, i32_w]
                                  rfl
                                refine take_ (i := 9) (N := some 64) (v := ?_) (a' := ?_) #[tT, tT, tT, tT, tT, tT, tT, tT, tT, tT, tT, tT, tT, tT, fF, tT, tT, tT, tT, fF, fF, fF] rfl rfl (take_ofW HT_.out HW_.out (by kernel_rfl)) (fun _ _ _ h => h) (Or.inl ⟨by rfl, ?_⟩) hHeld ?_ ?_
                                rotate_left
                                · rintro w' ⟨s0, s1, s2, s3, s4, s5, s6, s7⟩
                                  go_simp
                                  with_reducible rfl
                                rotate_left
                                · simp only [Act.put, sA, s0, s1, i64_w, i32_w]
                                  rfl
                                refine take_ (i := 14) (N := some 69) (v := ?_) (a' := ?_) #[tT, tT, tT, tT, tT, tT, tT, tT, tT, tT, tT, tT, tT, tT, tT, tT, tT, tT, tT, fF, fF, fF] rfl rfl (take_ofW HT_.out HW_.out (by kernel_rfl)) (fun _ _ _ h => h) (Or.inl ⟨by rfl, ?_⟩) hHeld ?_ ?_
                                rotate_left
                                · rintro w' ⟨s0, s1, s2, s3, s4, s5, s6, s7⟩
                                  go_simp
                                  with_reducible rfl
                                rotate_left
                                · simp only [Act.put, sA, s0, s1, i64_w, i32_w]
                                  rfl
                                refine take_ (i := 19) (N := some 74) (v := ?_) (a' := ?_) #[tT, tT, tT, tT, tT, tT, tT, tT, tT, tT, tT, tT, tT, tT, tT, tT, tT, tT, tT, tT, fF, fF] rfl rfl (take_ofW HT_.out HW_.out (by kernel_rfl)) (fun _ _ _ h => h) (Or.inl ⟨by rfl, ?_⟩) hHeld ?_ ?_
                                rotate_left
                                · rintro w' ⟨s0, s1, s2, s3, s4, s5, s6, s7⟩
                                  go_simp
                                  with_reducible rfl
                                rotate_left
                                · simp only [Act.put, sA, s0, s1, i64_w, i32_w]
                                  rfl
                                refine one_ (i := 20) (N := some 75) #[tT, tT, tT, tT, tT, tT, tT, tT, tT, tT, tT, tT, tT, tT, tT, tT, tT, tT, tT, tT, tT, fF] rfl rfl (one_of HT_.out (by kernel_rfl)) (by decide) (fun K hK => ?_)
                                refine goes_ Try.func16 (by kernel_rfl) rfl #[.int .u64 ((rd_T25 l0 x13_3).f0), .int .u64 ((rd_T25 l0 x13_3).f1), .int .u64 ((rd_T25 l0 x12_2).f0), .int .u64 ((rd_T25 l0 x12_2).f1)] (by rfl) rfl rfl (by (try simp only [List.map_toArray, List.map_cons, List.map_nil]); first | done | rfl | (simp only [List.length_drop, List.length_take]; rfl)) ?_
                                with_reducible refine (bezantref01_Meet.calls k3 ((rd_T25 l0 x13_3).f0) ((rd_T25 l0 x13_3).f1) ((rd_T25 l0 x12_2).f0) ((rd_T25 l0 x12_2).f1) false _ A23.out).mono ?_
                                rintro e w' ⟨rfl, ⟨nd, rfl⟩⟩
                                refine ⟨_, rfl, ?_⟩
                                refine hK.out _ _ ⟨((HB.out.cell (World.block_lt_of_cell? w _ hw145_0)).trans hw145_0), ((HB.out.cell (World.block_lt_of_cell? w _ hw145_1)).trans hw145_1), ((HB.out.cell (World.block_lt_of_cell? w _ hw146_0)).trans hw146_0), ((HB.out.cell (World.block_lt_of_cell? w _ hw146_1)).trans hw146_1), ((HB.out.cell (World.block_lt_of_cell? w _ hw147_0)).trans hw147_0), ((HB.out.cell (World.block_lt_of_cell? w _ hw147_1)).trans hw147_1), ((HB.out.cell (World.block_lt_of_cell? w _ hw148_0)).trans hw148_0), ((HB.out.cell (World.block_lt_of_cell? w _ hw148_1)).trans hw148_1)⟩ (fun hHeld => ?_)
                                clear hK K
                                refine norm_ (a' := ?_) ?_ ?_
                                rotate_left
                                · show Act.put _ (some 75) _ = _
                                  simp only [Act.put, sA, s0, s1, i64_w, i32_w]
                                  rfl
                                refine pure_ (i := 21) (N := some 14) (v := ?_) (a' := ?_) #[tT, tT, tT, tT, tT, tT, tT, tT, tT, tT, tT, tT, tT, tT, tT, tT, tT, tT, tT, tT, tT, tT] rfl rfl (any_of HT_.out (by kernel_rfl)) (fun _ _ _ h => h) (Or.inl ⟨by rfl, ?_⟩) ?_ ?_
                                rotate_left
                                · intro w'
                                  go_simp
                                  with_reducible rfl
                                rotate_left
                                · simp only [Act.put, sA, s0, s1, i64_w, i32_w]
                                  rfl
                                refine done_ (done_of HT_.out (by kernel_rfl)) ?_
                                try go_wp2
                                (try (rw [drewN_self w42]; generalize hq_ : World.drewN w42 _ = w42; have n0_ : Aside0 (w42.heap[gb136]? = some (.cells #[.int .u64 a1_0, .int .u64 a1_1] 25 (0, 0))) := ⟨by rw [← hq_]; exact (by (with_reducible repeat (first | refine blk_drewN ?_ _ | refine blk_drew ?_ | refine blk_alloc ?_ _)); exact BK136.out)⟩; have n1_ : Aside0 (w42.heap[gb137]? = some (.cells #[.int .u64 a2_0, .int .u64 a2_1] 25 (0, 0))) := ⟨by rw [← hq_]; exact (by (with_reducible repeat (first | refine blk_drewN ?_ _ | refine blk_drew ?_ | refine blk_alloc ?_ _)); exact BK137.out)⟩; have n2_ : Aside0 (Below w.heap.size w w42) := ⟨by rw [← hq_]; exact (by repeat (first | (with_reducible first | exact HB.out | apply below_alloc | apply pw_below_drewN | apply below_drew1 | refine below_set ?_ GE136.out | refine below_set ?_ GE137.out) | exact HB.out))⟩; clear BK136 BK137 HB hq_; have BK136 := n0_; have BK137 := n1_; have HB := n2_; clear n0_ n1_ n2_))
                                have n0_ := Aside0.mk (blk_drew BK136.out)
                                have n1_ := Aside0.mk (blk_drew BK137.out)
                                have n2_ := Aside0.mk (below_drew1 HB.out)
                                clear BK136
                                clear BK137
                                clear HB
                                have BK136 := n0_
                                have BK137 := n1_
                                have HB := n2_
                                clear n0_ n1_ n2_
                                have p158 : 0 ≤ (x13_3 : Int) := of_decide_eq_true (by first | (with_reducible assumption) | assumption)
                                have q158 : x13_3 < (l0.length : Int) := of_decide_eq_true (by first | (with_reducible assumption) | assumption)
                                obtain ⟨ad158, e158, hx158_0, hx158_1⟩ := at_T25 HR0.out x13_3 p158 q158
                                have hw158_1 := hx158_1
                                have hw158_0 := hx158_0
                                obtain rfl : ad145 = ad158 := (by injection e158)
                                replace hx158_0 := (HB.out.cell (World.block_lt_of_cell? w _ hx158_0)).trans hx158_0
                                replace hx158_1 := (HB.out.cell (World.block_lt_of_cell? w _ hx158_1)).trans hx158_1
                                replace p158 := eq_true p158
                                replace q158 := eq_true q158
                                have p159 : 0 ≤ (x13_3 : Int) := of_decide_eq_true (by first | (with_reducible assumption) | assumption)
                                have q159 : x13_3 < (l0.length : Int) := of_decide_eq_true (by first | (with_reducible assumption) | assumption)
                                obtain ⟨ad159, e159, hx159_0, hx159_1⟩ := at_T25 HR0.out x13_3 p159 q159
                                have hw159_1 := hx159_1
                                have hw159_0 := hx159_0
                                obtain rfl : ad145 = ad159 := (by injection e159)
                                replace hx159_0 := (HB.out.cell (World.block_lt_of_cell? w _ hx159_0)).trans hx159_0
                                replace hx159_1 := (HB.out.cell (World.block_lt_of_cell? w _ hx159_1)).trans hx159_1
                                replace p159 := eq_true p159
                                replace q159 := eq_true q159
                                have p160 : 0 ≤ (x12_2 : Int) := of_decide_eq_true (by first | (with_reducible assumption) | assumption)
                                have q160 : x12_2 < (l0.length : Int) := of_decide_eq_true (by first | (with_reducible assumption) | assumption)
                                obtain ⟨ad160, e160, hx160_0, hx160_1⟩ := at_T25 HR0.out x12_2 p160 q160
                                have hw160_1 := hx160_1
                                have hw160_0 := hx160_0
                                obtain rfl : ad145 = ad160 := (by injection e160)
                                replace hx160_0 := (HB.out.cell (World.block_lt_of_cell? w _ hx160_0)).trans hx160_0
                                replace hx160_1 := (HB.out.cell (World.block_lt_of_cell? w _ hx160_1)).trans hx160_1
                                replace p160 := eq_true p160
                                replace q160 := eq_true q160
                                refine start_ (n := 17) (S := fun w' => w'.cell? (ad145.add ((x13_3).toNat * 2)) = some (.int .u64 ((rd_T25 l0 x13_3).f0)) ∧ w'.cell? ⟨(ad145.add ((x13_3).toNat * 2)).block, (ad145.add ((x13_3).toNat * 2)).off + 1, none⟩ = some (.int .u64 ((rd_T25 l0 x13_3).f1)) ∧ w'.cell? (ad145.add ((x13_3).toNat * 2)) = some (.int .u64 ((rd_T25 l0 x13_3).f0)) ∧ w'.cell? ⟨(ad145.add ((x13_3).toNat * 2)).block, (ad145.add ((x13_3).toNat * 2)).off + 1, none⟩ = some (.int .u64 ((rd_T25 l0 x13_3).f1)) ∧ w'.cell? (ad145.add ((x12_2).toNat * 2)) = some (.int .u64 ((rd_T25 l0 x12_2).f0)) ∧ w'.cell? ⟨(ad145.add ((x12_2).toNat * 2)).block, (ad145.add ((x12_2).toNat * 2)).off + 1, none⟩ = some (.int .u64 ((rd_T25 l0 x12_2).f1))) (ds := []) #[fF, fF, fF, fF, fF, fF, fF, fF, fF, fF, fF, fF, fF, fF, fF, fF, fF] (by kernel_rfl) rfl rfl ⟨((HB.out.cell (World.block_lt_of_cell? w _ hw158_0)).trans hw158_0), ((HB.out.cell (World.block_lt_of_cell? w _ hw158_1)).trans hw158_1), ((HB.out.cell (World.block_lt_of_cell? w _ hw159_0)).trans hw159_0), ((HB.out.cell (World.block_lt_of_cell? w _ hw159_1)).trans hw159_1), ((HB.out.cell (World.block_lt_of_cell? w _ hw160_0)).trans hw160_0), ((HB.out.cell (World.block_lt_of_cell? w _ hw160_1)).trans hw160_1)⟩ (fun hHeld => ?_); refine with_tabW bezantlaw02_SpanTells.tab19 bezantlaw02_SpanTells.bits19 (fun HT_ HW_ => ?_)
                                generalize w42.drew = w43 at BK136 BK137 HB hx158_0 hx158_1 hx159_0 hx159_1 hx160_0 hx160_1 hHeld ⊢
                                refine pure_ (i := 0) (N := some 83) (v := ?_) (a' := ?_) #[tT, fF, fF, fF, fF, fF, fF, fF, fF, fF, fF, fF, fF, fF, fF, fF, fF] rfl rfl (any_of HT_.out (by kernel_rfl)) (fun _ _ _ h => h) (Or.inl ⟨by rfl, ?_⟩) ?_ ?_
                                rotate_left
                                · intro w'
                                  go_simp
                                  with_reducible rfl
                                rotate_left
                                · simp only [Act.put, sA, s0, s1, i64_w, i32_w]
                                  rfl
                                refine pure_ (i := 1) (N := some 84) (v := ?_) (a' := ?_) #[tT, tT, fF, fF, fF, fF, fF, fF, fF, fF, fF, fF, fF, fF, fF, fF, fF] rfl rfl (any_of HT_.out (by kernel_rfl)) (fun _ _ _ h => h) (Or.inl ⟨by rfl, ?_⟩) ?_ ?_
                                rotate_left
                                · intro w'
                                  go_simp
                                  with_reducible rfl
                                rotate_left
                                · simp only [Act.put, sA, s0, s1, i64_w, i32_w]
                                  rfl
                                refine pure_ (i := 2) (N := some 85) (v := ?_) (a' := ?_) #[tT, tT, tT, fF, fF, fF, fF, fF, fF, fF, fF, fF, fF, fF, fF, fF, fF] rfl rfl (any_of HT_.out (by kernel_rfl)) (fun _ _ _ h => h) (Or.inl ⟨by rfl, ?_⟩) ?_ ?_
                                rotate_left
                                · intro w'
                                  go_simp
                                  with_reducible rfl
                                rotate_left
                                · simp only [Act.put, sA, s0, s1, i64_w, i32_w]
                                  rfl
                                refine pure_ (i := 3) (N := some 86) (v := ?_) (a' := ?_) #[tT, tT, tT, tT, fF, fF, fF, fF, fF, fF, fF, fF, fF, fF, fF, fF, fF] rfl rfl (any_of HT_.out (by kernel_rfl)) (fun _ _ _ h => h) (Or.inl ⟨by rfl, ?_⟩) ?_ ?_
                                rotate_left
                                · intro w'
                                  go_simp
                                  with_reducible rfl
                                rotate_left
                                · simp only [Act.put, sA, s0, s1, i64_w, i32_w]
                                  rfl
                                refine pure_ (i := 5) (N := some 88) (v := ?_) (a' := ?_) #[tT, tT, tT, tT, fF, tT, fF, fF, fF, fF, fF, fF, fF, fF, fF, fF, fF] rfl rfl (any_of HT_.out (by kernel_rfl)) (fun _ _ _ h => h) (Or.inl ⟨by rfl, ?_⟩) ?_ ?_
                                rotate_left
                                · intro w'
                                  go_simp
                                  with_reducible rfl
                                rotate_left
                                · simp only [Act.put, sA, s0, s1, i64_w, i32_w]
                                  rfl
                                refine pure_ (i := 6) (N := some 89) (v := ?_) (a' := ?_) #[tT, tT, tT, tT, fF, tT, tT, fF, fF, fF, fF, fF, fF, fF, fF, fF, fF] rfl rfl (any_of HT_.out (by kernel_rfl)) (fun _ _ _ h => h) (Or.inl ⟨by rfl, ?_⟩) ?_ ?_
                                rotate_left
                                · intro w'
                                  go_simp
                                  with_reducible rfl
                                rotate_left
                                · simp only [Act.put, sA, s0, s1, i64_w, i32_w]
                                  rfl
                                refine pure_ (i := 7) (N := some 90) (v := ?_) (a' := ?_) #[tT, tT, tT, tT, fF, tT, tT, tT, fF, fF, fF, fF, fF, fF, fF, fF, fF] rfl rfl (any_of HT_.out (by kernel_rfl)) (fun _ _ _ h => h) (Or.inl ⟨by rfl, ?_⟩) ?_ ?_
                                rotate_left
                                · intro w'
                                  go_simp
                                  with_reducible rfl
                                rotate_left
                                · simp only [Act.put, sA, s0, s1, i64_w, i32_w]
                                  rfl
                                refine pure_ (i := 8) (N := some 91) (v := ?_) (a' := ?_) #[tT, tT, tT, tT, fF, tT, tT, tT, tT, fF, fF, fF, fF, fF, fF, fF, fF] rfl rfl (any_of HT_.out (by kernel_rfl)) (fun _ _ _ h => h) (Or.inl ⟨by rfl, ?_⟩) ?_ ?_
                                rotate_left
                                · intro w'
                                  go_simp
                                  with_reducible rfl
                                rotate_left
                                · simp only [Act.put, sA, s0, s1, i64_w, i32_w]
                                  rfl
                                refine pure_ (i := 10) (N := some 93) (v := ?_) (a' := ?_) #[tT, tT, tT, tT, fF, tT, tT, tT, tT, fF, tT, fF, fF, fF, fF, fF, fF] rfl rfl (any_of HT_.out (by kernel_rfl)) (fun _ _ _ h => h) (Or.inl ⟨by rfl, ?_⟩) ?_ ?_
                                rotate_left
                                · intro w'
                                  go_simp
                                  with_reducible rfl
                                rotate_left
                                · simp only [Act.put, sA, s0, s1, i64_w, i32_w]
                                  rfl
                                refine pure_ (i := 11) (N := some 94) (v := ?_) (a' := ?_) #[tT, tT, tT, tT, fF, tT, tT, tT, tT, fF, tT, tT, fF, fF, fF, fF, fF] rfl rfl (any_of HT_.out (by kernel_rfl)) (fun _ _ _ h => h) (Or.inl ⟨by rfl, ?_⟩) ?_ ?_
                                rotate_left
                                · intro w'
                                  go_simp
                                  with_reducible rfl
                                rotate_left
                                · simp only [Act.put, sA, s0, s1, i64_w, i32_w]
                                  rfl
                                refine pure_ (i := 12) (N := some 95) (v := ?_) (a' := ?_) #[tT, tT, tT, tT, fF, tT, tT, tT, tT, fF, tT, tT, tT, fF, fF, fF, fF] rfl rfl (any_of HT_.out (by kernel_rfl)) (fun _ _ _ h => h) (Or.inl ⟨by rfl, ?_⟩) ?_ ?_
                                rotate_left
                                · intro w'
                                  go_simp
                                  with_reducible rfl
                                rotate_left
                                · simp only [Act.put, sA, s0, s1, i64_w, i32_w]
                                  rfl
                                refine pure_ (i := 13) (N := some 96) (v := ?_) (a' := ?_) #[tT, tT, tT, tT, fF, tT, tT, tT, tT, fF, tT, tT, tT, tT, fF, fF, fF] rfl rfl (any_of HT_.out (by kernel_rfl)) (fun _ _ _ h => h) (Or.inl ⟨by rfl, ?_⟩) ?_ ?_
                                rotate_left
                                · intro w'
                                  go_simp
                                  with_reducible rfl
                                rotate_left
                                · simp only [Act.put, sA, s0, s1, i64_w, i32_w]
                                  rfl
                                refine take_ (i := 4) (N := some 87) (v := ?_) (a' := ?_) #[tT, tT, tT, tT, tT, tT, tT, tT, tT, fF, tT, tT, tT, tT, fF, fF, fF] rfl rfl (take_ofW HT_.out HW_.out (by kernel_rfl)) (fun _ _ _ h => h) (Or.inl ⟨by rfl, ?_⟩) hHeld ?_ ?_
                                rotate_left
                                · rintro w' ⟨s0, s1, s2, s3, s4, s5⟩
                                  go_simp
                                  with_reducible rfl
                                rotate_left
                                · simp only [Act.put, sA, s0, s1, i64_w, i32_w]
                                  rfl
                                refine take_ (i := 9) (N := some 92) (v := ?_) (a' := ?_) #[tT, tT, tT, tT, tT, tT, tT, tT, tT, tT, tT, tT, tT, tT, fF, fF, fF] rfl rfl (take_ofW HT_.out HW_.out (by kernel_rfl)) (fun _ _ _ h => h) (Or.inl ⟨by rfl, ?_⟩) hHeld ?_ ?_
                                rotate_left
                                · rintro w' ⟨s0, s1, s2, s3, s4, s5⟩
                                  go_simp
                                  with_reducible rfl
                                rotate_left
                                · simp only [Act.put, sA, s0, s1, i64_w, i32_w]
                                  rfl
                                refine take_ (i := 14) (N := some 97) (v := ?_) (a' := ?_) #[tT, tT, tT, tT, tT, tT, tT, tT, tT, tT, tT, tT, tT, tT, tT, fF, fF] rfl rfl (take_ofW HT_.out HW_.out (by kernel_rfl)) (fun _ _ _ h => h) (Or.inl ⟨by rfl, ?_⟩) hHeld ?_ ?_
                                rotate_left
                                · rintro w' ⟨s0, s1, s2, s3, s4, s5⟩
                                  go_simp
                                  with_reducible rfl
                                rotate_left
                                · simp only [Act.put, sA, s0, s1, i64_w, i32_w]
                                  rfl
                                refine one_ (i := 15) (N := some 98) #[tT, tT, tT, tT, tT, tT, tT, tT, tT, tT, tT, tT, tT, tT, tT, tT, fF] rfl rfl (one_of HT_.out (by kernel_rfl)) (by decide) (fun K hK => ?_)
                                refine goes_ Try.func17 (by kernel_rfl) rfl #[.int .u64 ((rd_T25 l0 x13_3).f0), .int .u64 ((rd_T25 l0 x13_3).f1), .int .u64 ((rd_T25 l0 x12_2).f0)] (by rfl) rfl rfl (by (try simp only [List.map_toArray, List.map_cons, List.map_nil]); first | done | rfl | (simp only [List.length_drop, List.length_take]; rfl)) ?_
                                with_reducible refine (bezantref01_Below.calls ((rd_T25 l0 x13_3).f0) ((rd_T25 l0 x13_3).f1) ((rd_T25 l0 x12_2).f0) t161 _ A38.out).mono ?_
                                rintro e w' ⟨rfl, ⟨nd, rfl⟩⟩
                                refine ⟨_, rfl, ?_⟩
                                refine hK.out _ _ ⟨((HB.out.cell (World.block_lt_of_cell? w _ hw158_0)).trans hw158_0), ((HB.out.cell (World.block_lt_of_cell? w _ hw158_1)).trans hw158_1), ((HB.out.cell (World.block_lt_of_cell? w _ hw159_0)).trans hw159_0), ((HB.out.cell (World.block_lt_of_cell? w _ hw159_1)).trans hw159_1), ((HB.out.cell (World.block_lt_of_cell? w _ hw160_0)).trans hw160_0), ((HB.out.cell (World.block_lt_of_cell? w _ hw160_1)).trans hw160_1)⟩ (fun hHeld => ?_)
                                clear hK K
                                refine norm_ (a' := ?_) ?_ ?_
                                rotate_left
                                · show Act.put _ (some 98) _ = _
                                  simp only [Act.put, sA, s0, s1, i64_w, i32_w]
                                  rfl
                                refine pure_ (i := 16) (N := some 15) (v := ?_) (a' := ?_) #[tT, tT, tT, tT, tT, tT, tT, tT, tT, tT, tT, tT, tT, tT, tT, tT, tT] rfl rfl (any_of HT_.out (by kernel_rfl)) (fun _ _ _ h => h) (Or.inl ⟨by rfl, ?_⟩) ?_ ?_
                                rotate_left
                                · intro w'
                                  go_simp
                                  with_reducible rfl
                                rotate_left
                                · simp only [Act.put, sA, s0, s1, i64_w, i32_w]
                                  rfl
                                refine done_ (done_of HT_.out (by kernel_rfl)) ?_
                                try go_wp2
                                go_roundg k3
                                case measure => have := HJ4.out; have := HK2.out; have := HK3.out; omega
                                case rel => exact ⟨(x8_3), (x9_3), (x10_3), (false), (wrap64 (x13_3 + 1)), (by first | rfl | (simp; done) | (simp [*]; done)), (by first | rfl | (simp; done) | (simp [*]; done)), (by first | rfl | (simp; done) | (simp [*]; done)), (by first | rfl | (simp; done) | (simp [*]; done)), (by first | rfl | (simp; done) | (simp [*]; done)), H', ⟨by have := HJ4.out; have := HK2.out; have := HK3.out; omega⟩, ⟨by (with_reducible repeat (first | refine blk_drewN ?_ _ | refine blk_drew ?_ | refine blk_alloc ?_ _)); exact BK136.out⟩, ⟨by (with_reducible repeat (first | refine blk_drewN ?_ _ | refine blk_drew ?_ | refine blk_alloc ?_ _)); exact BK137.out⟩, ⟨by repeat (first | (with_reducible first | exact HB.out | apply below_alloc | apply pw_below_drewN | apply below_drew1 | refine below_set ?_ GE136.out | refine below_set ?_ GE137.out) | exact HB.out)⟩⟩
                          · rw [if_neg c22] at H
                            exact absurd H (by simp)
                        · rw [if_neg c21] at H
                          exact absurd H (by simp)
                      · rw [if_neg c20] at H
                        exact absurd H (by simp)
                    · rw [if_neg c19] at H
                      exact absurd H (by simp)
                  · rw [if_neg c18] at H
                    have c18b0 : decide (x13_3 < x12_2) = false := decide_eq_false c18
                    clear c18
                    have H' := Aside0.mk H
                    clear H
                    go_wp2
                    go_roundg k3
                    case measure => have := HJ4.out; have := HK2.out; have := HK3.out; omega
                    case rel => exact ⟨(x8_3), (x9_3), (x10_3), (x11_3), (wrap64 (x12_2 + 1)), (by first | rfl | (simp; done) | (simp [*]; done)), (by first | rfl | (simp; done) | (simp [*]; done)), (by first | rfl | (simp; done) | (simp [*]; done)), (by first | rfl | (simp; done) | (simp [*]; done)), (by first | rfl | (simp; done) | (simp [*]; done)), H', ⟨by have := HJ4.out; have := HK2.out; have := HK3.out; omega⟩, ⟨by (with_reducible repeat (first | refine blk_drewN ?_ _ | refine blk_drew ?_ | refine blk_alloc ?_ _)); exact BK136.out⟩, ⟨by (with_reducible repeat (first | refine blk_drewN ?_ _ | refine blk_drew ?_ | refine blk_alloc ?_ _)); exact BK137.out⟩, ⟨by repeat (first | (with_reducible first | exact HB.out | apply below_alloc | apply pw_below_drewN | apply below_drew1 | refine below_set ?_ GE136.out | refine below_set ?_ GE137.out) | exact HB.out)⟩⟩
            · rw [if_neg c17] at H
              have c17b0 : decide (x12_2 < (l0.length : Int)) = false := decide_eq_false c17
              clear c17
              replace H := Option.bind_eq_some_iff.mp H
              obtain ⟨⟨t141, t142, t143⟩, A440, H⟩ := H
              (try dsimp only at H)
              have A44 := Aside0.mk A440
              clear A440
              by_cases c45 : t138 = true
              · subst c45
                rw [if_pos rfl] at H
                by_cases c46 : t141 = x8_2
                · rw [if_pos c46] at H
                  have c46b0 : (t141 == x8_2) = true := beq_iff_eq.mpr c46
                  have c46b1 : (t141 != x8_2) = false := bne_eq_false_iff_eq.mpr c46
                  clear c46
                  by_cases c47 : t142 = x9_2
                  · rw [if_pos c47] at H
                    have c47b0 : (t142 == x9_2) = true := beq_iff_eq.mpr c47
                    have c47b1 : (t142 != x9_2) = false := bne_eq_false_iff_eq.mpr c47
                    clear c47
                    by_cases c48 : (t143 == x10_2) = true
                    · rw [if_pos c48] at H
                      have c48b0 : (t143 == x10_2) = true := c48
                      (try (have c48b1 : decide (t143 = x10_2) = true := by simpa using c48))
                      (try (have c48b2 : (t143 == x10_2) = true := by simpa using c48))
                      clear c48
                      replace H := Option.bind_eq_some_iff.mp H
                      obtain ⟨t144, A490, H⟩ := H
                      (try dsimp only at H)
                      have A49 := Aside0.mk A490
                      clear A490
                      obtain rfl := Option.some.inj H
                      go_wp2_with (first | ((with_reducible refine gate_callee (f := 18) rfl ?_); refine goesL_ (some 105) rfl rfl Try.func18 (by kernel_rfl) rfl #[.slice A0 l0.length c0] rfl (by (try simp only [List.map_toArray, List.map_cons, List.map_nil]); first | done | rfl | (simp only [List.length_drop, List.length_take]; rfl)) ?_; (with_reducible refine (span_Clash.calls k2 _ _ l0 t141 t142 t143 _ ?side1 ?side2 A44.out).mono ?_); (case side1 => repeat (first | exact (Kd.C_below HR0.out HB.out) | (with_reducible refine Kd.C_alloc ?_ _) | (with_reducible refine Kd.C_drewN ?_ _) | (with_reducible refine Kd.C_drew ?_))); (case side2 => exact HC0.out); rintro e w50 ⟨rfl, hb⟩; refine ⟨_, rfl, ?_⟩; have n0_ := Aside0.mk (blk_below (g := gb136) (o := .cells #[.int .u64 a1_0, .int .u64 a1_1] 25 (0, 0)) (by (with_reducible repeat (first | refine blk_drewN ?_ _ | refine blk_drew ?_ | refine blk_alloc ?_ _)); exact BK136.out) hb); have n1_ := Aside0.mk (blk_below (g := gb137) (o := .cells #[.int .u64 a2_0, .int .u64 a2_1] 25 (0, 0)) (by (with_reducible repeat (first | refine blk_drewN ?_ _ | refine blk_drew ?_ | refine blk_alloc ?_ _)); exact BK137.out) hb); have n2_ := Aside0.mk (below_step (by repeat (first | (with_reducible first | exact HB.out | apply below_alloc | apply pw_below_drewN | apply below_drew1 | refine below_set ?_ GE136.out | refine below_set ?_ GE137.out) | exact HB.out)) hb); clear BK136; clear BK137; clear HB; have BK136 := n0_; have BK137 := n1_; have HB := n2_; clear n0_ n1_ n2_; (try clear hb); (try clear hb2); (try clear hk); (try clear hi)) | (go_at_call 19; (with_reducible refine (span_Rising.calls k2 _ _ l0 t144 _ ?side1 ?side2 A49.out).mono ?_); (case side1 => repeat (first | exact (Kd.C_below HR0.out HB.out) | (with_reducible refine Kd.C_alloc ?_ _) | (with_reducible refine Kd.C_drewN ?_ _) | (with_reducible refine Kd.C_drew ?_))); (case side2 => exact HC0.out); rintro e w51 ⟨rfl, hb⟩; have n0_ := Aside0.mk (blk_below (g := gb136) (o := .cells #[.int .u64 a1_0, .int .u64 a1_1] 25 (0, 0)) (by (with_reducible repeat (first | refine blk_drewN ?_ _ | refine blk_drew ?_ | refine blk_alloc ?_ _)); exact BK136.out) hb); have n1_ := Aside0.mk (blk_below (g := gb137) (o := .cells #[.int .u64 a2_0, .int .u64 a2_1] 25 (0, 0)) (by (with_reducible repeat (first | refine blk_drewN ?_ _ | refine blk_drew ?_ | refine blk_alloc ?_ _)); exact BK137.out) hb); have n2_ := Aside0.mk (below_step (by repeat (first | (with_reducible first | exact HB.out | apply below_alloc | apply pw_below_drewN | apply below_drew1 | refine below_set ?_ GE136.out | refine below_set ?_ GE137.out) | exact HB.out)) hb); clear BK136; clear BK137; clear HB; have BK136 := n0_; have BK137 := n1_; have HB := n2_; clear n0_ n1_ n2_; (try clear hb); (try clear hb2); (try clear hk); (try clear hi)))
                      go_ret
                      exact ⟨by first | rfl | (simp [errW_none, errW_some] <;> rfl) | (simp [*, errW_none, errW_some] <;> rfl), by repeat (first | (with_reducible first | exact HB.out | apply below_alloc | apply pw_below_drewN | apply below_drew1 | refine below_set ?_ GE136.out | refine below_set ?_ GE137.out) | exact HB.out)⟩
                    · rw [if_neg c48] at H
                      exact absurd H (by simp)
                  · rw [if_neg c47] at H
                    exact absurd H (by simp)
                · rw [if_neg c46] at H
                  exact absurd H (by simp)
              · replace c45 := Bool.eq_false_iff.mpr c45
                subst c45
                rw [if_neg (show ¬ (false = true) by decide)] at H
                exact absurd H (by simp)

end Go.Proofs.Yteohkpfacjjaeaa.MSpan

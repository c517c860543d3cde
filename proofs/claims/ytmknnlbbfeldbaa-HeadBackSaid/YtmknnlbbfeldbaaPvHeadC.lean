/- What the document's answers for headers yield. No statement of the set is proved in this text. -/
import Derived.Test.YtmknnlbbfeldbaaPvHeadB
namespace Go.Proofs.Ytmknnlbbfeldbaa.PvW
open Go.RowKit Go.Proofs.Ytmknnlbbfeldbaa.Cd Go.Proofs.Ytmknnlbbfeldbaa.AbP Go.Proofs.Ytmknnlbbfeldbaa.Num Go.Proofs.Ytmknnlbbfeldbaa.Pv
set_option maxRecDepth 100000
set_option maxHeartbeats 4000000
set_option linter.unusedVariables false
set_option linter.unusedSimpArgs false
variable {K : PV → List OB → Prop}
theorem rhrow_spec {w b : Bool} (hk : K (.osl 0 13) [.arr (.int .i64) (headW w)]) : PCalls Try.prog 45 [.agg [.bool w, .bool b]] [] K := by
  refine told_callP bezantref04_headRow.told fun Z hZ => ?_
  unfold bezantref04_headRow.c
  refine Wn1 trivial trivial @word4_spec ?_
  apply x_arr 1 (.int .i64); (repeat any_goals first | exact mp_z | apply mp_s | exact rs_z | apply rs_t | apply rs_n | apply rs_c); (repeat any_goals first | (apply Lk.i; (simp only [↓LL, ↓reduceIte, Nat.reduceEqDiff]; (try rfl); done)) | (apply Rf.i; first | rfl | assumption) | (apply Vl.i; ((try simp (disch := omega) only [VV, ↓reduceIte, peqI, encP]); (try rfl); done)) | (apply Am.i; assumption) | (apply Pu.i; ((try simp only [↓reduceIte, UU, RR, Nat.reduceAdd, Nat.reduceEqDiff, cellsP, putP, fillQ, flatQ, shP, sh1, encP]); (try rfl); done)) | (apply Om.i; ((try simp only [MM]); (try omega); done)) | (apply Vw.i; first | exact As.sl _ _ | exact As.nil _ | exact As.arr _ _ _ _ rfl (by ((try simp only [MM]); (try omega); done)) | exact As.row _ _ _ _ _ rfl rfl | exact Src.str _ | exact Src.as (As.sl _ _) | exact Src.as (As.nil _) | exact Src.as (As.arr _ _ _ _ rfl (by ((try simp only [MM]); (try omega); done))) | exact Src.as (As.row _ _ _ _ _ rfl rfl))); (all_goals fail_if_success apply Mk.i)
  refine W1 trivial trivial trivial ?_
  exact hk
section
variable {o a ty ma en po so fl pn sn st : Int}
theorem headP_ok {w : Bool} (hG : HeadN o a ty ma en po so fl pn sn st) : rowOk (headP w ty ma en po so fl pn sn st) = headOk w en po so := by
  obtain ⟨⟨g0, h0⟩, ⟨g1, h1⟩, ⟨g2, h2⟩, ⟨g3, h3⟩, ⟨g4, h4⟩, ⟨g5, h5⟩, ⟨g6, h6⟩, ⟨g7, h7⟩, ⟨g8, h8⟩, ⟨g9, h9⟩, ⟨g10, h10⟩⟩ := hG
  have p2 : (256 : Int) ^ 2 = 65536 := by decide
  have p4 : (256 : Int) ^ 4 = 4294967296 := by decide
  have t2 : ∀ x : Int, x ≤ 65535 → fitsB x 2 = true := fun x h => fitsn (m := 2) rfl rfl (by omega)
  have t4 : ∀ x : Int, x ≤ 4294967295 → fitsB x 4 = true := fun x h => fitsn (m := 4) rfl rfl (by omega)
  have q1 := t2 (hsz w) (by cases w <;> decide)
  have q2 := t2 (if decide (0 < pn) = true then hpr w else 0) (by split <;> cases w <;> decide)
  have q3 := t2 (if decide (0 < so) = true then hsc w else 0) (by split <;> cases w <;> decide)
  simp only [headP, headOk, rowOk_app]
  simp only [rowOk, prs, List.map_cons, List.map_nil, List.all_cons, List.all_nil, t2 _ h2, t2 _ h3, t2 _ h8, t2 _ h9, t2 _ h10, t4 _ h7, t4 1 (by decide), q1, q2, q3, Bool.and_true, Bool.true_and, Bool.and_assoc]
theorem rhput_spec {w big : Bool} (hG : Am (HeadN o a ty ma en po so fl pn sn st))
    (hk1 : headOk w en po so = true → K (.tup [.osl 0 (headB w big o a ty ma en po so fl pn sn st).length, .bool true]) [.arr (.int .u8) (headB w big o a ty ma en po so fl pn sn st)])
    (hk2 : headOk w en po so = false → K (.tup [.nilS, .bool false]) []) :
    PCalls Try.prog 20 [.agg [.bool w, .bool big, .int .u8 o, .int .u8 a, .int .u16 ty, .int .u16 ma, .int .u64 en, .int .u64 po, .int .u64 so, .int .u32 fl, .int .u16 pn, .int .u16 sn, .int .u16 st]] [] K := by
  have hok := headP_ok (w := w) hG.o
  have hG := hG.o
  obtain ⟨⟨g0, h0⟩, ⟨g1, h1⟩, ⟨g2, h2⟩, ⟨g3, h3⟩, ⟨g4, h4⟩, ⟨g5, h5⟩, ⟨g6, h6⟩, ⟨g7, h7⟩, ⟨g8, h8⟩, ⟨g9, h9⟩, ⟨g10, h10⟩⟩ := id hG
  refine told_callP bezantref04_PutHead.told fun Z hZ => ?_
  unfold bezantref04_PutHead.c
  have hpz : 0 ≤ hpr w ∧ hpr w ≤ 56 := by cases w <;> decide
  have hsz0 : 0 ≤ hsc w ∧ hsc w ≤ 64 := by cases w <;> decide
  have hsz1 : 0 ≤ hsz w ∧ hsz w ≤ 64 := by cases w <;> decide
  have hle := rowB_le big (headP w ty ma en po so fl pn sn st)
  have hpl : (headP w ty ma en po so fl pn sn st).length = 13 := by simp [headP, prs]
  have hidl : (idB w big o a).length = 16 := rfl
  have key : ∀ x y : Int, x = (if decide (0 < pn) = true then hpr w else 0) → y = (if decide (0 < so) = true then hsc w else 0) → ([ty, ma, 1, en, po, so, fl, hsz w, x, pn, y, sn, st].zip (headW w)) = headP w ty ma en po so fl pn sn st := by
    rintro x y rfl rfl
    rfl
  have hU : ∀ x y : Int, 0 ≤ x ∧ x ≤ 64 → 0 ≤ y ∧ y ≤ 64 → ∀ z ∈ [ty, ma, 1, en, po, so, fl, hsz w, x, pn, y, sn, st], U64 z := by
    intro x y hx hy
    simp only [List.forall_mem_cons, U64]
    exact ⟨⟨by omega, by omega⟩, ⟨by omega, by omega⟩, ⟨by omega, by omega⟩, ⟨by omega, by omega⟩, ⟨by omega, by omega⟩, ⟨by omega, by omega⟩, ⟨by omega, by omega⟩, ⟨by omega, by omega⟩, ⟨by omega, by omega⟩, ⟨by omega, by omega⟩, ⟨by omega, by omega⟩, ⟨by omega, by omega⟩, ⟨by omega, by omega⟩, fun _ h => by cases h⟩
  by_cases c1 : pn = 0
  · by_cases c2 : so = 0
    · skip
      refine W1 trivial @DD (And.intro @sizes_spec @rhrow_spec) ?_
      refine row_spec (l := [ty, ma, 1, en, po, so, fl, hsz w, 0, pn, 0, sn, st]) (ns := headW w) ⟨hU _ _ ⟨by omega, by omega⟩ ⟨by omega, by omega⟩⟩ ⟨headW_wide w⟩ ⟨Nat.le_refl 13⟩ ⟨show 13 ≤ 1000 by decide⟩ ?_
      rw [key _ _ (by rw [c1]; rfl) (by rw [c2]; rfl), hok]
      cases hh : headOk w en po so
      · refine W1 trivial @DD (And.intro @riput_spec (@oArr 4 (.int .u8))) ?_
        exact hk2 hh
      · refine W1 trivial @DD @riput_spec ?_
        have hk := hk1 hh
        rw [List.length_append] at hk
        exact hk
    · skip
      refine W1 trivial @DD (And.intro @sizes_spec @rhrow_spec) ?_
      refine row_spec (l := [ty, ma, 1, en, po, so, fl, hsz w, 0, pn, hsc w, sn, st]) (ns := headW w) ⟨hU _ _ ⟨by omega, by omega⟩ ⟨by omega, by omega⟩⟩ ⟨headW_wide w⟩ ⟨Nat.le_refl 13⟩ ⟨show 13 ≤ 1000 by decide⟩ ?_
      rw [key _ _ (by rw [c1]; rfl) (by rw [if_pos (by simp; omega)]), hok]
      cases hh : headOk w en po so
      · refine W1 trivial @DD (And.intro @riput_spec (@oArr 4 (.int .u8))) ?_
        exact hk2 hh
      · refine W1 trivial @DD @riput_spec ?_
        have hk := hk1 hh
        rw [List.length_append] at hk
        exact hk
  · by_cases c2 : so = 0
    · skip
      refine W1 trivial @DD (And.intro @sizes_spec @rhrow_spec) ?_
      refine row_spec (l := [ty, ma, 1, en, po, so, fl, hsz w, hpr w, pn, 0, sn, st]) (ns := headW w) ⟨hU _ _ ⟨by omega, by omega⟩ ⟨by omega, by omega⟩⟩ ⟨headW_wide w⟩ ⟨Nat.le_refl 13⟩ ⟨show 13 ≤ 1000 by decide⟩ ?_
      rw [key _ _ (by rw [if_pos (by simp; omega)]) (by rw [c2]; rfl), hok]
      cases hh : headOk w en po so
      · refine W1 trivial @DD (And.intro @riput_spec (@oArr 4 (.int .u8))) ?_
        exact hk2 hh
      · refine W1 trivial @DD @riput_spec ?_
        have hk := hk1 hh
        rw [List.length_append] at hk
        exact hk
    · skip
      refine W1 trivial @DD (And.intro @sizes_spec @rhrow_spec) ?_
      refine row_spec (l := [ty, ma, 1, en, po, so, fl, hsz w, hpr w, pn, hsc w, sn, st]) (ns := headW w) ⟨hU _ _ ⟨by omega, by omega⟩ ⟨by omega, by omega⟩⟩ ⟨headW_wide w⟩ ⟨Nat.le_refl 13⟩ ⟨show 13 ≤ 1000 by decide⟩ ?_
      rw [key _ _ (by rw [if_pos (by simp; omega)]) (by rw [if_pos (by simp; omega)]), hok]
      cases hh : headOk w en po so
      · refine W1 trivial @DD (And.intro @riput_spec (@oArr 4 (.int .u8))) ?_
        exact hk2 hh
      · refine W1 trivial @DD @riput_spec ?_
        have hk := hk1 hh
        rw [List.length_append] at hk
        exact hk
end
end Go.Proofs.Ytmknnlbbfeldbaa.PvW

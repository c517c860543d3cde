/- Plain lemmas: headers that are put and got, and cut off. No statement of the set is proved in this text. -/
import Derived.Test.YtmknnlbbfeldbaaPvHeadC
namespace Go.Proofs.Ytmknnlbbfeldbaa.PvW
open Go.RowKit Go.Proofs.Ytmknnlbbfeldbaa.Cd Go.Proofs.Ytmknnlbbfeldbaa.AbP Go.Proofs.Ytmknnlbbfeldbaa.Num Go.Proofs.Ytmknnlbbfeldbaa.Pv
set_option maxRecDepth 100000
set_option maxHeartbeats 4000000
set_option linter.unusedVariables false
set_option linter.unusedSimpArgs false
variable {K : PV → List OB → Prop}
theorem idBad_app (w big : Bool) (o a : Int) (X : List Int) : idBad (idB w big o a ++ X) = none := by
  have h : idScan (idB w big o a ++ X) 0 7 = none := by
    cases w <;> cases big <;> simp [idScan, idW]
  unfold idBad
  rw [h]
  simp
theorem idBad_take (w big : Bool) (o a : Int) (X : List Int) {k : Nat} (hk : k < 16) : idBad ((idB w big o a ++ X).take k) = some ((k : Int), 2) := by
  have hc : k = 0 ∨ k = 1 ∨ k = 2 ∨ k = 3 ∨ k = 4 ∨ k = 5 ∨ k = 6 ∨ k = 7 ∨ k = 8 ∨ k = 9 ∨ k = 10 ∨ k = 11 ∨ k = 12 ∨ k = 13 ∨ k = 14 ∨ k = 15 := by omega
  rcases hc with rfl | rfl | rfl | rfl | rfl | rfl | rfl | rfl | rfl | rfl | rfl | rfl | rfl | rfl | rfl | rfl <;> cases w <;> cases big <;> simp [idBad, idScan, idW]
section
variable {o a ty ma en po so fl pn sn st : Int}
theorem hrow_len {w big : Bool} : (rowB big (headP w ty ma en po so fl pn sn st)).length + 16 = (hsz w).toNat := by
  have hl : ∀ (v : Int) (n : Int), wideB n = true → (putSpec v n big).length = n.toNat := fun v n h => by rw [putSpec_len, if_pos h]
  cases w
  · simp only [rowB, headP, prs, wd, List.map_cons, List.map_nil, List.cons_append, List.nil_append, ↓reduceIte, Bool.false_eq_true, List.flatMap_cons, List.flatMap_nil, List.length_append, hl _ 2 rfl, hl _ 4 rfl, List.length_nil]
    rfl
  · simp only [rowB, headP, prs, wd, List.map_cons, List.map_nil, List.cons_append, List.nil_append, ↓reduceIte, List.flatMap_cons, List.flatMap_nil, List.length_append, hl _ 2 rfl, hl _ 4 rfl, hl _ 8 rfl, List.length_nil]
    rfl
theorem headB_len {w big : Bool} : ((headB w big o a ty ma en po so fl pn sn st).length : Int) = hsz w := by
  have h := hrow_len (w := w) (big := big) (ty := ty) (ma := ma) (en := en) (po := po) (so := so) (fl := fl) (pn := pn) (sn := sn) (st := st)
  have e : (headB w big o a ty ma en po so fl pn sn st).length = 16 + (rowB big (headP w ty ma en po so fl pn sn st)).length := by rw [List.length_append]; rfl
  have h2 : 52 ≤ hsz w := by cases w <;> decide
  omega
theorem headP_snd (w : Bool) : (headP w ty ma en po so fl pn sn st).map (·.2) = headW w := rfl
theorem headP_fst (w : Bool) : (headP w ty ma en po so fl pn sn st).map (·.1) = [ty, ma, 1, en, po, so, fl, hsz w, if decide (0 < pn) = true then hpr w else 0, pn, if decide (0 < so) = true then hsc w else 0, sn, st] := rfl
/-- what was put is got -/
theorem head_gets {w big : Bool} (hG : HeadN o a ty ma en po so fl pn sn st) (hok : headOk w en po so = true) (X : List Int) :
    gets (headB w big o a ty ma en po so fl pn sn st ++ X) big 16 (headW w) = [ty, ma, 1, en, po, so, fl, hsz w, if decide (0 < pn) = true then hpr w else 0, pn, if decide (0 < so) = true then hsc w else 0, sn, st] := by
  obtain ⟨g0, g1, g2, g3, g4, g5, g6, g7, g8, g9, g10⟩ := id hG
  unfold U64 at g4 g5 g6
  have h := gets_put (big := big) (headP w ty ma en po so fl pn sn st) (idB w big o a) X (by rw [headP_ok hG]; exact hok) (by
    have hq : ∀ x ∈ (headP w ty ma en po so fl pn sn st).map (·.1), 0 ≤ x := by
      rw [headP_fst]
      simp only [List.forall_mem_cons]
      refine ⟨g2.1, g3.1, by decide, g4.1, g5.1, g6.1, g7.1, by cases w <;> decide, by split <;> cases w <;> decide, g8.1, by split <;> cases w <;> decide, g9.1, g10.1, fun _ h => by cases h⟩
    intro q hq'
    exact hq _ (List.mem_map_of_mem hq'))
  rw [headP_snd, headP_fst] at h
  rw [← h]
  show gets ((idB w big o a ++ _) ++ X) big 16 _ = _
  rw [List.append_assoc]
  rfl
theorem head_4 {w big : Bool} (X : List Int) : decide ((headB w big o a ty ma en po so fl pn sn st ++ X).getD 4 0 = 2) = w := by
  show decide ((if w = true then (2 : Int) else 1) = 2) = w
  cases w <;> rfl
theorem head_5 {w big : Bool} (X : List Int) : decide ((headB w big o a ty ma en po so fl pn sn st ++ X).getD 5 0 = 2) = big := by
  show decide ((if big = true then (2 : Int) else 1) = 2) = big
  cases big <;> rfl
theorem head_back {w big : Bool} (hG : HeadN o a ty ma en po so fl pn sn st) (hok : headOk w en po so = true) (X : List Int) : headBad (headB w big o a ty ma en po so fl pn sn st ++ X) = none := by
  have hl := headB_len (w := w) (big := big) (o := o) (a := a) (ty := ty) (ma := ma) (en := en) (po := po) (so := so) (fl := fl) (pn := pn) (sn := sn) (st := st)
  have h1 : idBad (headB w big o a ty ma en po so fl pn sn st ++ X) = none := by
    show idBad ((idB w big o a ++ _) ++ X) = none
    rw [List.append_assoc]
    exact idBad_app _ _ _ _ _
  unfold headBad
  rw [h1]
  simp only
  rw [head_4, head_5, head_gets hG hok, if_neg (by rw [List.length_append]; omega)]
  unfold numBad
  rw [if_neg (by simp), if_neg (by simp), if_neg (by rintro ⟨c1, c2⟩; exact c2 (by show (if decide (0 < pn) = true then hpr w else 0) = _; have : 0 < pn := c1; simp [this])), if_neg (by rintro ⟨c1, c2⟩; exact c2 (by show (if decide (0 < so) = true then hsc w else 0) = _; have : 0 < so := c1; simp [this]))]
theorem head_cut {w big : Bool} {k : Nat} (hk : k < (headB w big o a ty ma en po so fl pn sn st).length) : headBad ((headB w big o a ty ma en po so fl pn sn st).take k) = some ((k : Int), 2) := by
  have hl := headB_len (w := w) (big := big) (o := o) (a := a) (ty := ty) (ma := ma) (en := en) (po := po) (so := so) (fl := fl) (pn := pn) (sn := sn) (st := st)
  by_cases h16 : k < 16
  · unfold headBad
    rw [show idBad ((headB w big o a ty ma en po so fl pn sn st).take k) = some ((k : Int), 2) from idBad_take w big o a _ h16]
  · obtain ⟨j, rfl⟩ : ∃ j, k = 16 + j := ⟨k - 16, by omega⟩
    have e : (headB w big o a ty ma en po so fl pn sn st).take (16 + j) = idB w big o a ++ (rowB big (headP w ty ma en po so fl pn sn st)).take j := by
      show (idB w big o a ++ _).take (16 + j) = _
      rw [List.take_append]
      rw [show 16 + j - (idB w big o a).length = j from by show 16 + j - 16 = j; omega, List.take_of_length_le (by show 16 ≤ 16 + j; omega)]
    have h4 : decide (((headB w big o a ty ma en po so fl pn sn st).take (16 + j)).getD 4 0 = 2) = w := by
      rw [e]
      show decide ((if w = true then (2 : Int) else 1) = 2) = w
      cases w <;> rfl
    unfold headBad
    rw [show idBad ((headB w big o a ty ma en po so fl pn sn st).take (16 + j)) = none from by rw [e]; exact idBad_app _ _ _ _ _]
    simp only
    rw [h4, if_pos (by rw [List.length_take]; omega), List.length_take, Nat.min_eq_left (by omega)]
theorem headB_B {w big : Bool} (hG : HeadN o a ty ma en po so fl pn sn st) : B (headB w big o a ty ma en po so fl pn sn st) := by
  obtain ⟨g0, g1, -⟩ := hG
  refine B_append ?_ (rowB_B _ _)
  have : ∀ x ∈ idB w big o a, 0 ≤ x ∧ x ≤ 255 := by
    simp only [List.forall_mem_cons]
    refine ⟨by decide, by decide, by decide, by decide, by split <;> decide, by split <;> decide, by decide, g0, g1, by decide, by decide, by decide, by decide, by decide, by decide, by decide, fun _ h => by cases h⟩
  exact this
theorem headOk_wide (hG : HeadN o a ty ma en po so fl pn sn st) : headOk true en po so = true := by
  have h8 : (256 : Int) ^ 8 = 18446744073709551616 := by decide
  have f : ∀ x, U64 x → fitsB x 8 = true := fun x hx => fitsn (m := 8) rfl rfl (by unfold U64 at hx; omega)
  show (fitsB en 8 && fitsB po 8 && fitsB so 8) = true
  rw [f _ hG.en, f _ hG.po, f _ hG.so]
  rfl
end
end Go.Proofs.Ytmknnlbbfeldbaa.PvW

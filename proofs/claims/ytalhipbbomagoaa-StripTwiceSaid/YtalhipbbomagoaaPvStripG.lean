/- What is left of a model that may be, may be; stripped again it is the same: plain laws. No statement of the set is proved in this text. -/
import Derived.Test.YtalhipbbomagoaaPvStripF
namespace Go.Proofs.Ytalhipbbomagoaa.PvW
open Go.RowKit Go.Proofs.Ytalhipbbomagoaa.Cd Go.Proofs.Ytalhipbbomagoaa.AbP Go.Proofs.Ytalhipbbomagoaa.Num Go.Proofs.Ytalhipbbomagoaa.Pv
set_option maxRecDepth 100000
set_option maxHeartbeats 4000000
set_option linter.unusedVariables false
set_option linter.unusedSimpArgs false
theorem ix_drop : ∀ (l : List Int) (a : Nat), B l → 0 ≤ ixB (l.drop a) → 0 ≤ ixB l
  | l, 0, _, h => h
  | [], a + 1, _, h => by
    rw [List.drop_nil] at h
    exact h
  | x :: l, a + 1, hB, h => by
    have ih := ix_drop l a (fun y hy => hB y (List.mem_cons_of_mem _ hy)) (by simpa using h)
    rw [ixB_cons (hB x (by simp))]
    split
    · exact Int.le_refl 0
    · rw [if_neg (by omega)]
      omega
theorem okName0 {own : List Int} {nm : Int} (hB : B own) (h : okName own nm = true) : okName own 0 = true := by
  unfold okName at *
  simp only [Bool.and_eq_true, decide_eq_true_eq] at *
  have h1 := ixB_lt own
  have h2 := ix_drop own nm.toNat hB h.2
  refine ⟨by omega, ?_⟩
  show 0 ≤ ixB (own.drop 0)
  exact h2
theorem zero_N : SecN zeroSec.1 zeroSec.2.1 zeroSec.2.2.1 zeroSec.2.2.2.1 zeroSec.2.2.2.2.1 zeroSec.2.2.2.2.2.1 zeroSec.2.2.2.2.2.2.2.1 zeroSec.2.2.2.2.2.2.2.2.1 zeroSec.2.2.2.2.2.2.2.2.2.1.1 zeroSec.2.2.2.2.2.2.2.2.2.1.2.1 zeroSec.2.2.2.2.2.2.2.2.2.1.2.2.1 zeroSec.2.2.2.2.2.2.2.2.2.1.2.2.2.1 :=
  ⟨by decide, by decide, by decide, by decide, by decide, by decide, by decide, by decide, by decide, by decide, Nat.zero_le _, fun x hx => by cases hx⟩
theorem strip_N {secs : List dSec.T} {st : Int} (hN : SecsN secs) : SecsN (stripL secs st 0 secs) := fun s hs => by
  rcases strip_mem hs with rfl | hs
  · exact zero_N
  · exact hN s hs
theorem goes_stay {secs : List dSec.T} {st : Int} {i : Nat} {x : dSec.T} (h : stayB st i x.2.2.1 = true) : goesB secs st i x = false := by
  have e : secE secs st i x = false := by
    show (!stayB st i x.2.2.1 && _) = false
    rw [h]; rfl
  unfold goesB
  rw [e, h]; rfl
section
variable {w : Bool} {en st : Int} {segs : List dSeg.T} {secs : List dSec.T}
theorem strip_at {i : Nat} {x : dSec.T} (hx : secs[i]? = some x) : (stripL secs st 0 secs)[i]? = some (if goesB secs st i x = true then zeroSec else x) := by
  rw [strip_get secs st secs 0 i x hx, Nat.zero_add]
theorem strip_str (h1 : 1 ≤ st) (h2 : st ≤ secs.length) : (stripL secs st 0 secs)[(st - 1).toNat]? = secs[(st - 1).toNat]? := by
  obtain ⟨y, hy⟩ : ∃ y, secs[(st - 1).toNat]? = some y := ⟨secs[(st - 1).toNat]'(by omega), List.getElem?_eq_getElem (by omega)⟩
  have hg : goesB secs st (st - 1).toNat y = false := goes_stay (by
    unfold stayB
    rw [decide_eq_true (show ((st - 1).toNat : Int) + 1 = st by omega), Bool.or_true])
  rw [strip_at hy, hg, hy]
  rfl
theorem nameS_strip (nm : Int) : nameS (stripL secs st 0 secs) st nm = nameS secs st nm := by
  unfold nameS
  rw [strip_len]
  by_cases h : st < 1 ∨ (secs.length : Int) < st
  · rw [if_pos h, if_pos h]
  · rw [if_neg h, if_neg h, strip_str (by omega) (by omega)]
theorem secE_strip (i : Nat) (x : dSec.T) : secE (stripL secs st 0 secs) st i x = secE secs st i x := by
  unfold secE earlyB
  rw [nameS_strip]
theorem secE_kept {i : Nat} {x : dSec.T} (h : goesB secs st i x = false) : secE (stripL secs st 0 secs) st i x = false := by
  rw [secE_strip]
  unfold goesB at h
  rw [Bool.or_eq_false_iff] at h
  exact h.1
theorem syms_none {S : List dSec.T} {i : Int} : ∀ (l : List dSec.T) (k : Nat), (∀ (j : Nat) (x : dSec.T), l[j]? = some x → x = zeroSec ∨ secE S st (k + j) x = false) → symsB S st i k l = false
  | [], k, _ => rfl
  | x :: l, k, h => by
    have ih := syms_none (S := S) (i := i) l (k + 1) (fun j y hy => by
      have := h (j + 1) y (by simpa using hy)
      rw [show k + 1 + j = k + (j + 1) by omega]
      exact this)
    show ((decide (@Eq Int x.2.2.2.2.2.1 (i + 1)) && (secE S st k x && decide (@Eq Int x.2.1 2))) || symsB S st i (k + 1) l) = false
    rw [ih, Bool.or_false]
    rcases h 0 x rfl with rfl | h0
    · have e : decide (@Eq Int zeroSec.2.1 2) = false := rfl
      rw [e, Bool.and_false, Bool.and_false]
    · rw [Nat.add_zero] at h0
      rw [h0, Bool.false_and, Bool.and_false]
theorem strip_each {i : Nat} {x' : dSec.T} (h : (stripL secs st 0 secs)[i]? = some x') : x' = zeroSec ∨ (secs[i]? = some x' ∧ goesB secs st i x' = false) := by
  have hi := (List.getElem?_eq_some_iff.1 h).1
  rw [strip_len] at hi
  obtain ⟨x, hx⟩ : ∃ x, secs[i]? = some x := ⟨secs[i], List.getElem?_eq_getElem hi⟩
  rw [strip_at hx] at h
  have h := Option.some.inj h
  cases hg : goesB secs st i x with
  | true =>
    rw [hg, if_pos rfl] at h
    exact .inl h.symm
  | false =>
    rw [hg, if_neg (by decide)] at h
    rw [← h]
    exact .inr ⟨hx, hg⟩
theorem goes_strip {i : Nat} {x' : dSec.T} (h : (stripL secs st 0 secs)[i]? = some x') (hg : goesB (stripL secs st 0 secs) st i x' = true) : x' = zeroSec := by
  rcases strip_each h with h1 | ⟨h1, h2⟩
  · exact h1
  · exfalso
    have e1 := secE_kept h2
    have e2 : symsB (stripL secs st 0 secs) st i 0 (stripL secs st 0 secs) = false := syms_none _ 0 (fun j y hy => by
      rw [Nat.zero_add]
      rcases strip_each hy with h3 | ⟨h3, h4⟩
      · exact .inl h3
      · exact .inr (secE_kept h4))
    unfold goesB at hg
    rw [e1, e2, Bool.false_and, Bool.and_false, Bool.or_false] at hg
    cases hg
theorem strip_fix {S : List dSec.T} : ∀ (l : List dSec.T) (i : Nat), (∀ (j : Nat) (x : dSec.T), l[j]? = some x → goesB S st (i + j) x = true → x = zeroSec) → stripL S st i l = l
  | [], i, _ => rfl
  | x :: l, i, h => by
    have ih := strip_fix (S := S) l (i + 1) (fun j y hy hg => h (j + 1) y (by simpa using hy) (by rw [show i + (j + 1) = i + 1 + j by omega]; exact hg))
    show (if goesB S st i x = true then zeroSec else x) :: stripL S st (i + 1) l = x :: l
    rw [ih]
    split
    · rename_i hg
      rw [h 0 x rfl hg]
    · rfl
/-- stripped again it is the same -/
theorem strip_again : stripL (stripL secs st 0 secs) st 0 (stripL secs st 0 secs) = stripL secs st 0 secs :=
  strip_fix _ 0 (fun j x hx hg => by rw [Nat.zero_add] at hg; exact goes_strip hx hg)
theorem wrong_of (ok : ModelOk w en segs secs st) : wrongC w en segs secs st = 0 := by
  obtain ⟨l16, l64, fits, seg, ris, sec, nam⟩ := ok
  unfold wrongC
  rw [if_neg (by omega), if_neg (by rw [fits]; decide), first_ok segs seg, if_neg (fun h => h rfl), if_neg (fun h => h ris), first_ok secs sec, if_neg (fun h => h rfl), nam]
/-- what is left may be -/
theorem strip_ok (ok : ModelOk w en segs secs st) (hN : SecsN secs) : ModelOk w en segs (stripL secs st 0 secs) st := by
  obtain ⟨l16, l64, fits, seg, ris, sec, nam⟩ := ok
  refine ⟨l16, by rw [strip_len]; exact l64, ?_, seg, ris, fun s hs => ?_, ?_⟩
  · unfold fitsM at *
    simp only [Bool.and_eq_true] at *
    refine ⟨fits.1, List.all_eq_true.2 fun s hs => ?_⟩
    rcases strip_mem hs with rfl | hs
    · cases w <;> rfl
    · exact List.all_eq_true.1 fits.2 s hs
  · rw [strip_len]
    rcases strip_mem hs with rfl | hs
    · show secC segs secs.length 0 0 0 (-1) 0 0 [] = 0
      unfold secC placeOk
      rw [if_pos rfl, if_neg (by simp), if_neg (by omega)]
    · exact sec s hs
  · unfold namesC at *
    rw [strip_len]
    by_cases h1 : st < 0 ∨ (secs.length : Int) < st
    · rw [if_pos h1] at nam
      cases nam
    rw [if_neg h1] at nam ⊢
    by_cases h2 : st = 0
    · rw [if_pos h2] at nam ⊢
      have hall : (secs.all fun s => decide (@Eq Int s.1 0)) = true := by
        cases h : (secs.all fun s => decide (@Eq Int s.1 0)) with
        | true => rfl
        | false => rw [h] at nam; cases nam
      refine if_pos (List.all_eq_true.2 fun s hs => ?_)
      rcases strip_mem hs with rfl | hs
      · rfl
      · exact List.all_eq_true.1 hall s hs
    · rw [if_neg h2] at nam ⊢
      rw [strip_str (by omega) (by omega)]
      obtain ⟨y, hy⟩ : ∃ y, secs[(st - 1).toNat]? = some y := ⟨secs[(st - 1).toNat]'(by omega), List.getElem?_eq_getElem (by omega)⟩
      rw [hy] at nam ⊢
      have hym := List.mem_of_getElem? hy
      have nam : (if ¬ @Eq Int y.2.1 3 ∨ ¬ @Eq Int y.2.2.2.2.2.2.2.2.2.1.1 (-1) then (9 : Int) else if (secs.all fun x => okName y.2.2.2.2.2.2.2.2.2.1.2.2.2.1 x.1) = true then 0 else 9) = 0 := nam
      show (if ¬ @Eq Int y.2.1 3 ∨ ¬ @Eq Int y.2.2.2.2.2.2.2.2.2.1.1 (-1) then (9 : Int) else if ((stripL secs st 0 secs).all fun x => okName y.2.2.2.2.2.2.2.2.2.1.2.2.2.1 x.1) = true then 0 else 9) = 0
      by_cases h3 : ¬ @Eq Int y.2.1 3 ∨ ¬ @Eq Int y.2.2.2.2.2.2.2.2.2.1.1 (-1)
      · rw [if_pos h3] at nam
        cases nam
      rw [if_neg h3] at nam ⊢
      have hall : (secs.all fun x => okName y.2.2.2.2.2.2.2.2.2.1.2.2.2.1 x.1) = true := by
        cases h : (secs.all fun x => okName y.2.2.2.2.2.2.2.2.2.1.2.2.2.1 x.1) with
        | true => rfl
        | false => rw [h] at nam; cases nam
      refine if_pos (List.all_eq_true.2 fun s hs => ?_)
      rcases strip_mem hs with rfl | hs
      · exact okName0 (hN y hym).bo (List.all_eq_true.1 hall y hym)
      · exact List.all_eq_true.1 hall s hs
end
end Go.Proofs.Ytalhipbbomagoaa.PvW

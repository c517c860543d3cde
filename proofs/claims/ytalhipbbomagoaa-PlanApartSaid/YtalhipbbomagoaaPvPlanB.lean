/- What plan.Of yields. No statement of the set is proved in this text. -/
import Derived.Test.YtalhipbbomagoaaPvPlan
import Derived.Test.YtalhipbbomagoaaPvSize
namespace Go.Proofs.Ytalhipbbomagoaa.PvW
open Go.RowKit Go.Proofs.Ytalhipbbomagoaa.Cd Go.Proofs.Ytalhipbbomagoaa.AbP Go.Proofs.Ytalhipbbomagoaa.Num Go.Proofs.Ytalhipbbomagoaa.Pv
set_option maxRecDepth 100000
set_option maxHeartbeats 4000000
set_option linter.unusedVariables false
set_option linter.unusedSimpArgs false
abbrev psz (w : Bool) : Int := if w = true then 56 else 32
abbrev ssz (w : Bool) : Int := if w = true then 64 else 40
/-- loaded segments are laid -/
def st1 (r : List Int × PS) (s : dSeg.T) : List Int × PS := if @Eq Int s.1 1 then (r.1 ++ [layR r.2 s.2.2.1 s.2.2.2.2.2.1], layS r.2 s.2.2.2.2.2.2.1.2.2.1 s.2.2.1 s.2.2.2.2.2.1) else (r.1 ++ [0], r.2)
/-- all other segments are laid -/
def st2 (A : List Int) (r : List Int × PS) (s : dSeg.T) : List Int × PS :=
  if ¬ @Eq Int s.2.2.2.2.2.2.1.1 (-1) then (r.1 ++ [(A.getD (@Int.toNat s.2.2.2.2.2.2.1.1) 0 + s.2.2.2.2.2.2.1.2.1) % 18446744073709551616], r.2)
  else if ¬ @Eq Int s.1 1 then (r.1 ++ [layR r.2 0 8], layS r.2 s.2.2.2.2.2.2.1.2.2.1 0 8) else (r.1 ++ [A.getD r.1.length 0], r.2)
/-- sections are laid -/
def st3 (A : List Int) (r : List Int × PS) (s : dSec.T) : List Int × PS :=
  if ¬ @Eq Int s.2.2.2.2.2.2.2.2.2.1.1 (-1) then (r.1 ++ [(A.getD (@Int.toNat s.2.2.2.2.2.2.2.2.2.1.1) 0 + s.2.2.2.2.2.2.2.2.2.1.2.1) % 18446744073709551616], r.2)
  else (r.1 ++ [layR r.2 0 8], layS r.2 s.2.2.2.2.2.2.2.2.2.1.2.2.1 0 8)
theorem st1_len (r : List Int × PS) (s : dSeg.T) : (st1 r s).1.length = r.1.length + 1 := by unfold st1; split <;> simp
theorem st2_len (A : List Int) (r : List Int × PS) (s : dSeg.T) : (st2 A r s).1.length = r.1.length + 1 := by unfold st2; split; simp; split <;> simp
theorem st3_len (A : List Int) (r : List Int × PS) (s : dSec.T) : (st3 A r s).1.length = r.1.length + 1 := by unfold st3; split <;> simp
theorem fold_len {α : Type} {f : List Int × PS → α → List Int × PS} (hf : ∀ r s, (f r s).1.length = r.1.length + 1) : ∀ (l : List α) (r : List Int × PS), (l.foldl f r).1.length = r.1.length + l.length
  | [], r => rfl
  | x :: l, r => by rw [List.foldl_cons, fold_len hf l, hf, List.length_cons]; omega
theorem fold_snoc {α β : Type} {f : β → α → β} {l : List α} {i : Nat} {x : α} (hx : l[i]? = some x) (r : β) : (l.take (i + 1)).foldl f r = f ((l.take i).foldl f r) x := by
  rw [List.take_add_one, hx, List.foldl_append]; rfl
theorem set_mid {α : Type} {a r : List α} {v x : α} {i : Nat} (h : a.length = i) : (a ++ x :: r).set i v = (a ++ [v]) ++ r := by
  subst h
  rw [List.set_append_right _ _ (Nat.le_refl _), Nat.sub_self, List.set_cons_zero, List.append_assoc]; rfl
theorem set_zero {a : List Int} {v : Int} {i n : Nat} (h : a.length = i) (hi : i < n) : (a ++ List.replicate (n - i) 0).set i v = (a ++ [v]) ++ List.replicate (n - (i + 1)) 0 := by
  rw [show n - i = (n - (i + 1)) + 1 by omega, List.replicate_succ, set_mid h]
theorem drop_getD {a : List Int} {i : Nat} (h : i < a.length) : a.drop i = a.getD i 0 :: a.drop (i + 1) := by
  rw [List.getD_eq_getElem?_getD, List.getElem?_eq_getElem h]
  exact List.drop_eq_getElem_cons h
theorem set_drop {b a : List Int} {v : Int} {i : Nat} (h : b.length = i) (hi : i < a.length) : (b ++ a.drop i).set i v = (b ++ [v]) ++ a.drop (i + 1) := by
  rw [drop_getD hi, set_mid h]
theorem keep_drop {b a : List Int} {i : Nat} (hi : i < a.length) : b ++ a.drop i = (b ++ [a.getD i 0]) ++ a.drop (i + 1) := by
  rw [drop_getD hi, List.append_assoc]; rfl
theorem getD_mix {b a : List Int} {i j : Nat} (hb : b.length = i) (hj : j < i → b.getD j 0 = a.getD j 0) : (b ++ a.drop i).getD j 0 = a.getD j 0 := by
  by_cases h : j < i
  · rw [← hj h, List.getD_eq_getElem?_getD, List.getElem?_append_left (by omega), ← List.getD_eq_getElem?_getD]
  · rw [List.getD_eq_getElem?_getD, List.getElem?_append_right (by omega), hb, List.getElem?_drop, show i + (j - i) = j by omega, ← List.getD_eq_getElem?_getD]
structure PlanV where
  ph : Int
  sh : Int
  sz : Int
  S : List Int
  T : List Int
  ov : Bool
def pla0 (w : Bool) (segs : List dSeg.T) : PS := if segs.length = 0 then (hsz w, false) else layS (hsz w, false) (segs.length * psz w) 0 1
def plaA (w : Bool) (segs : List dSeg.T) : List Int × PS := segs.foldl st1 ([], pla0 w segs)
def plaB (w : Bool) (segs : List dSeg.T) : List Int × PS := segs.foldl (st2 (plaA w segs).1) ([], (plaA w segs).2)
def plaC (w : Bool) (segs : List dSeg.T) (secs : List dSec.T) : List Int × PS := secs.foldl (st3 (plaB w segs).1) ([], (plaB w segs).2)
def plaE (w : Bool) (segs : List dSeg.T) (secs : List dSec.T) : PS := if secs.length = 0 then (plaC w segs secs).2 else layS (plaC w segs secs).2 ((secs.length + 1) * ssz w) 0 8
/-- the plan, in plain words -/
def planV (w : Bool) (segs : List dSeg.T) (secs : List dSec.T) : PlanV :=
  ⟨if segs.length = 0 then 0 else layR (hsz w, false) 0 1, if secs.length = 0 then 0 else layR (plaC w segs secs).2 0 8, (plaE w segs secs).1, (plaB w segs).1, (plaC w segs secs).1, (plaE w segs secs).2⟩
abbrev pvPlan0 : PV := .agg [.int .u64 0, .int .u64 0, .int .u64 0, .nilS, .nilS]
abbrev pvPlan (x : PlanV) : PV := .agg [.int .u64 x.ph, .int .u64 x.sh, .int .u64 x.sz, .sl (.int .u64) x.S, .sl (.int .u64) x.T]
theorem layS_z (p : PS) (n v al : Int) : layS p n v al = ((layS p n v al).1, (layS p n v al).2) := rfl
/-- what the second pass leaves of the first -/
theorem b_keeps {A : List Int} {segs : List dSeg.T} {p : PS} {j : Nat} {s : dSeg.T} (hs : segs[j]? = some s) (h1 : @Eq Int s.1 1) (h2 : @Eq Int s.2.2.2.2.2.2.1.1 (-1)) : ∀ i, j < i → i ≤ segs.length → ((segs.take i).foldl (st2 A) ([], p)).1.getD j 0 = A.getD j 0
  | 0, h, _ => by omega
  | i + 1, h, hi => by
    obtain ⟨x, hx⟩ : ∃ x, segs[i]? = some x := ⟨segs[i], List.getElem?_eq_getElem (by omega)⟩
    rw [fold_snoc hx]
    have hl : ((segs.take i).foldl (st2 A) ([], p)).1.length = i := by rw [fold_len (st2_len A), List.length_take]; simp; omega
    generalize hr : (segs.take i).foldl (st2 A) ([], p) = r at *
    by_cases hj : j < i
    · have ih := b_keeps (A := A) (p := p) hs h1 h2 i hj (by omega)
      rw [hr] at ih
      have e : ∀ y, (r.1 ++ [y]).getD j 0 = r.1.getD j 0 := fun y => by
        rw [List.getD_eq_getElem?_getD, List.getElem?_append_left (by omega), ← List.getD_eq_getElem?_getD]
      rw [← ih]
      unfold st2
      split
      · exact e _
      · split
        · exact e _
        · exact e _
    · obtain rfl : j = i := by omega
      rw [hs] at hx
      obtain rfl := Option.some.inj hx
      unfold st2
      rw [if_neg (fun h => h h2), if_neg (fun h => h h1)]
      show (r.1 ++ [A.getD r.1.length 0]).getD j 0 = _
      rw [List.getD_eq_getElem?_getD, List.getElem?_append_right (by omega), hl, Nat.sub_self]
      rfl
end Go.Proofs.Ytalhipbbomagoaa.PvW

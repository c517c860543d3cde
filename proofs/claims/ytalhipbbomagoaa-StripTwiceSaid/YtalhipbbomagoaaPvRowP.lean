/- Plain lemmas on rows of numbers as bytes. No statement of the set is proved in this text. -/
import Derived.Test.YtalhipbbomagoaaPvWireI
namespace Go.Proofs.Ytalhipbbomagoaa.PvW
open Go.RowKit Go.Proofs.Ytalhipbbomagoaa.AbP Go.Proofs.Ytalhipbbomagoaa.Num Go.Proofs.Ytalhipbbomagoaa.Pv
set_option maxRecDepth 100000
set_option maxHeartbeats 4000000
set_option linter.unusedVariables false
set_option linter.unusedSimpArgs false
def rowB (big : Bool) (p : List (Int × Int)) : List Int := p.flatMap fun q => putSpec q.1 q.2 big
def rowOk (p : List (Int × Int)) : Bool := p.all fun q => fitsB q.1 q.2
theorem rowB_le (big : Bool) : ∀ p : List (Int × Int), (rowB big p).length ≤ 8 * p.length
  | [] => by simp [rowB]
  | q :: p => by
    have := rowB_le big p
    have h := putSpec_le q.1 q.2 big
    show (putSpec q.1 q.2 big ++ rowB big p).length ≤ _
    rw [List.length_append, List.length_cons]
    omega
theorem rowB_B (big : Bool) (p : List (Int × Int)) : B (rowB big p) := by
  intro x hx
  obtain ⟨q, _, hq⟩ := List.mem_flatMap.1 hx
  exact putSpec_B _ _ _ x hq
theorem getD_mem {l : List Int} {i : Nat} (h : i < l.length) : l.getD i 0 ∈ l := by
  rw [List.getD_eq_getElem?_getD, List.getElem?_eq_getElem h]
  exact List.getElem_mem h
theorem zip_take {l ns : List Int} {i : Nat} (h : i < l.length) (h2 : i < ns.length) : (l.zip ns).take (i + 1) = (l.zip ns).take i ++ [(l.getD i 0, ns.getD i 0)] := by
  rw [List.take_add_one]
  congr 1
  have : (l.zip ns)[i]? = some (l.getD i 0, ns.getD i 0) := by
    rw [List.getElem?_zip_eq_some]
    rw [List.getD_eq_getElem?_getD, List.getD_eq_getElem?_getD, List.getElem?_eq_getElem h, List.getElem?_eq_getElem h2]
    exact ⟨rfl, rfl⟩
  rw [this]
  rfl
/-- the numbers of bytes, from a place on -/
def numsAt (b : List Int) (big : Bool) : Int → List Int → List Int → List Int × Bool
  | _, acc, [] => (acc, true)
  | a, acc, n :: ns => if (getSpec b a n big).2 = true then numsAt b big (a + n) (acc ++ [(getSpec b a n big).1]) ns else ([], false)
theorem getSpec_true {b : List Int} {a n : Int} {big : Bool} (h : (getSpec b a n big).2 = true) : wideB n = true ∧ a + n ≤ b.length := by
  unfold getSpec at h
  by_cases c : wideB n = true ∧ a + n ≤ b.length
  · exact c
  · rw [if_neg c] at h
    exact absurd h (by simp)
/-- the numbers of bytes, wherever they are whole -/
def gets (b : List Int) (big : Bool) : Int → List Int → List Int
  | _, [] => []
  | a, n :: ns => (getSpec b a n big).1 :: gets b big (a + n) ns
def sumL : List Int → Int
  | [] => 0
  | n :: ns => n + sumL ns
theorem sumL_ge : ∀ {ns : List Int}, (∀ n ∈ ns, wideB n = true) → 0 ≤ sumL ns
  | [], _ => Int.le_refl _
  | n :: ns, h => by
    have := sumL_ge (ns := ns) (fun x hx => h x (by simp [hx]))
    obtain ⟨m, rfl, h1, _⟩ := wide_nat (h n (by simp))
    show 0 ≤ (m : Int) + sumL ns
    omega
theorem getSpec_ok {b : List Int} {a n : Int} {big : Bool} (hw : wideB n = true) : (getSpec b a n big).2 = decide (a + n ≤ b.length) := by
  unfold getSpec
  by_cases c : a + n ≤ b.length
  · rw [if_pos ⟨hw, c⟩]; simp [c]
  · rw [if_neg (fun h => c h.2)]; simp [c]
theorem numsAt_ok {b : List Int} {big : Bool} : ∀ {ns : List Int} {a : Int} {acc : List Int}, (∀ n ∈ ns, wideB n = true) → a + sumL ns ≤ b.length → numsAt b big a acc ns = (acc ++ gets b big a ns, true)
  | [], a, acc, _, _ => by simp [numsAt, gets]
  | n :: ns, a, acc, hw, h => by
    have hge := sumL_ge (ns := ns) (fun x hx => hw x (by simp [hx]))
    have h' : a + (n + sumL ns) ≤ b.length := h
    unfold numsAt
    rw [getSpec_ok (hw n (by simp)), if_pos (by simp; omega), numsAt_ok (fun x hx => hw x (by simp [hx])) (by omega)]
    simp [gets]
theorem numsAt_no {b : List Int} {big : Bool} : ∀ {ns : List Int} {a : Int} {acc : List Int}, (∀ n ∈ ns, wideB n = true) → ns ≠ [] → ¬ a + sumL ns ≤ b.length → numsAt b big a acc ns = ([], false)
  | [], a, acc, _, h0, _ => absurd rfl h0
  | [n], a, acc, hw, h0, h => by
    have h' : ¬ a + (n + 0) ≤ b.length := h
    unfold numsAt
    rw [getSpec_ok (hw n (by simp)), if_neg (by simp; omega)]
  | n :: m :: ns, a, acc, hw, h0, h => by
    have h' : ¬ a + (n + sumL (m :: ns)) ≤ b.length := h
    unfold numsAt
    rw [getSpec_ok (hw n (by simp))]
    by_cases c : a + n ≤ b.length
    · rw [if_pos (by simp [c])]
      exact numsAt_no (fun x hx => hw x (List.mem_cons_of_mem _ hx)) (by simp) (by omega)
    · rw [if_neg (by simp [c])]
def wd (w : Bool) : Int := if w = true then 8 else 4
theorem wd_wide (w : Bool) : wideB (wd w) = true := by cases w <;> rfl
theorem wd_le (w : Bool) : wd w ≤ 8 ∧ 4 ≤ wd w := by cases w <;> decide
def prs (n : Int) (l : List Int) : List (Int × Int) := l.map fun v => (v, n)
theorem prs_take {n : Int} {l : List Int} {i : Nat} (h : i < l.length) : prs n (l.take (i + 1)) = prs n (l.take i) ++ [(l.getD i 0, n)] := by
  rw [take_snoc h]
  simp [prs]
theorem rowB_app (big : Bool) (p q : List (Int × Int)) : rowB big (p ++ q) = rowB big p ++ rowB big q := by simp [rowB]
theorem rowOk_app (p q : List (Int × Int)) : rowOk (p ++ q) = (rowOk p && rowOk q) := by simp [rowOk]
end Go.Proofs.Ytalhipbbomagoaa.PvW

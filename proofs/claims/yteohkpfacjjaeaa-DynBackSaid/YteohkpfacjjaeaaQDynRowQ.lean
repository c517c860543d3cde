/- Plain lemmas on what the document's answers for rows of numbers tell (bezantref04.Row, Numbers). -/
import Derived.Test.YteohkpfacjjaeaaRDynx5
import Derived.Test.YteohkpfacjjaeaaRDynx7
import Derived.Test.YteohkpfacjjaeaaQDynWireQ
namespace Go.Proofs.Yteohkpfacjjaeaa.QDynRow
open Go.RowKit Go.Proofs.YteohkpfacjjaeaaW.PrintWords Go.Proofs.YteohkpfacjjaeaaW.PrintLast Go.Proofs.YteohkpfacjjaeaaW.PrintMore Go.Proofs.Yteohkpfacjjaeaa.QDyn Go.Proofs.Yteohkpfacjjaeaa.Num Go.Proofs.Yteohkpfacjjaeaa.QDynWire
set_option linter.unusedVariables false
set_option linter.unusedSimpArgs false
def rowB (l ns : List Int) (big : Bool) (i : Nat) : List Int := (List.range i).flatMap fun (j : Nat) => putSpec (rd l (j : Int)) (rd ns (j : Int)) big
def rowOk (l ns : List Int) (i : Nat) : Bool := (List.range i).all fun (j : Nat) => fitsB (rd l (j : Int)) (rd ns (j : Int))
theorem putSpec_length (v n : Int) (big : Bool) : (putSpec v n big).length ≤ 8 := by
  unfold putSpec
  by_cases h : wideB n = true
  · rw [if_pos h, enc_length]
    rcases wide_cases h with rfl | rfl | rfl | rfl <;> decide
  · rw [if_neg h]
    simp
theorem rowB_succ (l ns : List Int) (big : Bool) (i : Nat) : rowB l ns big (i + 1) = rowB l ns big i ++ putSpec (rd l (i : Int)) (rd ns (i : Int)) big := by
  unfold rowB
  rw [List.range_succ, List.flatMap_append]
  simp
theorem rowOk_succ (l ns : List Int) (i : Nat) : rowOk l ns (i + 1) = (rowOk l ns i && fitsB (rd l (i : Int)) (rd ns (i : Int))) := by
  unfold rowOk
  rw [List.range_succ, List.all_append]
  simp
theorem rowB_length (l ns : List Int) (big : Bool) (i : Nat) : (rowB l ns big i).length ≤ i * 8 := by
  induction i with
  | zero => simp [rowB]
  | succ i ih =>
    rw [rowB_succ, List.length_append]
    have := putSpec_length (rd l (i : Int)) (rd ns (i : Int)) big
    omega
theorem rd_at {l : List Int} {i : Nat} (h : i < l.length) : rd l (i : Int) = l[i] := by
  show l.getD i 0 = _
  simp [List.getD, h]
theorem row_l0 {l ns : List Int} (hl : ∀ x ∈ l, U64 x) (hlen : l.length ≤ ns.length) (hn : l.length ≤ 1000) (hns : ∀ n ∈ ns, n ≤ 9223372036854775807) (big : Bool) (d : Nat) : ∀ i, i ≤ l.length → l.length - i = d →
    Ev (fun k => bezantref04_Row.l0 k l ns big (rowB l ns big i) (rowOk l ns i) (i : Int)) (rowB l ns big l.length, rowOk l ns l.length) := by
  induction d with
  | zero =>
    intro i h0 h1
    obtain rfl : i = l.length := by omega
    refine Ev.step (f := fun _ => some (rowB l ns big l.length, rowOk l ns l.length)) (fun k => ?_) (Ev.now _)
    rw [bezantref04_Row.l0, if_neg (by omega)]
  | succ d ih =>
    intro i h0 h1
    have hi : i < l.length := by omega
    have hU : U64 (rd l (i : Int)) := by rw [rd_at hi]; exact hl _ (List.getElem_mem hi)
    have hN : rd ns (i : Int) ≤ 9223372036854775807 := by rw [rd_at (show i < ns.length by omega)]; exact hns _ (List.getElem_mem _)
    refine Ev.step (f := fun k => (bezantref01_Fits.f k (rd l (i : Int)) (rd ns (i : Int))).bind fun t => (bezantref01_Put.f k (rd l (i : Int)) (rd ns (i : Int)) big).bind fun t2 => if (rowB l ns big i).length + t2.length < 140737488355328 then bezantref04_Row.l0 k l ns big (rowB l ns big i ++ t2) (rowOk l ns i && t) (wrap64 ((i : Int) + 1)) else none) (fun k => ?_) ?_
    · rw [bezantref04_Row.l0, if_pos (by omega), if_pos (by omega), if_pos (by omega)]
      cases rowOk l ns i
      · simp
      · simp
    · refine Ev.bind (fitsR_ev hU _ hN) ?_
      refine Ev.bind (putR_ev hU _ big) ?_
      have h8 := putSpec_length (rd l (i : Int)) (rd ns (i : Int)) big
      have h9 := rowB_length l ns big i
      have e : (rowB l ns big i).length + (putSpec (rd l (i : Int)) (rd ns (i : Int)) big).length < 140737488355328 := by omega
      simp only [if_pos e]
      rw [w64i (by omega), ← rowB_succ, ← rowOk_succ]
      exact ih (i + 1) (by omega) (by omega)
theorem row_ev {l ns : List Int} (hl : ∀ x ∈ l, U64 x) (hlen : l.length ≤ ns.length) (hn : l.length ≤ 1000) (hns : ∀ n ∈ ns, n ≤ 9223372036854775807) (big : Bool) :
    Ev (fun k => bezantref04_Row.f k l ns big) (rowB l ns big l.length, rowOk l ns l.length) := row_l0 hl hlen hn hns big l.length 0 (by omega) (by omega)
/-- the numbers of bytes, from a place on -/
def numsAt (b : List Int) (big : Bool) : Int → List Int → List Int → List Int × Bool
  | _, acc, [] => (acc, true)
  | at_, acc, n :: ns => if (getSpec b at_ n big).2 = true then numsAt b big (at_ + n) (acc ++ [(getSpec b at_ n big).1]) ns else ([], false)
theorem getSpec_true {b : List Int} {at_ n : Int} {big : Bool} (h : (getSpec b at_ n big).2 = true) : wideB n = true ∧ at_ + n ≤ b.length := by
  unfold getSpec at h
  by_cases c : wideB n = true ∧ at_ + n ≤ b.length
  · exact c
  · rw [if_neg c] at h
    exact absurd h (by simp)
theorem numsAt_l0 {b : List Int} (hb : B b) (hm : b.length ≤ 140737488355328) (big : Bool) (ns : List Int) : ∀ (pre : List Int) (at_ : Int) (acc : List Int), U64 at_ → acc.length + ns.length ≤ 1000 → pre.length + ns.length ≤ 1000 →
    Ev (fun k => bezantref04_Numbers.l0 k b at_ (pre ++ ns) big acc (pre.length : Int)) (numsAt b big at_ acc ns) := by
  induction ns with
  | nil =>
    intro pre at_ acc ha h1 h2
    refine Ev.step (f := fun _ => some (numsAt b big at_ acc [])) (fun k => ?_) (Ev.now _)
    rw [bezantref04_Numbers.l0, if_neg (by simp)]
    rfl
  | cons n ns ih =>
    intro pre at_ acc ha h1 h2
    rw [List.length_cons] at h1 h2
    have hr : rd (pre ++ n :: ns) (pre.length : Int) = n := by
      rw [rd_at (by simp)]
      simp
    refine Ev.step (f := fun k => (bezantref01_Get.f k b at_ n big).bind fun t => if t.2 = true then bezantref04_Numbers.l0 k b (IntKind.u64.wrap (at_ + IntKind.u64.wrap n)) (pre ++ n :: ns) big (acc ++ [t.1]) (wrap64 ((pre.length : Int) + 1)) else some ([], false)) (fun k => ?_) ?_
    · rw [bezantref04_Numbers.l0, if_pos (by rw [List.length_append, List.length_cons]; omega), if_pos (by omega), hr]
      cases bezantref01_Get.f k b at_ n big with
      | none => rfl
      | some t =>
        simp only [Option.bind_some]
        rw [if_pos (show acc.length < 17592186044416 by omega)]
    · refine Ev.bind (getR_ev hb (by omega) ha n big) ?_
      unfold numsAt
      by_cases c : (getSpec b at_ n big).2 = true
      · obtain ⟨hw, hle⟩ := getSpec_true c
        have hn : 0 ≤ n ∧ n ≤ 8 := by rcases wide_cases hw with rfl | rfl | rfl | rfl <;> omega
        obtain ⟨a0, a1⟩ := id ha
        simp only [if_pos c]
        rw [uw (x := n) (by omega) (by omega), uw (x := at_ + n) (by omega) (by omega), w64i (by omega)]
        have e : pre ++ n :: ns = (pre ++ [n]) ++ ns := by simp
        have e2 : ((pre.length + 1 : Nat) : Int) = ((pre ++ [n]).length : Int) := by simp
        rw [e, e2]
        exact ih (pre ++ [n]) (at_ + n) _ ⟨by omega, by omega⟩ (by rw [List.length_append, List.length_singleton]; omega) (by rw [List.length_append, List.length_singleton]; omega)
      · simp only [if_neg c]
        exact Ev.now _
theorem numsAt_ev {b : List Int} (hb : B b) (hm : b.length ≤ 140737488355328) (big : Bool) {at_ : Int} (ha : U64 at_) (ns : List Int) (hn : ns.length ≤ 1000) : Ev (fun k => bezantref04_Numbers.f k b at_ ns big) (numsAt b big at_ [] ns) := numsAt_l0 hb hm big ns [] at_ [] ha (by simpa using hn) (by simpa using hn)
end Go.Proofs.Yteohkpfacjjaeaa.QDynRow

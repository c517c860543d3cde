/- Plain facts about a model that may be. No statement of the set is proved in this text. -/
import Derived.Test.YtalhipbbomagoaaPvModelI
namespace Go.Proofs.Ytalhipbbomagoaa.PvW
open Go.RowKit Go.Proofs.Ytalhipbbomagoaa.Cd Go.Proofs.Ytalhipbbomagoaa.AbP Go.Proofs.Ytalhipbbomagoaa.Num Go.Proofs.Ytalhipbbomagoaa.Pv
set_option maxRecDepth 100000
set_option maxHeartbeats 4000000
set_option linter.unusedVariables false
theorem andI_nat {a b : Int} (ha : 0 ≤ a ∧ a < 18446744073709551616) (hb : 0 ≤ b ∧ b < 18446744073709551616) : andI a b = ((a.toNat &&& b.toNat : Nat) : Int) := by
  unfold andI
  rw [BitVec.toNat_and, BitVec.toNat_ofInt, BitVec.toNat_ofInt]
  have e1 : a % ((2 ^ 64 : Nat) : Int) = a := Int.emod_eq_of_lt ha.1 ha.2
  have e2 : b % ((2 ^ 64 : Nat) : Int) = b := Int.emod_eq_of_lt hb.1 hb.2
  rw [e1, e2]
theorem andI_even {al : Int} (h0 : 0 ≤ al ∧ al ≤ 18446744073709551615) (h : andI al ((al - 1) % 18446744073709551616) = 0) : al ≤ 1 ∨ al % 2 = 0 := by
  by_cases h1 : al ≤ 1
  · exact .inl h1
  refine .inr ?_
  rw [Int.emod_eq_of_lt (by omega) (by omega), andI_nat ⟨h0.1, by omega⟩ ⟨by omega, by omega⟩] at h
  have h2 : al.toNat &&& (al - 1).toNat = 0 := by omega
  by_cases h3 : al % 2 = 0
  · exact h3
  have h4 := Nat.and_div_two (a := al.toNat) (b := (al - 1).toNat)
  rw [h2, show al.toNat / 2 = (al - 1).toNat / 2 by omega, Nat.and_self] at h4
  omega
end Go.Proofs.Ytalhipbbomagoaa.PvW

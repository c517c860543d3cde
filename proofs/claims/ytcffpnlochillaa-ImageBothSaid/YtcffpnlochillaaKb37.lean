/- A heap of plain values, walks over it, and functions of the program met by them: no statement of the set is proved in this text. -/
import Derived.Test.YtcffpnlochillaaKb35
import Derived.Test.YtcffpnlochillaaKb36
set_option linter.unusedVariables false
set_option linter.unusedSimpArgs false
set_option maxRecDepth 100000
set_option maxHeartbeats 4000000
section
namespace Go.Proofs.Ytcffpnlochillaa.PvW
open Go.RowKit Go.Proofs.Ytcffpnlochillaa.Cd Go.Proofs.Ytcffpnlochillaa.AbP Go.Proofs.Ytcffpnlochillaa.Num Go.Proofs.Ytcffpnlochillaa.Pv
theorem pow_of:∀ (n:Nat),0 < n→powN n→∃ k,n=2 ^ k
  | n, h0, h => by
    by_cases h1:1 < n∧n % 2=0
    · obtain ⟨k,hk⟩:=pow_of (n / 2) (by omega) ((powN_half h1.1 h1.2).1 h)
      exact ⟨k+1,by rw [Nat.pow_succ,← hk];omega⟩
    · have:=(powN_odd h1).1 h
      exact ⟨0,by rw [Nat.pow_zero];omega⟩
  termination_by n=>n
  decreasing_by omega
theorem andI_mask {x al:Int} (hx:0≤x∧x≤18446744073709551615) (ha:1≤al∧al≤18446744073709551615) (hp:powN al.toNat):andI x (al - 1)=x % al:=by
  obtain ⟨k,hk⟩:=pow_of al.toNat (by omega) hp
  rw [andI_nat ⟨by omega,by omega⟩ ⟨by omega,by omega⟩,show (al - 1).toNat=2 ^ k - 1 by omega,Nat.and_two_pow_sub_one_eq_mod,← hk,Int.natCast_emod,Int.toNat_of_nonneg hx.1,Int.toNat_of_nonneg (by omega)]
theorem pow_dvd {al:Int} (ha:1≤al∧al≤18446744073709551615) (hp:powN al.toNat):al∣18446744073709551616∧al≤9223372036854775808:=by
  obtain ⟨k,hk⟩:=pow_of al.toNat (by omega) hp
  have h64:k < 64:=by
    rcases Nat.lt_or_ge k 64 with h | h
    · exact h
    · have:=Nat.pow_le_pow_right (show 0 < 2 by decide) h
      have e:(2:Nat) ^ 64=18446744073709551616:=by decide
      omega
  have h63:2 ^ k≤2 ^ 63:=Nat.pow_le_pow_right (by decide) (by omega)
  have e:(2:Nat) ^ 63=9223372036854775808:=by decide
  refine ⟨⟨(2:Int) ^ (64 - k),?_⟩,by omega⟩
  have:al=(2:Int) ^ k:=by
    have h:al=(al.toNat:Int):=by omega
    rw [h,hk]
    push_cast
    rfl
  rw [this,← Int.pow_add,show k+(64 - k)=64 by omega]
  rfl

theorem layA_eq {a v al:Int} (ha:0≤a∧a≤65536) (hv:0≤v∧v≤18446744073709551615) (hal:0≤al∧al≤18446744073709551615) (hp:powN al.toNat):layA a v al=if al≤1 then a else a+(v - a) % al:=by
  unfold layA mx1
  have hx0:=Int.emod_nonneg (v - a) (show (18446744073709551616:Int)≠0 by decide)
  have hx1:=Int.emod_lt_of_pos (v - a) (show (0:Int) < 18446744073709551616 by decide)
  by_cases h1:al≤1
  · rw [if_pos h1]
    have e:(if al < 1 then (1:Int) else al) - 1=0:=by split <;> omega
    rw [e,show (0:Int) % 18446744073709551616=0 from rfl,andI_nat ⟨hx0,hx1⟩ ⟨by omega,by omega⟩]
    simp only [Int.toNat_zero,Nat.and_zero]
    omega
  · rw [if_neg h1,if_neg (by omega)]
    obtain ⟨d1,d2⟩:=pow_dvd ⟨by omega,hal.2⟩ hp
    rw [Int.emod_eq_of_lt (show 0≤al - 1 by omega) (by omega),andI_mask ⟨hx0,by omega⟩ ⟨by omega,hal.2⟩ hp,Int.emod_emod_of_dvd _ d1]
    have h0:=Int.emod_nonneg (v - a) (show al≠0 by omega)
    have h2:=Int.emod_lt_of_pos (v - a) (show 0 < al by omega)
    rw [Int.emod_eq_of_lt (by omega) (by omega)]

theorem pow8:powN (8:Int).toNat:=rfl
end Go.Proofs.Ytcffpnlochillaa.PvW
end

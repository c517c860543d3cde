/- What wire.Put and the document's answers for Get, Put and Fits yield. No statement of the set is proved in this text. -/
import Derived.Test.YtalhipbbomagoaaPvWireP
namespace Go.Proofs.Ytalhipbbomagoaa.PvW
open Go.RowKit Go.Proofs.Ytalhipbbomagoaa.Cd Go.Proofs.Ytalhipbbomagoaa.AbP Go.Proofs.Ytalhipbbomagoaa.Num Go.Proofs.Ytalhipbbomagoaa.Pv
set_option maxRecDepth 100000
set_option maxHeartbeats 4000000
set_option linter.unusedVariables false
set_option linter.unusedSimpArgs false
variable {K : PV → List OB → Prop}
theorem rev_spec {l : List Int} {n : Nat} (hn : Om (n = l.length)) (hl : Om (l.length ≤ 1000000000000)) (hk : ∀ r, K r [.arr (.int .u8) l.reverse]) : PCalls Try.prog 102 [.osl 0 n] [.arr (.int .u8) l] K := by
  refine told_call slices_Reverse_byte_byte.told fun Z hZ => ?_
  unfold slices_Reverse_byte_byte.c
  obtain rfl := hn.o
  replace hl := hl.o
  refine W1 trivial trivial trivial ?_
  refine w_lp (fun q e s => ∃ i : Nat, q + i = l.length + 1 ∧ 2 * i ≤ l.length + 1 ∧ s = [.arr (.int .u8) (rvl l i)] ∧ e 0 = .osl 0 l.length ∧ e 2 = .int .i64 i ∧ e 3 = .int .i64 ((l.length : Int) - 1 - i)) (l.length + 1) ?_ ?_
  · exact ⟨0, by omega, by omega, by rw [rvl_zero], by exact lk trivial, by exact lk trivial, by (simp only [↓LL, ↓reduceIte, Nat.reduceEqDiff]; congr 1; omega)⟩
  rintro q e s ⟨i, hi, h2i, rfl, e0, e2, e3⟩
  have hlen := rvl_len l i
  by_cases hq : (i : Int) < (l.length : Int) - 1 - i
  · have hjn : ((l.length : Int) - 1 - i).toNat = l.length - 1 - i := by omega
    refine W1 (And.intro @e0 (And.intro @e2 @e3)) (And.intro @DD @hjn) trivial ?_
    refine ⟨q - 1, by omega, i + 1, by omega, by omega, ?_, by exact lk @e0, by exact lk @e2, by (simp only [↓LL, ↓reduceIte, Nat.reduceEqDiff]; congr 1; omega)⟩
    rw [← rvl_step (by omega)]
  · rw [rvl_end (by omega)] at *
    refine W1 (And.intro @e0 (And.intro @e2 @e3)) @DD trivial ?_
    exact ⟨[], rfl, hk _⟩
theorem put_spec {v n : Int} {big : Bool} (hv : Om (0 ≤ v ∧ v ≤ 18446744073709551615)) (hw : Rf (wideB n = true)) (hk : K (.osl 0 (putSpec v n big).length) [.arr (.int .u8) (putSpec v n big)]) : PCalls Try.prog 63 [.int .u64 v, .int .i64 n, .bool big] [] K := by
  refine told_callP wire_Put.told fun Z hZ => ?_
  unfold wire_Put.c
  replace hv := hv.o
  replace hw := hw.o
  obtain ⟨m, rfl, h1, h2⟩ := wide_nat hw
  have es : putSpec v m big = enc m big v := by unfold putSpec; rw [if_pos hw]; rfl
  rw [es] at hk
  refine W1 @hw trivial @wide_spec ?_
  refine w_lp (fun q e s => ∃ i : Nat, q + i = m ∧ s = [.arr (.int .u8) (fillB m v i)] ∧ e 0 = .int .u64 v ∧ e 2 = .bool big ∧ e 7 = .osl 0 m ∧ e 15 = .int .i64 m ∧ e 16 = .int .i64 i) m ?_ ?_
  · exact ⟨0, rfl, by simp [fillB, le], by exact lk trivial, by exact lk trivial, by exact lk trivial, by (simp only [↓LL, ↓reduceIte, Nat.reduceEqDiff, List.length_replicate]; done), by exact lk trivial⟩
  rintro q e s ⟨i, hi, rfl, e0, e2, e7, e15, e16⟩
  have hfl := fillB_len v (show i ≤ m by omega)
  by_cases hq : i < m
  · have hs := shr_dig hv (show i < 8 by omega) (k := .i64)
    refine W1 (And.intro @e0 (And.intro @e2 (And.intro @e7 (And.intro @e15 @e16)))) (And.intro @DD (And.intro @hs @dig_wrap)) trivial ?_
    refine ⟨q - 1, by omega, i + 1, by omega, ?_, by exact lk @e0, by exact lk @e2, by exact lk @e7, by exact lk @e15, by exact lk @e16⟩
    rw [← fillB_set v hq]
  · obtain rfl : i = m := by omega
    have hf : fillB i v i = le i v := by simp [fillB]
    have hll := le_length i v
    rw [hf] at hfl ⊢
    cases big
    · refine W1 (And.intro @e0 (And.intro @e2 (And.intro @e7 (And.intro @e15 @e16)))) @DD trivial ?_
      have : (enc i false v).length = i := enc_length _ _ _
      rw [this] at hk
      exact hk
    · refine Wv1 (And.intro @e0 (And.intro @e2 (And.intro @e7 (And.intro @e15 @e16)))) @DD trivial ?_
      refine ca_F ⟨rfl⟩ (rev_spec ⟨by omega⟩ ⟨by omega⟩ fun r => ?_)
      refine W1 (And.intro @e0 (And.intro @e2 (And.intro @e7 (And.intro @e15 @e16)))) @DD trivial ?_
      have : (enc i true v).length = i := enc_length _ _ _
      rw [this] at hk
      exact hk
theorem rfits_spec {v n : Int} (hv : Om (0 ≤ v ∧ v ≤ 18446744073709551615)) (hw : Rf (wideB n = true)) (hk : K (.bool (fitsB v n)) []) : PCalls Try.prog 90 [.int .u64 v, .int .i64 n] [] K := by
  refine told_callP bezantref01_Fits.told fun Z hZ => ?_
  unfold bezantref01_Fits.c
  replace hv := hv.o
  replace hw := hw.o
  have hz := hv.1
  obtain ⟨m, rfl, h1, h2⟩ := wide_nat hw
  refine W1 @hw trivial @rwide_spec ?_
  refine w_lp (fun q e s => s = [] ∧ ∃ i : Nat, q + i = m ∧ e 0 = .int .u64 (v / 256 ^ i) ∧ e 1 = .int .i64 m ∧ e 5 = .bool true ∧ e 6 = .int .i64 i) m ?_ ?_
  · exact ⟨rfl, 0, rfl, by (simp only [Int.pow_zero, Int.ediv_one]; exact lk trivial), by exact lk trivial, by exact lk @hw, by exact lk trivial⟩
  rintro q e s ⟨rfl, i, hi, e0, e1, e5, e6⟩
  by_cases hq : i < m
  · have hd : Ab.abin .quo (.int .u64 (v / 256 ^ i)) (.int .u64 256) = some (.int .u64 (v / 256 ^ (i + 1))) := by
      rw [Ab.b_quo _ _ _ (by decide), tdiv_u (u64_div hv i), div_pow]
    refine W1 (And.intro @e0 (And.intro @e1 (And.intro @e5 @e6))) (And.intro @DD @hd) trivial ?_
    exact ⟨q - 1, by omega, rfl, i + 1, by omega, by exact lk @e0, by exact lk @e1, by exact lk @e5, by exact lk @e6⟩
  · obtain rfl : i = m := by omega
    have hf : decide (v / 256 ^ i = 0) = fitsB v i := by
      unfold fitsB
      rw [hw, Bool.true_and, Bool.eq_iff_iff, decide_eq_true_eq, decide_eq_true_eq]
      exact div_zero hz _ (pow_pos i)
    refine W1 (And.intro @e0 (And.intro @e1 (And.intro @e5 @e6))) (And.intro @hf @DD) trivial ?_
    exact hk
theorem rput_spec {v n : Int} {big : Bool} (hv : Om (0 ≤ v ∧ v ≤ 18446744073709551615)) (hw : Rf (wideB n = true)) (hk : K (.osl 0 (putSpec v n big).length) [.arr (.int .u8) (putSpec v n big)]) : PCalls Try.prog 110 [.int .u64 v, .int .i64 n, .bool big] [] K := by
  refine told_callP bezantref01_Put.told fun Z hZ => ?_
  unfold bezantref01_Put.c
  replace hv := hv.o
  replace hw := hw.o
  obtain ⟨m, rfl, h1, h2⟩ := wide_nat hw
  have es : putSpec v m big = enc m big v := by unfold putSpec; rw [if_pos hw]; rfl
  rw [es] at hk
  refine W1 @hw trivial @rwide_spec ?_
  have e0' : enc 0 big v = [] := by cases big <;> rfl
  apply x_virt 8 (.int .u8); (repeat any_goals first | exact mp_z | apply mp_s | exact rs_z | apply rs_t | apply rs_n | apply rs_c); (repeat any_goals first | (apply Lk.i; (simp only [↓LL, ↓reduceIte, Nat.reduceEqDiff]; (try rfl); done)) | (apply Rf.i; first | rfl | assumption) | (apply Vl.i; ((try simp (disch := omega) only [VV, ↓reduceIte, peqI, encP]); (try rfl); done)) | (apply Am.i; assumption) | (apply Pu.i; ((try simp only [↓reduceIte, UU, RR, Nat.reduceAdd, Nat.reduceEqDiff, cellsP, putP, fillQ, flatQ, shP, sh1, encP]); (try rfl); done)) | (apply Om.i; ((try simp only [MM]); (try omega); done)) | (apply Vw.i; first | exact As.sl _ _ | exact As.nil _ | exact As.arr _ _ _ _ rfl (by ((try simp only [MM]); (try omega); done)) | exact As.row _ _ _ _ _ rfl rfl | exact Src.str _ | exact Src.as (As.sl _ _) | exact Src.as (As.nil _) | exact Src.as (As.arr _ _ _ _ rfl (by ((try simp only [MM]); (try omega); done))) | exact Src.as (As.row _ _ _ _ _ rfl rfl))); (all_goals fail_if_success apply Mk.i)
  refine w_lpG (fun q e s => ∃ i : Nat, q + i = m ∧ s = [.arr (.int .u8) (enc i big v)] ∧ e 0 = .int .u64 (v / 256 ^ i) ∧ e 1 = .int .i64 m ∧ e 2 = .bool big ∧ e 8 = .osl 0 i ∧ e 9 = .int .i64 i) m ?_ ?_
  · exact ⟨0, rfl, by rw [e0'], by (simp only [Int.pow_zero, Int.ediv_one]; exact lk trivial), by exact lk trivial, by exact lk trivial, by exact lk trivial, by exact lk trivial⟩
  rintro q e s ⟨i, hi, rfl, e0, e1, e2, e8, e9⟩
  have hl := enc_length i big v
  by_cases hq : i < m
  · have hd : Ab.abin .quo (.int .u64 (v / 256 ^ i)) (.int .u64 256) = some (.int .u64 (v / 256 ^ (i + 1))) := by
      rw [Ab.b_quo _ _ _ (by decide), tdiv_u (u64_div hv i), div_pow]
    have hd2 : Ab.abin .rem (.int .u64 (v / 256 ^ i)) (.int .u64 256) = some (.int .u64 (Int.tmod (v / 256 ^ i) 256)) := Ab.b_rem _ _ _ (by decide)
    have hd3 : IntKind.u8.wrap (Int.tmod (v / 256 ^ i) 256) = dig v i := mod_wrap (u64_div hv i)
    cases big
    · refine W1 (And.intro @e0 (And.intro @e1 (And.intro @e2 (And.intro @e8 @e9)))) (And.intro @DD (And.intro @hd (And.intro @hd2 @hd3))) trivial ?_
      refine ⟨q - 1, by omega, _, _, Gh.sel [0] (by decide) (hz0 hZ), i + 1, by omega, ?_, by exact lk @e0, by exact lk @e1, by exact lk @e2, ?_, by exact lk @e9⟩
      · rw [← enc_succ_little]
        rfl
      · simp only [↓LL, ↓reduceIte, Nat.reduceEqDiff, hl, UU]
        rfl
    · refine W1 (And.intro @e0 (And.intro @e1 (And.intro @e2 (And.intro @e8 @e9)))) (And.intro @DD (And.intro @hd (And.intro @hd2 @hd3))) trivial ?_
      apply o_arr 1 (.int .u8); (repeat any_goals first | exact mp_z | apply mp_s | exact rs_z | apply rs_t | apply rs_n | apply rs_c); (repeat any_goals first | (apply Lk.i; (simp only [↓LL, ↓reduceIte, Nat.reduceEqDiff]; (try rfl); done)) | (apply Rf.i; first | rfl | assumption) | (apply Vl.i; ((try simp (disch := omega) only [VV, ↓reduceIte, peqI, encP]); (try rfl); done)) | (apply Am.i; assumption) | (apply Pu.i; ((try simp only [↓reduceIte, UU, RR, Nat.reduceAdd, Nat.reduceEqDiff, cellsP, putP, fillQ, flatQ, shP, sh1, encP]); (try rfl); done)) | (apply Om.i; ((try simp only [MM]); (try omega); done)) | (apply Vw.i; first | exact As.sl _ _ | exact As.nil _ | exact As.arr _ _ _ _ rfl (by ((try simp only [MM]); (try omega); done)) | exact As.row _ _ _ _ _ rfl rfl | exact Src.str _ | exact Src.as (As.sl _ _) | exact Src.as (As.nil _) | exact Src.as (As.arr _ _ _ _ rfl (by ((try simp only [MM]); (try omega); done))) | exact Src.as (As.row _ _ _ _ _ rfl rfl))); (all_goals fail_if_success apply Mk.i)
      refine W1 (And.intro @e0 (And.intro @e1 (And.intro @e2 (And.intro @e8 @e9)))) (And.intro @DD (And.intro @hd (And.intro @hd2 @hd3))) trivial ?_
      refine ⟨q - 1, by omega, _, _, Gh.sel [1] (by decide) (hz0 hZ), i + 1, by omega, ?_, by exact lk @e0, by exact lk @e1, by exact lk @e2, ?_, by exact lk @e9⟩
      · rw [← enc_succ_big]
        rfl
      · simp only [↓LL, ↓reduceIte, Nat.reduceEqDiff, hl, UU, Nat.add_comm]
        rfl
  · obtain rfl : i = m := by omega
    refine W1 (And.intro @e0 (And.intro @e1 (And.intro @e2 (And.intro @e8 @e9)))) @DD trivial ?_
    rw [hl] at hk
    exact hk
theorem rget_spec {l : List Int} {a n : Int} {big : Bool} (hB : Am (B l)) (hm : Om (l.length ≤ 1000000000000)) (ha : Om (0 ≤ a ∧ a ≤ 18446744073709551615)) (hk : K (.tup [.int .u64 (getSpec l a n big).1, .bool (getSpec l a n big).2]) []) :
    PCalls Try.prog 70 [.sl (.int .u8) l, .int .u64 a, .int .i64 n, .bool big] [] K := by
  refine told_callP bezantref01_Get.told fun Z hZ => ?_
  unfold bezantref01_Get.c
  replace hB := hB.o
  replace hm := hm.o
  replace ha := ha.o
  by_cases hw : wideB n = true
  · obtain ⟨m, rfl, h1, h2⟩ := wide_nat hw
    by_cases hc : a + m ≤ l.length
    · have es : getSpec l a m big = (num big (seg l a.toNat m), true) := by unfold getSpec; rw [if_pos ⟨hw, hc⟩]; rfl
      rw [es] at hk
      refine W1 @hw @DD @rwide_spec ?_
      refine w_lp (fun q e s => s = [] ∧ ∃ i : Nat, q + i = m ∧ e 0 = .sl (.int .u8) l ∧ e 11 = .int .i64 a ∧ e 2 = .int .i64 m ∧ e 3 = .bool big ∧ e 13 = .int .i64 i ∧ e 12 = .int .u64 (beNum ((ord big (seg l a.toNat m)).take i))) m ?_ ?_
      · exact ⟨rfl, 0, rfl, by exact lk trivial, by exact lk trivial, by exact lk trivial, by exact lk trivial, by exact lk trivial, by exact lk trivial⟩
      rintro q e s ⟨rfl, i, hi, e0, e11, e2, e3, e13, e12⟩
      by_cases hq : i < m
      · obtain ⟨⟨g0, g1⟩, g2⟩ := num_step hB (a := a.toNat) (m := m) (by omega) h2 hq big
        cases big
        · have hb := B_get hB (a.toNat + (m - 1 - i))
          simp only [Bool.false_eq_true, if_false] at g2
          have hv : (a + (m : Int) - 1 - i).toNat = a.toNat + (m - 1 - i) := by omega
          refine W1 (And.intro @e0 (And.intro @e11 (And.intro @e2 (And.intro @e3 (And.intro @e13 @e12))))) (And.intro @DD @hv) trivial ?_
          refine ⟨q - 1, by omega, rfl, i + 1, by omega, by exact lk @e0, by exact lk @e11, by exact lk @e2, by exact lk @e3, by exact lk @e13, ?_⟩
          rw [g2, Int.mul_comm]
          exact lk trivial
        · have hb := B_get hB (a.toNat + i)
          simp only [if_true] at g2
          have hv : (a + (i : Int)).toNat = a.toNat + i := by omega
          refine W1 (And.intro @e0 (And.intro @e11 (And.intro @e2 (And.intro @e3 (And.intro @e13 @e12))))) (And.intro @DD @hv) trivial ?_
          refine ⟨q - 1, by omega, rfl, i + 1, by omega, by exact lk @e0, by exact lk @e11, by exact lk @e2, by exact lk @e3, by exact lk @e13, ?_⟩
          rw [g2, Int.mul_comm]
          exact lk trivial
      · obtain rfl : i = m := by omega
        rw [num_all (by omega)] at e12
        refine W1 (And.intro @e0 (And.intro @e11 (And.intro @e2 (And.intro @e3 (And.intro @e13 @e12))))) @DD trivial ?_
        exact hk
    · have es : getSpec l a m big = (0, false) := by unfold getSpec; rw [if_neg (fun hh => hc hh.2)]
      rw [es] at hk
      by_cases hl : a ≤ l.length
      all_goals
        refine W1 @hw @DD @rwide_spec ?_
        exact hk
  · have es : getSpec l a n big = (0, false) := by unfold getSpec; rw [if_neg (fun hh => hw hh.1)]
    have hw' : wideB n = false := by simpa using hw
    rw [es] at hk
    refine W1 @hw' trivial @rwide_spec ?_
    exact hk
end Go.Proofs.Ytalhipbbomagoaa.PvW

/- What wire's functions, and the document's answers for them, yield, told over plain values. No statement of the set is proved in this text. -/
import Derived.Test.YtalhipbbomagoaaBa3
import Derived.Test.YtalhipbbomagoaaTdWire
namespace Go.Proofs.Ytalhipbbomagoaa.PvW
open Go.RowKit Go.Proofs.Ytalhipbbomagoaa.Cd Go.Proofs.Ytalhipbbomagoaa.AbP Go.Proofs.Ytalhipbbomagoaa.Num Go.Proofs.Ytalhipbbomagoaa.Pv
set_option maxRecDepth 100000
set_option maxHeartbeats 4000000
set_option linter.unusedVariables false
set_option linter.unusedSimpArgs false
variable {K : PV → List OB → Prop}
theorem wide_spec {n : Int} (hk : K (.bool (wideB n)) []) : PCalls Try.prog 101 [.int .i64 n] [] K := by
  refine told_callP wire_wide.told fun Z hZ => ?_
  unfold wire_wide.c
  unfold wideB at hk
  cases d1 : decide (n = 1) <;> cases d2 : decide (n = 2) <;> cases d4 : decide (n = 4) <;> cases d8 : decide (n = 8)
  all_goals
    simp only [d1, d2, d4, d8, Bool.or_true, Bool.true_or, Bool.or_false] at hk
    refine W1 (And.intro @d1 (And.intro @d2 (And.intro @d4 @d8))) trivial trivial ?_
    exact hk
theorem rwide_spec {n : Int} (hk : K (.bool (wideB n)) []) : PCalls Try.prog 109 [.int .i64 n] [] K := by
  refine told_callP bezantref01_Wide.told fun Z hZ => ?_
  unfold bezantref01_Wide.c
  unfold wideB at hk
  cases d1 : decide (n = 1) <;> cases d2 : decide (n = 2) <;> cases d4 : decide (n = 4) <;> cases d8 : decide (n = 8)
  all_goals
    simp only [d1, d2, d4, d8, Bool.or_true, Bool.true_or, Bool.or_false] at hk
    refine W1 (And.intro @d1 (And.intro @d2 (And.intro @d4 @d8))) trivial trivial ?_
    exact hk
theorem within_spec {a n size : Int} (ha : Om (0 ≤ a ∧ a ≤ 18446744073709551615)) (hs : Om (0 ≤ size ∧ size ≤ 18446744073709551615)) (hk : K (.bool (withinB a n size)) []) : PCalls Try.prog 74 [.int .u64 a, .int .u64 n, .int .u64 size] [] K := by
  refine told_callP wire_Within.told fun Z hZ => ?_
  unfold wire_Within.c
  unfold withinB at hk
  replace ha := ha.o
  replace hs := hs.o
  by_cases c : a ≤ size
  all_goals
    simp only [c, decide_true, decide_false, Bool.true_and, Bool.false_and] at hk
    refine W1 trivial @DD trivial ?_
    exact hk
theorem rwithin_spec {a n size : Int} (ha : Om (0 ≤ a ∧ a ≤ 18446744073709551615)) (hs : Om (0 ≤ size ∧ size ≤ 18446744073709551615)) (hk : K (.bool (withinB a n size)) []) : PCalls Try.prog 31 [.int .u64 a, .int .u64 n, .int .u64 size] [] K := by
  refine told_callP bezantref01_Within.told fun Z hZ => ?_
  unfold bezantref01_Within.c
  unfold withinB at hk
  replace ha := ha.o
  replace hs := hs.o
  by_cases c : a ≤ size
  all_goals
    simp only [c, decide_true, decide_false, Bool.true_and, Bool.false_and] at hk
    refine W1 trivial @DD trivial ?_
    exact hk
theorem fitsB_eq {v : Int} (hv : 0 ≤ v ∧ v ≤ 18446744073709551615) {n : Nat} (hw : wideB (n : Int) = true) (h8 : ¬ n = 8) : decide (v.fdiv (2 ^ min (8 * n) 64) = 0) = fitsB v n := by
  obtain ⟨h0, h1⟩ := hv
  unfold fitsB
  rw [hw, Bool.true_and, Int.toNat_natCast]
  have e : ∀ m : Int, 0 ≤ m → v.fdiv m = v / m := fun m hm => Int.fdiv_eq_ediv_of_nonneg v hm
  have hn : n = 1 ∨ n = 2 ∨ n = 4 := by rcases wide_cases hw with q | q | q | q <;> omega
  rw [Bool.eq_iff_iff, decide_eq_true_eq, decide_eq_true_eq, e _ (Int.pow_nonneg (by decide)), div_zero h0 _ (Int.pow_pos (by decide))]
  rcases hn with rfl | rfl | rfl <;> exact Iff.rfl
theorem fits_spec {v n : Int} (hv : Om (0 ≤ v ∧ v ≤ 18446744073709551615)) (hk : K (.bool (fitsB v n)) []) : PCalls Try.prog 132 [.int .u64 v, .int .i64 n] [] K := by
  refine told_callP wire_Fits.told fun Z hZ => ?_
  unfold wire_Fits.c
  replace hv := hv.o
  by_cases hw : wideB n = true
  · obtain ⟨m, rfl, h1, h2⟩ := wide_nat hw
    by_cases c : m = 8
    · have e : fitsB v m = true := by subst c; obtain ⟨v0, v1⟩ := hv; unfold fitsB; rw [hw, Bool.true_and]; exact decide_eq_true (show v < 18446744073709551616 by omega)
      rw [e] at hk
      refine W1 @hw @DD @wide_spec ?_
      exact hk
    · rw [← fitsB_eq hv hw c] at hk
      have hs : (IntKind.i64.wrap (8 * (m : Int))).toNat = 8 * m := by rw [iw (by omega) (by omega)]; omega
      refine W1 @hw (And.intro @DD (And.intro @Ab.b_shr @hs)) @wide_spec ?_
      exact hk
  · have hw' : wideB n = false := by simpa using hw
    have e : fitsB v n = false := by unfold fitsB; rw [hw', Bool.false_and]
    rw [e] at hk
    refine W1 @hw' @DD @wide_spec ?_
    exact hk
theorem num_step {l : List Int} (hB : B l) {a m i : Nat} (h : a + m ≤ l.length) (hm : m ≤ 8) (hi : i < m) (big : Bool) :
    (0 ≤ beNum ((ord big (seg l a m)).take i) ∧ beNum ((ord big (seg l a m)).take i) < 72057594037927936) ∧ beNum ((ord big (seg l a m)).take (i + 1)) = beNum ((ord big (seg l a m)).take i) * 256 + l.getD (if big = true then a + i else a + (m - 1 - i)) 0 := by
  refine ⟨part_range (ord_B (seg_B hB a m)) (by omega), ?_⟩
  rw [take_snoc (by rw [ord_length, seg_length h]; exact hi), beNum_snoc, ord_get h big hi]
theorem num_all {l : List Int} {a m : Nat} (h : a + m ≤ l.length) (big : Bool) : beNum ((ord big (seg l a m)).take m) = num big (seg l a m) := by
  rw [List.take_of_length_le (by rw [ord_length, seg_length h]; omega)]
  rfl
theorem get_spec {l : List Int} {a n : Int} {big : Bool} (hB : Am (B l)) (hm : Om (l.length ≤ 1000000000000)) (ha : Om (0 ≤ a ∧ a ≤ 18446744073709551615)) (hk : K (.tup [.int .u64 (getSpec l a n big).1, .bool (getSpec l a n big).2]) []) :
    PCalls Try.prog 62 [.sl (.int .u8) l, .int .u64 a, .int .i64 n, .bool big] [] K := by
  refine told_callP wire_Get.told fun Z hZ => ?_
  unfold wire_Get.c
  replace hB := hB.o
  replace hm := hm.o
  replace ha := ha.o
  by_cases hw : wideB n = true
  · obtain ⟨m, rfl, h1, h2⟩ := wide_nat hw
    by_cases hc : a + m ≤ l.length
    · have e : withinB a m l.length = true := by unfold withinB; simp; omega
      have es : getSpec l a m big = (num big (seg l a.toNat m), true) := by unfold getSpec; rw [if_pos ⟨hw, hc⟩]; rfl
      rw [es] at hk
      refine W1 (And.intro @hw @e) trivial (And.intro @wide_spec @within_spec) ?_
      refine w_lp (fun q e s => s = [] ∧ ∃ i : Nat, q + i = m ∧ e 0 = .sl (.int .u8) l ∧ e 1 = .int .u64 a ∧ e 2 = .int .i64 m ∧ e 3 = .bool big ∧ e 26 = .int .i64 m ∧ e 27 = .int .i64 i ∧ e 10 = .int .u64 (beNum ((ord big (seg l a.toNat m)).take i))) m ⟨rfl, 0, rfl, by exact lk trivial, by exact lk trivial, by exact lk trivial, by exact lk trivial, by exact lk trivial, by exact lk trivial, by exact lk trivial⟩ ?_
      rintro q e s ⟨rfl, i, hi, e0, e1, e2, e3, e26, e27, e10⟩
      by_cases hq : i < m
      · obtain ⟨⟨g0, g1⟩, g2⟩ := num_step hB (a := a.toNat) (m := m) (by omega) h2 hq big
        cases big
        · have hb := B_get hB (a.toNat + (m - 1 - i))
          simp only [Bool.false_eq_true, if_false] at g2
          have hv : (a + ((m : Int) - 1 - i)).toNat = a.toNat + (m - 1 - i) := by omega
          refine W1 (And.intro @e0 (And.intro @e1 (And.intro @e2 (And.intro @e3 (And.intro @e26 (And.intro @e27 @e10)))))) (And.intro @DD (And.intro @b_shl8 (And.intro @b_or8 @hv))) trivial ?_
          refine ⟨q - 1, by omega, rfl, i + 1, by omega, by exact lk @e0, by exact lk @e1, by exact lk @e2, by exact lk @e3, by exact lk @e26, by exact lk @e27, ?_⟩
          rw [g2]
          exact lk trivial
        · have hb := B_get hB (a.toNat + i)
          simp only [if_true] at g2
          have hv : (a + (i : Int)).toNat = a.toNat + i := by omega
          refine W1 (And.intro @e0 (And.intro @e1 (And.intro @e2 (And.intro @e3 (And.intro @e26 (And.intro @e27 @e10)))))) (And.intro @DD (And.intro @b_shl8 (And.intro @b_or8 @hv))) trivial ?_
          refine ⟨q - 1, by omega, rfl, i + 1, by omega, by exact lk @e0, by exact lk @e1, by exact lk @e2, by exact lk @e3, by exact lk @e26, by exact lk @e27, ?_⟩
          rw [g2]
          exact lk trivial
      · obtain rfl : i = m := by omega
        rw [num_all (by omega)] at e10
        refine W1 (And.intro @e0 (And.intro @e1 (And.intro @e2 (And.intro @e3 (And.intro @e26 (And.intro @e27 @e10)))))) (And.intro @DD (And.intro @b_shl8 @b_or8)) trivial ?_
        exact hk
    · have e : withinB a m l.length = false := by unfold withinB; rw [Bool.and_eq_false_iff]; simp; omega
      have es : getSpec l a m big = (0, false) := by unfold getSpec; rw [if_neg (fun hh => hc hh.2)]
      rw [es] at hk
      refine W1 (And.intro @hw @e) trivial (And.intro @wide_spec @within_spec) ?_
      exact hk
  · have es : getSpec l a n big = (0, false) := by unfold getSpec; rw [if_neg (fun hh => hw hh.1)]
    have hw' : wideB n = false := by simpa using hw
    rw [es] at hk
    refine W1 @hw' trivial (And.intro @wide_spec @within_spec) ?_
    exact hk
end Go.Proofs.Ytalhipbbomagoaa.PvW

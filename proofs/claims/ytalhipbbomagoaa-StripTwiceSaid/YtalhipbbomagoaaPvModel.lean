/- What model's small functions yield. No statement of the set is proved in this text. -/
import Derived.Test.YtalhipbbomagoaaPvWireI
import Derived.Test.YtalhipbbomagoaaPvIdx
namespace Go.Proofs.Ytalhipbbomagoaa.PvW
open Go.RowKit Go.Proofs.Ytalhipbbomagoaa.Cd Go.Proofs.Ytalhipbbomagoaa.AbP Go.Proofs.Ytalhipbbomagoaa.Num Go.Proofs.Ytalhipbbomagoaa.Pv
set_option maxRecDepth 100000
set_option maxHeartbeats 4000000
set_option linter.unusedVariables false
set_option linter.unusedSimpArgs false
abbrev dSeg : Ab.D := (.st (.cons (.int .u32) (.cons (.int .u32) (.cons (.int .u64) (.cons (.int .u64) (.cons (.int .u64) (.cons (.int .u64) (.cons (.st (.cons (.int .i64) (.cons (.int .u64) (.cons (.int .u64) (.cons (.sl (.int .u8)) .nil))))) .nil))))))))
abbrev dSec : Ab.D := (.st (.cons (.int .u32) (.cons (.int .u32) (.cons (.int .u64) (.cons (.int .u64) (.cons (.int .u64) (.cons (.int .u32) (.cons (.int .u32) (.cons (.int .u64) (.cons (.int .u64) (.cons (.st (.cons (.int .i64) (.cons (.int .u64) (.cons (.int .u64) (.cons (.sl (.int .u8)) .nil))))) .nil)))))))))))
/-- may a place be -/
def placeOk (segs : List dSeg.T) (i off sz : Int) (own : List Int) : Bool :=
  if i = -1 then decide (off = 0) && decide (sz = own.length)
  else if i < 0 ∨ (segs.length : Int) ≤ i then false
  else match segs[i.toNat]? with
    | none => false
    | some s => decide (@Eq Int s.1 1) && decide (own.length = 0) && decide (sz ≠ 0) && withinB off sz s.2.2.2.2.2.2.1.2.2.2.1.length
section
variable {K : PV → List OB → Prop} {w big : Bool} {o ab ty ma fl en st : Int} {segs : List dSeg.T} {secs : List dSec.T}
theorem place_spec {i off sz : Int} {own : List Int} (ho : Om (0 ≤ off ∧ off ≤ 18446744073709551615)) (hl : Om (segs.length ≤ 1000000 ∧ own.length ≤ 1000000)) (hL : ∀ s ∈ segs, s.2.2.2.2.2.2.1.2.2.2.1.length ≤ 1000000) (hk : K (.bool (placeOk segs i off sz own)) []) :
    PCalls Try.prog 129 [.agg [.bool w, .bool big, .int .u8 o, .int .u8 ab, .int .u16 ty, .int .u16 ma, .int .u32 fl, .int .u64 en, .sl dSeg segs, .sl dSec secs, .int .i64 st], .agg [.int .i64 i, .int .u64 off, .int .u64 sz, .sl (.int .u8) own]] [] K := by
  have ho := ho.o
  have hl := hl.o
  refine told_callP model_place.told fun Z hZ => ?_
  unfold model_place.c
  unfold placeOk at hk
  by_cases h1 : i = -1
  · rw [if_pos h1] at hk
    by_cases h2 : off = 0
    · simp only [decide_eq_true h2, Bool.true_and] at hk
      refine W1 trivial @DD trivial ?_
      exact hk
    · simp only [decide_eq_false h2, Bool.false_and] at hk
      refine W1 trivial @DD trivial ?_
      exact hk
  rw [if_neg h1] at hk
  by_cases h2 : i < 0 ∨ (segs.length : Int) ≤ i
  · rw [if_pos h2] at hk
    by_cases h3 : i < 0
    · refine W1 trivial @DD trivial ?_
      exact hk
    · have h2 : (segs.length : Int) ≤ i := by omega
      refine W1 trivial @DD trivial ?_
      exact hk
  rw [if_neg h2] at hk
  obtain ⟨s, hs⟩ : ∃ s, segs[i.toNat]? = some s := ⟨segs[i.toNat]'(by omega), List.getElem?_eq_getElem (by omega)⟩
  rw [hs] at hk
  have hsl := hL s (List.mem_of_getElem? hs)
  obtain ⟨sty, sfl, sva, spa, sme, sal, ⟨si, so, sz', sown, u⟩, u2⟩ := s
  dsimp only at hk hsl
  by_cases h3 : @Eq Int sty 1
  · rw [decide_eq_true h3] at hk
    by_cases h4 : own.length = 0
    · rw [decide_eq_true h4] at hk
      by_cases h5 : sz = 0
      · simp only [h5, ne_eq, not_true_eq_false, decide_false, Bool.false_and, Bool.and_false, Bool.true_and] at hk
        refine W1 trivial @DD trivial ?_
        exact hk
      · simp only [h5, ne_eq, not_false_eq_true, decide_true, Bool.true_and] at hk
        refine W1 trivial @DD @within_spec ?_
        exact hk
    · simp only [decide_eq_false h4, Bool.and_false, Bool.false_and] at hk
      refine W1 trivial @DD trivial ?_
      exact hk
  · simp only [decide_eq_false h3, Bool.false_and] at hk
    refine W1 trivial @DD trivial ?_
    exact hk
end
end Go.Proofs.Ytalhipbbomagoaa.PvW

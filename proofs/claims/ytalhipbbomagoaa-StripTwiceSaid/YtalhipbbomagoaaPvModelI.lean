/- model.Check, model.Bytes, and few. No statement of the set is proved in this text. -/
import Derived.Test.YtalhipbbomagoaaPvModelH
import Derived.Test.YtalhipbbomagoaaPvRow
namespace Go.Proofs.Ytalhipbbomagoaa.PvW
open Go.RowKit Go.Proofs.Ytalhipbbomagoaa.Cd Go.Proofs.Ytalhipbbomagoaa.AbP Go.Proofs.Ytalhipbbomagoaa.Num Go.Proofs.Ytalhipbbomagoaa.Pv
set_option maxRecDepth 100000
set_option maxHeartbeats 4000000
set_option linter.unusedVariables false
set_option linter.unusedSimpArgs false
section
variable {K : PV → List OB → Prop} {w big : Bool} {o ab ty ma fl en st : Int} {segs : List dSeg.T} {secs : List dSec.T}
theorem check_spec (he : Om (0 ≤ en ∧ en ≤ 18446744073709551615)) (hG : Am (SegsN segs)) (hN : Am (SecsN secs)) (hk0 : wrongC w en segs secs st = 0 → K .nilI []) (hk1 : wrongC w en segs secs st ≠ 0 → K (eCode (wrongC w en segs secs st)) []) :
    PCalls Try.prog 24 [.agg [.bool w, .bool big, .int .u8 o, .int .u8 ab, .int .u16 ty, .int .u16 ma, .int .u32 fl, .int .u64 en, .sl dSeg segs, .sl dSec secs, .int .i64 st]] [] K := by
  refine told_callP model_Check.told fun Z hZ => ?_
  unfold model_Check.c
  refine W1 trivial @DD trivial ?_
  refine wrong_spec he hG hN ?_
  by_cases h : wrongC w en segs secs st = 0
  · have := hk0 h
    refine W1 trivial (And.intro @DD @h) trivial ?_
    exact this
  · have := hk1 h
    refine W1 trivial (And.intro @DD @h) trivial ?_
    exact this
theorem clone_spec {l : List Int} (hm : Om (l.length ≤ 1000000)) (hk0 : l = [] → K .nilS []) (hk1 : K (.osl 0 l.length) [.arr (.int .u8) l]) : PCalls Try.prog 73 [.sl (.int .u8) l] [] K := by
  have hm := hm.o
  refine told_callP bytes_Clone.told fun Z hZ => ?_
  unfold bytes_Clone.c
  refine W1 trivial trivial trivial ?_
  refine nl_Sl fun r hr => ?_
  cases r
  · show pops _ _ _ _ _ (putE _ _ (.bool false)) _
    refine W1 trivial trivial (@oArr 0 (.int .u8)) ?_
    have hk1' : K (.osl 0 (0 + l.length)) [.arr (.int .u8) l] := by rw [Nat.zero_add]; exact hk1
    exact hk1'
  · obtain rfl := hr rfl
    show pops _ _ _ _ _ (putE _ _ (.bool true)) _
    refine W1 trivial trivial trivial ?_
    exact hk0 rfl
/-- the bytes at a place -/
def bytesAt (segs : List dSeg.T) (i off sz : Int) (own : List Int) : List Int :=
  if i = -1 then own
  else if i < 0 ∨ (segs.length : Int) ≤ i then []
  else match segs[i.toNat]? with
    | none => []
    | some s => if withinB off sz s.2.2.2.2.2.2.1.2.2.2.1.length = true then (s.2.2.2.2.2.2.1.2.2.2.1.drop off.toNat).take sz.toNat else []
theorem within_ok {a n size : Int} (h : Am (withinB a n size = true)) (ha : Om (0 ≤ a ∧ a ≤ 18446744073709551615)) (hs : Om (0 ≤ size ∧ size ≤ 18446744073709551615)) (hk : K (.bool true) []) : PCalls Try.prog 74 [.int .u64 a, .int .u64 n, .int .u64 size] [] K := within_spec ha hs (by rw [h.o]; exact hk)
theorem within_no {a n size : Int} (h : Am (withinB a n size = false)) (ha : Om (0 ≤ a ∧ a ≤ 18446744073709551615)) (hs : Om (0 ≤ size ∧ size ≤ 18446744073709551615)) (hk : K (.bool false) []) : PCalls Try.prog 74 [.int .u64 a, .int .u64 n, .int .u64 size] [] K := within_spec ha hs (by rw [h.o]; exact hk)
theorem bytes_spec {i off sz : Int} {own : List Int} (ho : Om (0 ≤ off ∧ off ≤ 18446744073709551615 ∧ 0 ≤ sz ∧ sz ≤ 18446744073709551615)) (hl : Om (segs.length ≤ 1000000 ∧ own.length ≤ 1000000)) (hL : ∀ s ∈ segs, s.2.2.2.2.2.2.1.2.2.2.1.length ≤ 1000000) (hk0 : bytesAt segs i off sz own = [] → K .nilS []) (hk1 : K (.osl 0 (bytesAt segs i off sz own).length) [.arr (.int .u8) (bytesAt segs i off sz own)]) :
    PCalls Try.prog 25 [.agg [.bool w, .bool big, .int .u8 o, .int .u8 ab, .int .u16 ty, .int .u16 ma, .int .u32 fl, .int .u64 en, .sl dSeg segs, .sl dSec secs, .int .i64 st], .agg [.int .i64 i, .int .u64 off, .int .u64 sz, .sl (.int .u8) own]] [] K := by
  have ho := ho.o
  have hl := hl.o
  refine told_callP model_Bytes.told fun Z hZ => ?_
  unfold model_Bytes.c
  by_cases h1 : i = -1
  · have e : bytesAt segs i off sz own = own := if_pos h1
    rw [e] at hk0 hk1
    refine W1 trivial @DD trivial ?_
    refine clone_spec ⟨by omega⟩ (fun h => ?_) ?_
    · have := hk0 h
      refine W1 trivial @DD trivial ?_
      exact this
    · refine W1 trivial @DD trivial ?_
      exact hk1
  by_cases h2 : i < 0
  · have := hk0 (by unfold bytesAt; rw [if_neg h1, if_pos (.inl h2)])
    refine W1 trivial @DD trivial ?_
    exact this
  by_cases h3 : (segs.length : Int) ≤ i
  · have := hk0 (by unfold bytesAt; rw [if_neg h1, if_pos (.inr h3)])
    refine W1 trivial @DD trivial ?_
    exact this
  obtain ⟨s, hs⟩ : ∃ s, segs[i.toNat]? = some s := ⟨segs[i.toNat]'(by omega), List.getElem?_eq_getElem (by omega)⟩
  have hsl := hL s (List.mem_of_getElem? hs)
  unfold bytesAt at hk0 hk1
  rw [if_neg h1, if_neg (fun h => h.elim h2 h3), hs] at hk0 hk1
  obtain ⟨sty, sfl, sva, spa, sme, sal, ⟨si, so, sz', sown, u⟩, u2⟩ := s
  dsimp only at hk0 hk1 hsl
  cases h4 : withinB off sz (sown.length : Int) with
  | false =>
    rw [if_neg (by rw [h4]; decide)] at hk0
    have := hk0 rfl
    refine W1 trivial @DD @within_no ?_
    exact this
  | true =>
    rw [if_pos h4] at hk0 hk1
    have h5 := h4
    simp only [withinB, Bool.and_eq_true, decide_eq_true_eq] at h5
    refine W1 trivial @DD @within_ok ?_
    have e : List.drop off.toNat (List.take (off + sz).toNat sown) = (sown.drop off.toNat).take sz.toNat := by
      rw [List.drop_take]
      congr 1
      omega
    rw [e]
    refine clone_spec ⟨by rw [List.length_take, List.length_drop]; omega⟩ (fun h => ?_) ?_
    · have := hk0 h
      refine W1 trivial @DD trivial ?_
      exact this
    · refine W1 trivial @DD trivial ?_
      exact hk1
end
end Go.Proofs.Ytalhipbbomagoaa.PvW

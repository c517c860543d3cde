/- A model is the same as itself. No statement of the set is proved in this text. -/
import Derived.Test.YtalhipbbomagoaaPvModelK
namespace Go.Proofs.Ytalhipbbomagoaa.PvW
open Go.RowKit Go.Proofs.Ytalhipbbomagoaa.Cd Go.Proofs.Ytalhipbbomagoaa.AbP Go.Proofs.Ytalhipbbomagoaa.Num Go.Proofs.Ytalhipbbomagoaa.Pv
set_option maxRecDepth 100000
set_option maxHeartbeats 4000000
set_option linter.unusedVariables false
set_option linter.unusedSimpArgs false
abbrev dIdentM : Ab.D := (.cons (.st (.cons .bool (.cons .bool .nil))) (.cons (.int .u8) (.cons (.int .u8) .nil)))
theorem identM_same (w big : Bool) (o ab : Int) : EqS Try.prog 25 [.bool w, .bool big, .int .u8 o, .int .u8 ab] [.bool w, .bool big, .int .u8 o, .int .u8 ab] true :=
  EqS.same dIdentM (by decide) (by kernel_rfl) (by kernel_rfl) (by decide) ((w, big, ()), o, ab, ()) rfl
section
variable {K : PV → List OB → Prop} {w big : Bool} {o ab ty ma fl en st : Int} {segs : List dSeg.T} {secs : List dSec.T}
theorem bequal_spec {l : List Int} (hl : Om (l.length ≤ 1000000)) (hk : K (.bool true) []) : PCalls Try.prog 116 [.sl (.int .u8) l, .sl (.int .u8) l] [] K := by
  refine told_callP bytes_Equal.told fun Z hZ => ?_
  unfold bytes_Equal.c
  have hbs : ∀ s : List UInt8, (s == s) = true := fun s => beq_self_eq_true s
  refine W1 trivial (And.intro @DD @hbs) trivial ?_
  exact hk
theorem mat_spec {i off sz : Int} {own : List Int} (hl : Om (own.length ≤ 1000000)) (hk : K (.bool true) []) : PCalls Try.prog 82 [.agg [.int .i64 i, .int .u64 off, .int .u64 sz, .sl (.int .u8) own], .agg [.int .i64 i, .int .u64 off, .int .u64 sz, .sl (.int .u8) own]] [] K := by
  have hl := hl.o
  refine told_callP model_at.told fun Z hZ => ?_
  unfold model_at.c
  refine W1 trivial @DD @bequal_spec ?_
  exact hk
theorem sameG_spec {ty fl va pa me al i off sz : Int} {own : List Int} (hl : Om (own.length ≤ 1000000)) (hk : K (.bool true) []) : PCalls Try.prog 81 [.agg [.int .u32 ty, .int .u32 fl, .int .u64 va, .int .u64 pa, .int .u64 me, .int .u64 al, .int .i64 i, .int .u64 off, .int .u64 sz, .sl (.int .u8) own], .agg [.int .u32 ty, .int .u32 fl, .int .u64 va, .int .u64 pa, .int .u64 me, .int .u64 al, .int .i64 i, .int .u64 off, .int .u64 sz, .sl (.int .u8) own]] [] K := by
  have hl := hl.o
  refine told_callP model_Same_1.told fun Z hZ => ?_
  unfold model_Same_1.c
  refine W1 trivial @DD @mat_spec ?_
  exact hk
theorem sameC_spec {nm ty fl ad si li sf al en i off sz : Int} {own : List Int} (hl : Om (own.length ≤ 1000000)) (hk : K (.bool true) []) : PCalls Try.prog 83 [.agg [.int .u32 nm, .int .u32 ty, .int .u64 fl, .int .u64 ad, .int .u64 si, .int .u32 li, .int .u32 sf, .int .u64 al, .int .u64 en, .int .i64 i, .int .u64 off, .int .u64 sz, .sl (.int .u8) own], .agg [.int .u32 nm, .int .u32 ty, .int .u64 fl, .int .u64 ad, .int .u64 si, .int .u32 li, .int .u32 sf, .int .u64 al, .int .u64 en, .int .i64 i, .int .u64 off, .int .u64 sz, .sl (.int .u8) own]] [] K := by
  have hl := hl.o
  refine told_callP model_Same_2.told fun Z hZ => ?_
  unfold model_Same_2.c
  refine W1 trivial @DD @mat_spec ?_
  exact hk
theorem eqfG_spec (hl : Om (segs.length ≤ 1000000)) (hL : ∀ s ∈ segs, s.2.2.2.2.2.2.1.2.2.2.1.length ≤ 1000000) (hk : K (.bool true) []) :
    PCalls Try.prog 84 [.sl dSeg segs, .sl dSeg segs, .fn 81 [] []] [] K := by
  have hl := hl.o
  refine told_callP slices_EqualFunc_api_Seg_api_Seg_api_Seg_api_Seg.told fun Z hZ => ?_
  unfold slices_EqualFunc_api_Seg_api_Seg_api_Seg_api_Seg.c
  refine W1 trivial @DD trivial ?_
  refine w_lpG (fun q e s => ∃ i : Nat, q + i = segs.length ∧ s = [] ∧ e 0 = .sl dSeg segs ∧ e 1 = .sl dSeg segs ∧ e 2 = .fn 81 [] [] ∧ e 15 = .sl dSeg segs ∧ e 16 = .int .i64 segs.length ∧ e 17 = .int .i64 i) segs.length ?_ ?_
  · exact ⟨0, rfl, rfl, by exact lk trivial, by exact lk trivial, by exact lk trivial, by exact lk trivial, by exact lk trivial, by exact lk trivial⟩
  rintro q e s ⟨i, hi, rfl, e0, e1, e2, e15, e16, e17⟩
  by_cases hq : i < segs.length
  · obtain ⟨x, hx⟩ : ∃ x, segs[i]? = some x := ⟨segs[i], List.getElem?_eq_getElem hq⟩
    have hx0 := hL x (List.mem_of_getElem? hx)
    obtain ⟨sty, sfl, sva, spa, sme, sal, ⟨si, so, sz, sown, u⟩, u2⟩ := x
    dsimp only at hx0
    refine W1 (And.intro @e0 (And.intro @e1 (And.intro @e2 (And.intro @e15 (And.intro @e16 @e17))))) @DD trivial ?_
    refine sameG_spec ⟨hx0⟩ ?_
    refine W1 (And.intro @e0 (And.intro @e1 (And.intro @e2 (And.intro @e15 (And.intro @e16 @e17))))) @DD trivial ?_
    exact ⟨q - 1, by omega, _, _, Gh.sel [] (by decide) (hz0 hZ), i + 1, by omega, rfl, by exact lk @e0, by exact lk @e1, by exact lk @e2, by exact lk @e15, by exact lk @e16, by exact lk @e17⟩
  · refine W1 (And.intro @e0 (And.intro @e1 (And.intro @e2 (And.intro @e15 (And.intro @e16 @e17))))) @DD trivial ?_
    exact hk
theorem eqfC_spec (hl : Om (secs.length ≤ 1000000)) (hL : ∀ s ∈ secs, s.2.2.2.2.2.2.2.2.2.1.2.2.2.1.length ≤ 1000000) (hk : K (.bool true) []) :
    PCalls Try.prog 85 [.sl dSec secs, .sl dSec secs, .fn 83 [] []] [] K := by
  have hl := hl.o
  refine told_callP slices_EqualFunc_api_Sec_api_Sec_api_Sec_api_Sec.told fun Z hZ => ?_
  unfold slices_EqualFunc_api_Sec_api_Sec_api_Sec_api_Sec.c
  refine W1 trivial @DD trivial ?_
  refine w_lpG (fun q e s => ∃ i : Nat, q + i = secs.length ∧ s = [] ∧ e 0 = .sl dSec secs ∧ e 1 = .sl dSec secs ∧ e 2 = .fn 83 [] [] ∧ e 15 = .sl dSec secs ∧ e 16 = .int .i64 secs.length ∧ e 17 = .int .i64 i) secs.length ?_ ?_
  · exact ⟨0, rfl, rfl, by exact lk trivial, by exact lk trivial, by exact lk trivial, by exact lk trivial, by exact lk trivial, by exact lk trivial⟩
  rintro q e s ⟨i, hi, rfl, e0, e1, e2, e15, e16, e17⟩
  by_cases hq : i < secs.length
  · obtain ⟨x, hx⟩ : ∃ x, secs[i]? = some x := ⟨secs[i], List.getElem?_eq_getElem hq⟩
    have hx0 := hL x (List.mem_of_getElem? hx)
    obtain ⟨nm, sty, sfl, sad, ssi, sli, ssf, sal, sen, ⟨si, so, sz, sown, u⟩, u2⟩ := x
    dsimp only at hx0
    refine W1 (And.intro @e0 (And.intro @e1 (And.intro @e2 (And.intro @e15 (And.intro @e16 @e17))))) @DD trivial ?_
    refine sameC_spec ⟨hx0⟩ ?_
    refine W1 (And.intro @e0 (And.intro @e1 (And.intro @e2 (And.intro @e15 (And.intro @e16 @e17))))) @DD trivial ?_
    exact ⟨q - 1, by omega, _, _, Gh.sel [] (by decide) (hz0 hZ), i + 1, by omega, rfl, by exact lk @e0, by exact lk @e1, by exact lk @e2, by exact lk @e15, by exact lk @e16, by exact lk @e17⟩
  · refine W1 (And.intro @e0 (And.intro @e1 (And.intro @e2 (And.intro @e15 (And.intro @e16 @e17))))) @DD trivial ?_
    exact hk
/-- a model is the same as itself -/
theorem same_spec (hl : Om (segs.length ≤ 1000000 ∧ secs.length ≤ 1000000)) (hL : ∀ s ∈ segs, s.2.2.2.2.2.2.1.2.2.2.1.length ≤ 1000000) (hM : ∀ s ∈ secs, s.2.2.2.2.2.2.2.2.2.1.2.2.2.1.length ≤ 1000000) (hk : K (.bool true) []) :
    PCalls Try.prog 35 [.agg [.bool w, .bool big, .int .u8 o, .int .u8 ab, .int .u16 ty, .int .u16 ma, .int .u32 fl, .int .u64 en, .sl dSeg segs, .sl dSec secs, .int .i64 st], .agg [.bool w, .bool big, .int .u8 o, .int .u8 ab, .int .u16 ty, .int .u16 ma, .int .u32 fl, .int .u64 en, .sl dSeg segs, .sl dSec secs, .int .i64 st]] [] K := by
  have hl := hl.o
  have hq := identM_same w big o ab
  refine told_callP model_Same.told fun Z hZ => ?_
  unfold model_Same.c
  refine W1 trivial @DD trivial ?_
  refine eqfG_spec ⟨hl.1⟩ hL ?_
  refine W1 trivial @DD trivial ?_
  refine eqfC_spec ⟨hl.2⟩ hM ?_
  refine W1 trivial @DD trivial ?_
  exact hk
end
end Go.Proofs.Ytalhipbbomagoaa.PvW

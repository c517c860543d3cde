/- Few. No statement of the set is proved in this text. -/
import Derived.Test.YtalhipbbomagoaaPvModelJ
import Derived.Test.YtalhipbbomagoaaTdBare
namespace Go.Proofs.Ytalhipbbomagoaa.PvW
open Go.RowKit Go.Proofs.Ytalhipbbomagoaa.Cd Go.Proofs.Ytalhipbbomagoaa.AbP Go.Proofs.Ytalhipbbomagoaa.Num Go.Proofs.Ytalhipbbomagoaa.Pv
set_option maxRecDepth 100000
set_option maxHeartbeats 4000000
set_option linter.unusedVariables false
set_option linter.unusedSimpArgs false
section
variable {K : PV → List OB → Prop} {w big : Bool} {o ab ty ma fl en st : Int} {segs : List dSeg.T} {secs : List dSec.T}
theorem few_spec (hL : ∀ s ∈ segs, s.2.2.2.2.2.2.1.2.2.2.1.length ≤ 281474976710656) (hM : ∀ s ∈ secs, s.2.2.2.2.2.2.2.2.2.1.2.2.2.1.length ≤ 281474976710656)
    (hk1 : segs.length ≤ 20 → secs.length ≤ 70 → (∀ s ∈ segs, s.2.2.2.2.2.2.1.2.2.2.1.length ≤ 100000) → (∀ s ∈ secs, s.2.2.2.2.2.2.2.2.2.1.2.2.2.1.length ≤ 100000) → K (.int .i64 1) []) (hk0 : K (.int .i64 0) []) :
    PCalls Try.prog 11 [.agg [.bool w, .bool big, .int .u8 o, .int .u8 ab, .int .u16 ty, .int .u16 ma, .int .u32 fl, .int .u64 en, .sl dSeg segs, .sl dSec secs, .int .i64 st]] [] K := by
  refine told_callP bezantlaw00_Few.told fun Z hZ => ?_
  unfold bezantlaw00_Few.c
  by_cases h1 : 20 < (segs.length : Int)
  · refine W1 trivial @DD trivial ?_
    exact hk0
  by_cases h2 : 70 < (secs.length : Int)
  · refine W1 trivial @DD trivial ?_
    exact hk0
  refine W1 trivial @DD trivial ?_
  refine w_lp (fun q e s => s = [.var [.bool w, .bool big, .int .u8 o, .int .u8 ab, .int .u16 ty, .int .u16 ma, .int .u32 fl, .int .u64 en, .sl dSeg segs, .sl dSec secs, .int .i64 st]] ∧ ∃ i t : Nat, q + i = segs.length ∧ t ≤ i * 281474976710656 ∧ (∀ y ∈ segs.take i, y.2.2.2.2.2.2.1.2.2.2.1.length ≤ t) ∧ e 1 = .ptr 0 0 ∧ e 3 = .int .i64 t ∧ e 4 = .int .i64 i) segs.length ?_ ?_
  · exact ⟨rfl, 0, 0, rfl, by decide, fun y hy => (by cases hy), by exact lk trivial, by exact lk trivial, by exact lk trivial⟩
  rintro q e s ⟨rfl, i, t, hi, ht, hall, e1, e3, e4⟩
  by_cases hq : i < segs.length
  · obtain ⟨x, hx⟩ : ∃ x, segs[i]? = some x := ⟨segs[i], List.getElem?_eq_getElem hq⟩
    have hx0 := hL x (List.mem_of_getElem? hx)
    have htk : segs.take (i + 1) = segs.take i ++ [x] := by rw [List.take_add_one, hx]; rfl
    have hat : ∀ y ∈ segs.take (i + 1), y.2.2.2.2.2.2.1.2.2.2.1.length ≤ t + x.2.2.2.2.2.2.1.2.2.2.1.length := fun y hy => by
      rw [htk] at hy
      rcases List.mem_append.1 hy with hy | hy
      · exact Nat.le_trans (hall y hy) (Nat.le_add_right _ _)
      · obtain rfl := List.mem_singleton.1 hy; exact Nat.le_add_left _ _
    obtain ⟨sty, sfl, sva, spa, sme, sal, ⟨si, so, sz, sown, u⟩, u2⟩ := x
    dsimp only at hx0 hat
    refine W1 (And.intro @e1 (And.intro @e3 @e4)) @DD trivial ?_
    exact ⟨q - 1, by omega, rfl, i + 1, t + sown.length, by omega, by omega, hat, by exact lk @e1, by exact lk @e3, by exact lk @e4⟩
  obtain rfl : i = segs.length := by omega
  rw [List.take_length] at hall
  refine W1 (And.intro @e1 (And.intro @e3 @e4)) @DD trivial ?_
  obtain ⟨B0, hB0⟩ : ∃ B0 : Nat, B0 = 20 * 281474976710656 := ⟨_, rfl⟩
  have ht0 : t ≤ B0 + 0 * 281474976710656 := by omega
  refine w_lp (fun q e s => s = [.var [.bool w, .bool big, .int .u8 o, .int .u8 ab, .int .u16 ty, .int .u16 ma, .int .u32 fl, .int .u64 en, .sl dSeg segs, .sl dSec secs, .int .i64 st]] ∧ ∃ i t : Nat, q + i = secs.length ∧ t ≤ B0 + i * 281474976710656 ∧ (∀ y ∈ segs, y.2.2.2.2.2.2.1.2.2.2.1.length ≤ t) ∧ (∀ y ∈ secs.take i, y.2.2.2.2.2.2.2.2.2.1.2.2.2.1.length ≤ t) ∧ e 1 = .ptr 0 0 ∧ e 3 = .int .i64 t ∧ e 5 = .int .i64 i) secs.length ?_ ?_
  · exact ⟨rfl, 0, t, rfl, ht0, hall, fun y hy => (by cases hy), by exact lk @e1, by exact lk @e3, by exact lk trivial⟩
  clear e1 e3 e4 ht ht0 hall
  rintro q e s ⟨rfl, i, t, hi, ht, hseg, hall, e1, e3, e5⟩
  by_cases hq : i < secs.length
  · obtain ⟨x, hx⟩ : ∃ x, secs[i]? = some x := ⟨secs[i], List.getElem?_eq_getElem hq⟩
    have hx0 := hM x (List.mem_of_getElem? hx)
    have htk : secs.take (i + 1) = secs.take i ++ [x] := by rw [List.take_add_one, hx]; rfl
    have hat : ∀ y ∈ secs.take (i + 1), y.2.2.2.2.2.2.2.2.2.1.2.2.2.1.length ≤ t + x.2.2.2.2.2.2.2.2.2.1.2.2.2.1.length := fun y hy => by
      rw [htk] at hy
      rcases List.mem_append.1 hy with hy | hy
      · exact Nat.le_trans (hall y hy) (Nat.le_add_right _ _)
      · obtain rfl := List.mem_singleton.1 hy; exact Nat.le_add_left _ _
    obtain ⟨nm, sty, sfl, sad, ssi, sli, ssf, sal, sen, ⟨si, so, sz, sown, u⟩, u2⟩ := x
    dsimp only at hx0 hat
    refine W1 (And.intro @e1 (And.intro @e3 @e5)) @DD trivial ?_
    exact ⟨q - 1, by omega, rfl, i + 1, t + sown.length, by omega, by omega, fun y hy => Nat.le_trans (hseg y hy) (Nat.le_add_right _ _), hat, by exact lk @e1, by exact lk @e3, by exact lk @e5⟩
  obtain rfl : i = secs.length := by omega
  rw [List.take_length] at hall
  by_cases h3 : 100000 < (t : Int)
  · refine W1 (And.intro @e1 (And.intro @e3 @e5)) @DD trivial ?_
    exact hk0
  · have := hk1 (by omega) (by omega) (fun y hy => Nat.le_trans (hseg y hy) (by omega)) (fun y hy => Nat.le_trans (hall y hy) (by omega))
    refine W1 (And.intro @e1 (And.intro @e3 @e5)) @DD trivial ?_
    exact this
end
end Go.Proofs.Ytalhipbbomagoaa.PvW

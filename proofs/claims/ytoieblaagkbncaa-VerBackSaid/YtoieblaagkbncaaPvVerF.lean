/- What ver's reader's functions yield. No statement of the set is proved in this text. -/
import Derived.Test.YtoieblaagkbncaaPvVer
namespace Go.Proofs.Ytoieblaagkbncaa.PvW
open Go.RowKit Go.Proofs.Ytoieblaagkbncaa.Cd Go.Proofs.Ytoieblaagkbncaa.AbP Go.Proofs.Ytoieblaagkbncaa.Num Go.Proofs.Ytoieblaagkbncaa.Pv
set_option maxRecDepth 100000
set_option maxHeartbeats 4000000
set_option linter.unusedVariables false
set_option linter.unusedSimpArgs false
variable {K : PV → List OB → Prop}
abbrev pl (b : List Int) (a : Int) : Int := if (b.length : Int) < a then (b.length : Int) else a
abbrev rv (b : List Int) (a : Int) (big : Bool) : OB := .var [.sl (.int .u8) b, .int .u64 a, .bool big]
theorem vget_spec {big : Bool} {b : List Int} {a n : Int} (hB : Am (B b)) (hm : Om (b.length ≤ 1000000)) (hn : Om (0 ≤ n ∧ n ≤ 8)) (ha : Om (0 ≤ a ∧ a ≤ 10000000000))
    (hk : K (.int .u64 (getSpec b a n big).1) [rv b (a + n) big]) :
    PCalls Try.prog 31 [.ptr 0 0, .int .i64 n] [rv b a big] K := by
  refine told_callS ver_reader_get.told fun Z hZ => ?_
  unfold ver_reader_get.c
  replace hB := hB.o
  replace hm := hm.o
  replace hn := hn.o
  replace ha := ha.o
  refine W1 trivial @DD @get_spec ?_
  exact ⟨_, rfl, rfl, hk⟩
theorem vhas_spec {big : Bool} {b : List Int} {a n : Int} (hm : Om (b.length ≤ 1000000)) (hn : Om (0 ≤ n ∧ n ≤ 100)) (ha : Om (0 ≤ a ∧ a ≤ 10000000000))
    (hk : K (.bool (decide (a + n ≤ b.length))) [rv b a big]) :
    PCalls Try.prog 54 [.ptr 0 0, .int .u64 n] [rv b a big] K := by
  refine told_callS ver_reader_has.told fun Z hZ => ?_
  unfold ver_reader_has.c
  replace hm := hm.o
  replace hn := hn.o
  replace ha := ha.o
  have e : withinB a n (b.length : Int) = decide (a + n ≤ (b.length : Int)) := by
    unfold withinB
    rw [← Bool.decide_and]
    exact decide_eq_decide.2 (by omega)
  rw [← e] at hk
  refine W1 trivial @DD @within_spec ?_
  exact ⟨_, rfl, rfl, hk⟩
theorem vspot_spec {big : Bool} {b : List Int} {a a' c : Int} (hm : Om (b.length ≤ 1000000)) (ha : Om (0 ≤ a ∧ a ≤ 10000000000))
    (hk : K (eSpot (pl b a) c) [rv b a' big]) :
    PCalls Try.prog 55 [.ptr 0 0, .int .u64 a, .int .i64 c] [rv b a' big] K := by
  refine told_callS ver_reader_spot.told fun Z hZ => ?_
  unfold ver_reader_spot.c
  replace hm := hm.o
  replace ha := ha.o
  refine W1 trivial @DD trivial ?_
  exact ⟨_, rfl, rfl, hk⟩
end Go.Proofs.Ytoieblaagkbncaa.PvW

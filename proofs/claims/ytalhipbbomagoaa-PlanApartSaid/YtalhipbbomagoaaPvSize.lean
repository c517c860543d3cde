/- How long headers are. No statement of the set is proved in this text. -/
import Derived.Test.YtalhipbbomagoaaBa3
import Derived.Test.YtalhipbbomagoaaTdSize
namespace Go.Proofs.Ytalhipbbomagoaa.PvW
open Go.RowKit Go.Proofs.Ytalhipbbomagoaa.Cd Go.Proofs.Ytalhipbbomagoaa.AbP Go.Proofs.Ytalhipbbomagoaa.Num Go.Proofs.Ytalhipbbomagoaa.Pv
set_option maxRecDepth 100000
set_option maxHeartbeats 4000000
set_option linter.unusedVariables false
set_option linter.unusedSimpArgs false
variable {K : PV → List OB → Prop}
abbrev hsz (w : Bool) : Int := if w = true then 64 else 52
theorem hsize_spec {w b : Bool} (hk : K (.int .i64 (hsz w)) []) : PCalls Try.prog 75 [.agg [.bool w, .bool b]] [] K := by
  refine told_callP head_Size.told fun Z hZ => ?_
  unfold head_Size.c
  cases w
  all_goals
    refine W1 trivial trivial trivial ?_
    exact hk
theorem psize_spec {w b : Bool} (hk : K (.int .i64 (if w = true then 56 else 32)) []) : PCalls Try.prog 77 [.agg [.bool w, .bool b]] [] K := by
  refine told_callP prog_Size.told fun Z hZ => ?_
  unfold prog_Size.c
  cases w
  all_goals
    refine W1 trivial trivial trivial ?_
    exact hk
theorem ssize_spec {w b : Bool} (hk : K (.int .i64 (if w = true then 64 else 40)) []) : PCalls Try.prog 78 [.agg [.bool w, .bool b]] [] K := by
  refine told_callP sect_Size.told fun Z hZ => ?_
  unfold sect_Size.c
  cases w
  all_goals
    refine W1 trivial trivial trivial ?_
    exact hk
end Go.Proofs.Ytalhipbbomagoaa.PvW

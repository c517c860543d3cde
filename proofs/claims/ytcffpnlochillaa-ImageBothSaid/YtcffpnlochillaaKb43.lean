/- A heap of plain values, walks over it, and functions of the program met by them: no statement of the set is proved in this text. -/
import Derived.Test.YtcffpnlochillaaKb31
import Derived.Test.YtcffpnlochillaaKb42
set_option linter.unusedVariables false
set_option linter.unusedSimpArgs false
set_option maxRecDepth 100000
set_option maxHeartbeats 4000000
section
namespace Go.Proofs.Ytcffpnlochillaa.PvW
open Go.RowKit Go.Proofs.Ytcffpnlochillaa.Cd Go.Proofs.Ytcffpnlochillaa.AbP Go.Proofs.Ytcffpnlochillaa.Num Go.Proofs.Ytcffpnlochillaa.Pv
theorem hdV_N {b:List Int} (hB:B b):(0≤(hdV b).getD 0 0∧(hdV b).getD 0 0≤65535)∧(0≤(hdV b).getD 1 0∧(hdV b).getD 1 0≤65535)∧U64 ((hdV b).getD 3 0)∧U64 ((hdV b).getD 4 0)∧U64 ((hdV b).getD 5 0)∧(0≤(hdV b).getD 6 0∧(hdV b).getD 6 0≤4294967295)∧(0≤(hdV b).getD 9 0∧(hdV b).getD 9 0≤65535)∧(0≤(hdV b).getD 11 0∧(hdV b).getD 11 0≤65535)∧(0≤(hdV b).getD 12 0∧(hdV b).getD 12 0≤65535) :=
  ⟨range2 hB _ _,range2 hB _ _,gets_U64 hB _ _ _ (headW_wide _) 3,gets_U64 hB _ _ _ (headW_wide _) 4,gets_U64 hB _ _ _ (headW_wide _) 5,range4 hB _ _,range2 hB _ _,range2 hB _ _,range2 hB _ _⟩
end Go.Proofs.Ytcffpnlochillaa.PvW
end

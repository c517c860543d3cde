/- A heap of plain values, walks over it, and functions of the program met by them: no statement of the set is proved in this text. -/
import Derived.Test.YtcffpnlochillaaKb34
set_option linter.unusedVariables false
set_option linter.unusedSimpArgs false
set_option maxRecDepth 100000
set_option maxHeartbeats 4000000
section
namespace Go.Proofs.Ytcffpnlochillaa.PvW
open Go.RowKit Go.Proofs.Ytcffpnlochillaa.Cd Go.Proofs.Ytcffpnlochillaa.AbP Go.Proofs.Ytcffpnlochillaa.Num Go.Proofs.Ytcffpnlochillaa.Pv
theorem fit_narrow {v:Int} (h:fitW false v=true) (hv:0≤v):v≤4294967295:=by
  unfold fitW fitsB at h
  simp only [Bool.false_eq_true,↓reduceIte,Bool.and_eq_true,decide_eq_true_eq] at h
  have:=h.2
  have e:(256:Int) ^ (4:Int).toNat=4294967296:=rfl
  rw [e] at this
  omega
section
variable {K:PV→List OB→Prop} {w big:Bool} {o ab ty ma fl en st:Int} {segs:List dSeg.T} {secs:List dSec.T}
end
end Go.Proofs.Ytcffpnlochillaa.PvW
end

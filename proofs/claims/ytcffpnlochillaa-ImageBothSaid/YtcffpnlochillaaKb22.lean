/- A heap of plain values, walks over it, and functions of the program met by them: no statement of the set is proved in this text. -/
import Derived.Test.YtcffpnlochillaaKb09
import Derived.Test.YtcffpnlochillaaKb21
set_option linter.unusedVariables false
set_option linter.unusedSimpArgs false
set_option maxRecDepth 100000
set_option maxHeartbeats 4000000
section
namespace Go.Proofs.Ytcffpnlochillaa.PvW
open Go.RowKit Go.Proofs.Ytcffpnlochillaa.Cd Go.Proofs.Ytcffpnlochillaa.AbP Go.Proofs.Ytcffpnlochillaa.Num Go.Proofs.Ytcffpnlochillaa.Pv
variable {K:PV→List OB→Prop}
section
variable {n0 n1 n2 n3 n4 n5 n6 n7 n8 n9:Int}
end
abbrev secW (w:Bool):List Int:=[4,4,wd w,wd w,wd w,wd w,4,4,wd w,wd w]
theorem secW_wide (w:Bool):∀ n ∈ secW w,wideB n=true:=by cases w <;> decide
theorem secW_sum (w:Bool):sumL (secW w)=if w=true then 64 else 40:=by cases w <;> rfl

end Go.Proofs.Ytcffpnlochillaa.PvW
end
section
namespace Go.Proofs.Ytcffpnlochillaa.PvW
open Go.RowKit Go.Proofs.Ytcffpnlochillaa.Cd Go.Proofs.Ytcffpnlochillaa.AbP Go.Proofs.Ytcffpnlochillaa.Num Go.Proofs.Ytcffpnlochillaa.Pv
variable {K:PV→List OB→Prop}
abbrev eSpot (at' c:Int):PV:=.ifc 98 (.ref [.int .i64 at',.int .i64 c] 0)
end Go.Proofs.Ytcffpnlochillaa.PvW
end

/- A heap of plain values, walks over it, and functions of the program met by them: no statement of the set is proved in this text. -/
import Derived.Test.YtcffpnlochillaaKb03
import Derived.Test.YtcffpnlochillaaProg
import Derived.KernelRfl
set_option linter.unusedVariables false
set_option linter.unusedSimpArgs false
set_option maxRecDepth 100000
set_option maxHeartbeats 4000000
section
namespace Go.Proofs.Ytcffpnlochillaa.Cd
open Go.Proofs.Ytcffpnlochillaa.Ab
def prog_Put.c:AC:=(.seq (.reg [xF 2 (.box (T 0)),xF 3 (.box (T 1)),xF 4 (.mv (C (.slice none 0 0))),xF 5 (.mv (C .nilIface))]) (.seq (.reg [xF 13 (.fad 2 (T 2)),xF 14 (.ld none (T 13)),xF 15 (.fad 3 (T 2)),xF 16 (.ld none (T 15)),xF 17 (.fad 4 (T 2)),xF 18 (.ld none (T 17)),xF 19 (.fad 5 (T 2)),xF 20 (.ld none (T 19)),xF 21 (.fad 6 (T 2)),xF 22 (.ld none (T 21)),xF 23 (.fad 7 (T 2)),xF 24 (.ld none (T 23)),xF 25 (.bsl 1 [(T 14),(T 16),(T 18),(T 20),(T 22),(T 24)]),xM 6 25]) (.seq (.reg [xF 26 (.fad 0 (T 2)),xF 27 (.ld none (T 26)),xF 28 (.cvt .u64 (T 27)),xF 29 (.fad 1 (T 3)),xF 30 (.ld none (T 29)),xE 31 (.cal (.func 30) [(T 28),(xZ 4),(T 30)]),xM 7 31]) (.seq (.reg [xF 32 (.fad 1 (T 2)),xF 33 (.ld none (T 32)),xF 34 (.cvt .u64 (T 33)),xF 35 (.fad 1 (T 3)),xF 36 (.ld none (T 35)),xE 37 (.cal (.func 30) [(T 34),(xZ 4),(T 36)]),xM 8 37]) (.seq (.seq (.reg [xF 38 (.fad 0 (T 3)),xF 39 (.ld none (T 38))]) (.cond (T 39) (.seq (.reg [xM 40 7,xM 41 8,xE 42 (.app 1 1 (T 40) (T 41)),xM 7 42]) (.seq (.seq (.reg [xM 43 6,xF 44 (.len false (T 43)),xF 45 (.mv (xZ 0))]) (.block 0 (.loop (.seq (.reg [xF 46 (.bin .lss (T 45) (T 44))]) (.seq (.cond (T 46) .skip (.exit 0)) (.seq (.block 1 (.seq (.reg [xF 47 (.iad 1 (T 43) (T 45)),xF 48 (.ld none (T 47)),xM 10 48]) (.reg [xM 49 7,xM 50 10,xF 51 (.fad 1 (T 3)),xF 52 (.ld none (T 51)),xE 53 (.cal (.func 30) [(T 50),(xZ 8),(T 52)]),xE 54 (.app 1 1 (T 49) (T 53)),xM 7 54]))) (.reg [xF 55 (.bin .add (T 45) (xZ 1)),xM 45 55]))))))) (.seq (.reg [xM 56 7,xM 4 56,xF 5 (.mv (C .nilIface))]) .ret))) .skip)) (.seq (.seq (.reg [xM 57 6,xF 58 (.len false (T 57)),xF 59 (.mv (xZ 0))]) (.block 2 (.loop (.seq (.reg [xF 60 (.bin .lss (T 59) (T 58))]) (.seq (.cond (T 60) .skip (.exit 2)) (.seq (.block 3 (.seq (.reg [xM 61 59,xF 62 (.iad 1 (T 57) (T 59)),xF 63 (.ld none (T 62)),xM 11 61,xM 12 63]) (.seq (.seq (.reg [xM 64 12,xE 65 (.cal (.func 26) [(T 64),(xZ 4)]),xF 66 (.un .not (T 65))]) (.cond (T 66) (.seq (.reg [xF 67 (.mkI 70 (xZ 1)),xF 4 (.mv (C (.slice none 0 0))),xM 5 67]) .ret) .skip)) (.seq (.seq (.reg [xM 68 11,xF 69 (.bin .eql (T 68) (xZ 5))]) (.cond (T 69) (.reg [xM 70 7,xM 71 8,xE 72 (.app 1 1 (T 70) (T 71)),xM 7 72]) .skip)) (.reg [xM 73 7,xM 74 12,xF 75 (.fad 1 (T 3)),xF 76 (.ld none (T 75)),xE 77 (.cal (.func 30) [(T 74),(xZ 4),(T 76)]),xE 78 (.app 1 1 (T 73) (T 77)),xM 7 78]))))) (.reg [xF 79 (.bin .add (T 59) (xZ 1)),xM 59 79]))))))) (.seq (.reg [xM 80 7,xM 4 80,xF 5 (.mv (C .nilIface))]) .ret)))))))
theorem prog_Put.told:IsTold Try.prog 32 81 prog_Put.c [(.tmp 4),(.tmp 5)]:=⟨Try.f32,_,Try.func32,by kernel_rfl,rfl,rfl,by kernel_rfl,by kernel_rfl⟩
def prog_Get.c:AC:=(.seq (.reg [xF 3 (.box (T 0)),xF 4 (.box (T 1)),xF 5 (.box (T 2)),xF 6 (.new [(.int .u32 0),(.int .u32 0),(.int .u64 0),(.int .u64 0),(.int .u64 0),(.int .u64 0),(.int .u64 0),(.int .u64 0)]),xF 7 (.mv (C .nilIface))]) (.seq (.seq (.reg [xF 11 (.ld none (T 4)),xF 12 (.ld (some 2) (T 5)),xF 15 (.ld none (T 3)),xF 16 (.len false (T 15)),xF 17 (.cvt .u64 (T 16)),⟨some 13,none,true,.e (.cal (.func 17) [(T 12)])⟩,xF 14 (.cvt .u64 (T 13)),xE 18 (.cal (.func 18) [(T 11),(T 14),(T 17)]),xF 19 (.un .not (T 18))]) (.cond (T 19) (.seq (.reg [xF 20 (.bld [(.int .u32 0),(.int .u32 0),(.int .u64 0),(.int .u64 0),(.int .u64 0),(.int .u64 0),(.int .u64 0),(.int .u64 0)] [] []),xF 21 (.mkI 70 (xZ 2)),xU (.st 8 (T 6) (T 20)),xM 7 21]) .ret) .skip)) (.seq (.reg [xF 22 (.mkF (.func 38) [] [(T 3),(T 4),(T 5)]),xM 8 22]) (.seq (.reg [xM 23 8,xE 24 (.cal (T 23) [(xZ 4)]),xF 25 (.cvt .u32 (T 24)),xF 26 (.bld [(.int .u32 0),(.int .u32 0),(.int .u64 0),(.int .u64 0),(.int .u64 0),(.int .u64 0),(.int .u64 0),(.int .u64 0)] [(0,1)] [(T 25)]),xF 9 (.new [(.int .u32 0),(.int .u32 0),(.int .u64 0),(.int .u64 0),(.int .u64 0),(.int .u64 0),(.int .u64 0),(.int .u64 0)]),xU (.st 8 (T 9) (T 26))]) (.seq (.reg [xF 10 (.mv (xZ 4))]) (.seq (.seq (.reg [xF 27 (.fad 0 (T 5)),xF 28 (.ld none (T 27))]) (.cond (T 28) (.seq (.reg [xF 10 (.mv (xZ 8))]) (.reg [xM 29 8,xE 30 (.cal (T 29) [(xZ 4)]),xF 31 (.cvt .u32 (T 30)),xF 32 (.fad 1 (T 9)),xU (.st 1 (T 32) (T 31))])) .skip)) (.seq (.reg (xM 33 8::xM 34 10::xE 35 (.cal (T 33) [(T 34)])::xM 36 8::xM 37 10::xE 38 (.cal (T 36) [(T 37)])::xM 39 8::xM 40 10::xE 41 (.cal (T 39) [(T 40)])::xM 42 8::xM 43 10::xE 44 (.cal (T 42) [(T 43)])::xM 45 8::xM 46 10::xE 47 (.cal (T 45) [(T 46)])::xF 48 (.fad 2 (T 9))::xU (.st 1 (T 48) (T 35))::xF 49 (.fad 3 (T 9))::xU (.st 1 (T 49) (T 38))::xF 50 (.fad 4 (T 9))::xU (.st 1 (T 50) (T 41))::xF 51 (.fad 5 (T 9))::xU (.st 1 (T 51) (T 44))::xF 52 (.fad 6 (T 9))::xU (.st 1 (T 52) (T 47))::[])) (.seq (.seq (.reg [xF 53 (.fad 0 (T 5)),xF 54 (.ld none (T 53)),xF 55 (.un .not (T 54))]) (.cond (T 55) (.reg [xM 56 8,xE 57 (.cal (T 56) [(xZ 4)]),xF 58 (.cvt .u32 (T 57)),xF 59 (.fad 1 (T 9)),xU (.st 1 (T 59) (T 58))]) .skip)) (.seq (.reg [xM 60 8,xM 61 10,xE 62 (.cal (T 60) [(T 61)]),xF 63 (.fad 7 (T 9)),xU (.st 1 (T 63) (T 62))]) (.seq (.reg [xF 64 (.ld (some 8) (T 9)),xU (.st 8 (T 6) (T 64)),xF 7 (.mv (C .nilIface))]) .ret))))))))))
theorem prog_Get.told:IsTold Try.prog 19 65 prog_Get.c [(.cell 6 (some 8)),(.tmp 7)]:=⟨Try.f19,_,Try.func19,by kernel_rfl,rfl,rfl,by kernel_rfl,by kernel_rfl⟩
def prog_Get_1.c:AC:=(.seq (.reg [xF 5 (.mv (C (.int .u64 0)))]) (.seq (.reg [xF 9 (.ld none (T 1)),xF 10 (.ld none (T 2)),xM 11 0,xF 12 (.fad 1 (T 3)),xF 13 (.ld none (T 12)),xE 14 (.cal (.func 36) [(T 9),(T 10),(T 11),(T 13)]),xM 8 14,xX 15 8 0,xX 16 8 1,xM 6 15,xM 7 16]) (.seq (.reg [xF 17 (.ld none (T 2)),xM 18 0,xF 19 (.cvt .u64 (T 18)),xF 20 (.bin .add (T 17) (T 19)),xU (.st 1 (T 2) (T 20))]) (.seq (.reg [xM 21 6,xM 5 21]) .ret))))
theorem prog_Get_1.told:IsTold Try.prog 38 22 prog_Get_1.c [(.tmp 5)]:=⟨Try.f38,_,Try.func38,by kernel_rfl,rfl,rfl,by kernel_rfl,by kernel_rfl⟩
end Go.Proofs.Ytcffpnlochillaa.Cd
end
section
namespace Go.Proofs.Ytcffpnlochillaa.Cd
open Go.Proofs.Ytcffpnlochillaa.Ab
def head_Size.c:AC:=(.seq (.reg [xF 1 (.box (T 0)),xF 2 (.mv (xZ 0))]) (.seq (.seq (.reg [xF 3 (.fad 0 (T 1)),xF 4 (.ld none (T 3))]) (.cond (T 4) (.seq (.reg [xF 2 (.mv (xZ 64))]) .ret) .skip)) (.seq (.reg [xF 2 (.mv (xZ 52))]) .ret)))
theorem head_Size.told:IsTold Try.prog 22 5 head_Size.c [(.tmp 2)]:=⟨Try.f22,_,Try.func22,by kernel_rfl,rfl,rfl,by kernel_rfl,by kernel_rfl⟩
def prog_Size.c:AC:=(.seq (.reg [xF 1 (.box (T 0)),xF 2 (.mv (xZ 0))]) (.seq (.seq (.reg [xF 3 (.fad 0 (T 1)),xF 4 (.ld none (T 3))]) (.cond (T 4) (.seq (.reg [xF 2 (.mv (xZ 56))]) .ret) .skip)) (.seq (.reg [xF 2 (.mv (xZ 32))]) .ret)))
theorem prog_Size.told:IsTold Try.prog 17 5 prog_Size.c [(.tmp 2)]:=⟨Try.f17,_,Try.func17,by kernel_rfl,rfl,rfl,by kernel_rfl,by kernel_rfl⟩
def sect_Size.c:AC:=(.seq (.reg [xF 1 (.box (T 0)),xF 2 (.mv (xZ 0))]) (.seq (.seq (.reg [xF 3 (.fad 0 (T 1)),xF 4 (.ld none (T 3))]) (.cond (T 4) (.seq (.reg [xF 2 (.mv (xZ 64))]) .ret) .skip)) (.seq (.reg [xF 2 (.mv (xZ 40))]) .ret)))
theorem sect_Size.told:IsTold Try.prog 24 5 sect_Size.c [(.tmp 2)]:=⟨Try.f24,_,Try.func24,by kernel_rfl,rfl,rfl,by kernel_rfl,by kernel_rfl⟩
end Go.Proofs.Ytcffpnlochillaa.Cd
end
section
namespace Go.Proofs.Ytcffpnlochillaa.PvW
open Go.RowKit Go.Proofs.Ytcffpnlochillaa.Cd Go.Proofs.Ytcffpnlochillaa.AbP Go.Proofs.Ytcffpnlochillaa.Num Go.Proofs.Ytcffpnlochillaa.Pv
variable {K:PV→List OB→Prop}
abbrev hsz (w:Bool):Int:=if w=true then 64 else 52
theorem hsize_spec {w b:Bool} (hk:K (.int .i64 (hsz w)) []):PCalls Try.prog 22 [.agg [.bool w,.bool b]] [] K:=by
  refine told_callP head_Size.told fun Z hZ=>?_
  unfold head_Size.c
  cases w
  all_goals
    refine W1 trivial trivial trivial ?_
    exact hk
theorem psize_spec {w b:Bool} (hk:K (.int .i64 (if w=true then 56 else 32)) []):PCalls Try.prog 17 [.agg [.bool w,.bool b]] [] K:=by
  refine told_callP prog_Size.told fun Z hZ=>?_
  unfold prog_Size.c
  cases w
  all_goals
    refine W1 trivial trivial trivial ?_
    exact hk
theorem ssize_spec {w b:Bool} (hk:K (.int .i64 (if w=true then 64 else 40)) []):PCalls Try.prog 24 [.agg [.bool w,.bool b]] [] K:=by
  refine told_callP sect_Size.told fun Z hZ=>?_
  unfold sect_Size.c
  cases w
  all_goals
    refine W1 trivial trivial trivial ?_
    exact hk
end Go.Proofs.Ytcffpnlochillaa.PvW
end

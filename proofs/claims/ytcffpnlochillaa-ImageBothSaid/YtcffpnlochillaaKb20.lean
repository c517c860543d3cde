/- A heap of plain values, walks over it, and functions of the program met by them: no statement of the set is proved in this text. -/
import Derived.Test.YtcffpnlochillaaKb03
import Derived.Test.YtcffpnlochillaaKb19
import Derived.Test.YtcffpnlochillaaProg
import Derived.KernelRfl
set_option linter.unusedVariables false
set_option linter.unusedSimpArgs false
set_option maxRecDepth 100000
set_option maxHeartbeats 4000000
section
namespace Go.Proofs.Ytcffpnlochillaa.PvW
open Go.RowKit Go.Proofs.Ytcffpnlochillaa.Cd Go.Proofs.Ytcffpnlochillaa.AbP Go.Proofs.Ytcffpnlochillaa.Num Go.Proofs.Ytcffpnlochillaa.Pv
variable {K:PV→List OB→Prop}
section
variable {p0 p1 p2 p3 p4 p5 p6 p7:Int}
end
theorem pget1_spec {w big:Bool} {b:List Int} {a n:Int} (hB:Am (B b)) (hm:Om (b.length≤1000000000000)) (hn:Om (0≤n)) (ha:Om (0≤a)) (hU2:Om (a+n≤18446744073709551615))
    (hk:K (.int .u64 (getSpec b a n big).1) [.var [.sl (.int .u8) b],.var [.int .u64 (a+n)],.var [.bool w,.bool big]]) :
    PCalls Try.prog 38 [.int .i64 n,.ptr 0 0,.ptr 1 0,.ptr 2 0] [.var [.sl (.int .u8) b],.var [.int .u64 a],.var [.bool w,.bool big]] K:=by
  refine told_callS prog_Get_1.told fun Z hZ=>?_
  unfold prog_Get_1.c
  replace hB:=hB.o
  replace hm:=hm.o
  replace hn:=hn.o
  replace ha:=ha.o
  replace hU2:=hU2.o
  refine W1 trivial trivial @get_spec ?_
  exact ⟨_,rfl,rfl,hk⟩
def progW (w:Bool):List Int:=if w=true then [4,4,8,8,8,8,8,8] else [4,4,4,4,4,4,4,4]
theorem progW_wide (w:Bool):∀ n ∈ progW w,wideB n=true:=by cases w <;> decide
theorem progW_sum (w:Bool):sumL (progW w)=if w=true then 56 else 32:=by cases w <;> rfl

def progV (w:Bool) (l:List Int):PV:=if w=true then .agg [.int .u32 (IntKind.u32.wrap (l.getD 0 0)),.int .u32 (IntKind.u32.wrap (l.getD 1 0)),.int .u64 (l.getD 2 0),.int .u64 (l.getD 3 0),.int .u64 (l.getD 4 0),.int .u64 (l.getD 5 0),.int .u64 (l.getD 6 0),.int .u64 (l.getD 7 0)]
  else .agg [.int .u32 (IntKind.u32.wrap (l.getD 0 0)),.int .u32 (IntKind.u32.wrap (l.getD 6 0)),.int .u64 (l.getD 1 0),.int .u64 (l.getD 2 0),.int .u64 (l.getD 3 0),.int .u64 (l.getD 4 0),.int .u64 (l.getD 5 0),.int .u64 (l.getD 7 0)]
def prog0:PV:=.agg [.int .u32 0,.int .u32 0,.int .u64 0,.int .u64 0,.int .u64 0,.int .u64 0,.int .u64 0,.int .u64 0]
theorem pget_spec {w big:Bool} {b:List Int} {a:Int} (hB:Am (B b)) (hm:Om (b.length≤1000000000000)) (ha:Om (0≤a∧a≤18446744073709551615))
    (hk1:a+(if w=true then 56 else 32)≤(b.length:Int)→K (.tup [progV w (gets b big a (progW w)),.nilI]) [])
    (hk2:¬ a+(if w=true then 56 else 32)≤(b.length:Int)→K (.tup [prog0,eCode 2]) []) :
    PCalls Try.prog 19 [.sl (.int .u8) b,.int .u64 a,.agg [.bool w,.bool big]] [] K:=by
  refine told_callP prog_Get.told fun Z hZ=>?_
  unfold prog_Get.c
  replace hB:=hB.o
  replace hm:=hm.o
  obtain ⟨a0,a1⟩:=ha.o
  by_cases hc:a+(if w=true then 56 else 32)≤(b.length:Int)
  · have e:withinB a (if w=true then 56 else 32) b.length=true:=by unfold withinB;cases w <;> simp at hc⊢<;> omega
    have hk:=hk1 hc
    clear hk1 hk2
    cases w
    all_goals
      simp only [↓reduceIte,Bool.false_eq_true] at hc e
      refine W1 @e trivial (And.intro @psize_spec @within_spec) ?_
      iterate 8
        (apply cf_S [0,1,2];(repeat any_goals first | exact mp_z | apply mp_s | exact rs_z | apply rs_t | apply rs_n | apply rs_c);(repeat any_goals first | (apply Lk.i;(simp only [↓LL,↓reduceIte,Nat.reduceEqDiff];(try rfl);done)) | (apply Rf.i;first | rfl | assumption) | (apply Vl.i;((try simp (disch:=omega) only [VV,↓reduceIte,peqI,encP]);(try rfl);done)) | (apply Am.i;assumption) | (apply Pu.i;((try simp only [↓reduceIte,UU,RR,Nat.reduceAdd,Nat.reduceEqDiff,cellsP,putP,fillQ,flatQ,shP,sh1,encP]);(try rfl);done)) | (apply Om.i;((try simp only [MM]);(try omega);done)) | (apply Vw.i;exact VwA));(all_goals fail_if_success apply Mk.i))
        refine pget1_spec ⟨hB⟩ ⟨hm⟩ ⟨by omega⟩ ⟨by omega⟩ ⟨by omega⟩ ?_
        refine W1 trivial trivial trivial ?_
      exact hk
  · have e:withinB a (if w=true then 56 else 32) b.length=false:=by unfold withinB;rw [Bool.and_eq_false_iff];cases w <;> simp at hc⊢<;> omega
    have hk:=hk2 hc
    clear hk1 hk2
    refine W1 @e trivial (And.intro @psize_spec @within_spec) ?_
    exact hk
end Go.Proofs.Ytcffpnlochillaa.PvW
end
section
namespace Go.Proofs.Ytcffpnlochillaa.Cd
open Go.Proofs.Ytcffpnlochillaa.Ab
def sect_word.c:AC:=(.seq (.reg [xF 1 (.box (T 0)),xF 2 (.mv (xZ 0))]) (.seq (.seq (.reg [xF 3 (.fad 0 (T 1)),xF 4 (.ld none (T 3))]) (.cond (T 4) (.seq (.reg [xF 2 (.mv (xZ 8))]) .ret) .skip)) (.seq (.reg [xF 2 (.mv (xZ 4))]) .ret)))
theorem sect_word.told:IsTold Try.prog 43 5 sect_word.c [(.tmp 2)]:=⟨Try.f43,_,Try.func43,by kernel_rfl,rfl,rfl,by kernel_rfl,by kernel_rfl⟩
def sect_Put.c:AC:=(.seq (.reg [xF 2 (.box (T 0)),xF 3 (.box (T 1)),xF 4 (.mv (C (.slice none 0 0))),xF 5 (.mv (C .nilIface))]) (.seq (.reg [xF 9 (.ld (some 2) (T 3)),xE 10 (.cal (.func 43) [(T 9)]),xM 6 10]) (.seq (.reg [xF 7 (.new [(.slice none 0 0)])]) (.seq (.reg [xF 11 (.mkF (.func 44) [] [(T 7),(T 3)]),xM 8 11]) (.seq (.seq (.reg (xM 12 8::xF 13 (.fad 0 (T 2))::xF 14 (.ld none (T 13))::xF 15 (.cvt .u64 (T 14))::xF 16 (.fad 1 (T 2))::xF 17 (.ld none (T 16))::xF 18 (.cvt .u64 (T 17))::xF 19 (.bsl 1 [(T 15),(T 18)])::xE 20 (.cal (T 12) [(xZ 4),(T 19)])::xF 21 (.un .not (T 20))::xM 22 21::xN 23 22 false 8::xN 24 22 false 6::xG 25 22 false (.fad 2 (T 2))::xG 26 22 false (.ld none (T 25))::xG 27 22 false (.fad 3 (T 2))::xG 28 22 false (.ld none (T 27))::xG 29 22 false (.fad 4 (T 2))::xG 30 22 false (.ld none (T 29))::xG 31 22 false (.fad 5 (T 2))::xG 32 22 false (.ld none (T 31))::xG 33 22 false (.bsl 1 [(T 26),(T 28),(T 30),(T 32)])::⟨some 34,some (22,false),false,.e (.cal (T 23) [(T 24),(T 33)])⟩::xG 35 22 false (.un .not (T 34))::xF 36 (.pick (T 22) (C (.bool true)) (T 35))::xM 37 36::xN 38 37 false 8::xG 39 37 false (.fad 6 (T 2))::xG 40 37 false (.ld none (T 39))::xG 41 37 false (.cvt .u64 (T 40))::xG 42 37 false (.fad 7 (T 2))::xG 43 37 false (.ld none (T 42))::xG 44 37 false (.cvt .u64 (T 43))::xG 45 37 false (.bsl 1 [(T 41),(T 44)])::⟨some 46,some (37,false),false,.e (.cal (T 38) [(xZ 4),(T 45)])⟩::xG 47 37 false (.un .not (T 46))::xF 48 (.pick (T 37) (C (.bool true)) (T 47))::xM 49 48::xN 50 49 false 8::xN 51 49 false 6::xG 52 49 false (.fad 8 (T 2))::xG 53 49 false (.ld none (T 52))::xG 54 49 false (.fad 9 (T 2))::xG 55 49 false (.ld none (T 54))::xG 56 49 false (.bsl 1 [(T 53),(T 55)])::⟨some 57,some (49,false),false,.e (.cal (T 50) [(T 51),(T 56)])⟩::xG 58 49 false (.un .not (T 57))::xF 59 (.pick (T 49) (C (.bool true)) (T 58))::[])) (.cond (T 59) (.seq (.reg [xF 60 (.mkI 70 (xZ 1)),xF 4 (.mv (C (.slice none 0 0))),xM 5 60]) .ret) .skip)) (.seq (.reg [xF 61 (.ld none (T 7)),xM 4 61,xF 5 (.mv (C .nilIface))]) .ret))))))
theorem sect_Put.told:IsTold Try.prog 33 62 sect_Put.c [(.tmp 4),(.tmp 5)]:=⟨Try.f33,_,Try.func33,by kernel_rfl,rfl,rfl,by kernel_rfl,by kernel_rfl⟩
def sect_Put_1.c:AC:=(.seq (.reg [xF 6 (.mv (C (.bool false)))]) (.seq (.seq (.reg [xM 9 1,xF 10 (.len false (T 9)),xF 11 (.mv (xZ 0))]) (.block 0 (.loop (.seq (.reg [xF 12 (.bin .lss (T 11) (T 10))]) (.seq (.cond (T 12) .skip (.exit 0)) (.seq (.block 1 (.seq (.reg [xF 13 (.iad 1 (T 9) (T 11)),xF 14 (.ld none (T 13)),xM 8 14]) (.seq (.seq (.reg [xM 15 8,xM 16 0,xE 17 (.cal (.func 26) [(T 15),(T 16)]),xF 18 (.un .not (T 17))]) (.cond (T 18) (.seq (.reg [xF 6 (.mv (C (.bool false)))]) .ret) .skip)) (.reg [xF 19 (.ld none (T 2)),xM 20 8,xM 21 0,xF 22 (.fad 1 (T 3)),xF 23 (.ld none (T 22)),⟨some 24,none,true,.e (.cal (.func 30) [(T 20),(T 21),(T 23)])⟩,xE 25 (.app 1 1 (T 19) (T 24)),xU (.st 1 (T 2) (T 25))])))) (.reg [xF 26 (.bin .add (T 11) (xZ 1)),xM 11 26]))))))) (.seq (.reg [xF 6 (.mv (C (.bool true)))]) .ret)))
theorem sect_Put_1.told:IsTold Try.prog 44 27 sect_Put_1.c [(.tmp 6)]:=⟨Try.f44,_,Try.func44,by kernel_rfl,rfl,rfl,by kernel_rfl,by kernel_rfl⟩
end Go.Proofs.Ytcffpnlochillaa.Cd
end

/- A heap of plain values, walks over it, and functions of the program met by them: no statement of the set is proved in this text. -/
import Derived.Test.YtcffpnlochillaaGreatDoorKb03
import Derived.Test.YtcffpnlochillaaGreatDoorKb08
import Derived.Test.YtcffpnlochillaaGreatDoorProg
import Derived.KernelRfl
set_option linter.unusedVariables false
set_option linter.unusedSimpArgs false
set_option maxRecDepth 100000
set_option maxHeartbeats 4000000
section
namespace Go.Proofs.YtcffpnlochillaaGreatDoor.Cd
open Go.Proofs.YtcffpnlochillaaGreatDoor.Ab
def prog_Put.c:AC:=(.seq (.reg [xF 2 (.box (T 0)),xF 3 (.box (T 1)),xF 4 (.mv (C (.slice none 0 0))),xF 5 (.mv (C .nilIface))]) (.seq (.reg [xF 13 (.fad 2 (T 2)),xF 14 (.ld none (T 13)),xF 15 (.fad 3 (T 2)),xF 16 (.ld none (T 15)),xF 17 (.fad 4 (T 2)),xF 18 (.ld none (T 17)),xF 19 (.fad 5 (T 2)),xF 20 (.ld none (T 19)),xF 21 (.fad 6 (T 2)),xF 22 (.ld none (T 21)),xF 23 (.fad 7 (T 2)),xF 24 (.ld none (T 23)),xF 25 (.bsl 1 [(T 14),(T 16),(T 18),(T 20),(T 22),(T 24)]),xM 6 25]) (.seq (.reg [xF 26 (.fad 0 (T 2)),xF 27 (.ld none (T 26)),xF 28 (.cvt .u64 (T 27)),xF 29 (.fad 1 (T 3)),xF 30 (.ld none (T 29)),xE 31 (.cal (.func 88) [(T 28),(xZ 4),(T 30)]),xM 7 31]) (.seq (.reg [xF 32 (.fad 1 (T 2)),xF 33 (.ld none (T 32)),xF 34 (.cvt .u64 (T 33)),xF 35 (.fad 1 (T 3)),xF 36 (.ld none (T 35)),xE 37 (.cal (.func 88) [(T 34),(xZ 4),(T 36)]),xM 8 37]) (.seq (.seq (.reg [xF 38 (.fad 0 (T 3)),xF 39 (.ld none (T 38))]) (.cond (T 39) (.seq (.reg [xM 40 7,xM 41 8,xE 42 (.app 1 1 (T 40) (T 41)),xM 7 42]) (.seq (.seq (.reg [xM 43 6,xF 44 (.len false (T 43)),xF 45 (.mv (xZ 0))]) (.block 0 (.loop (.seq (.reg [xF 46 (.bin .lss (T 45) (T 44))]) (.seq (.cond (T 46) .skip (.exit 0)) (.seq (.block 1 (.seq (.reg [xF 47 (.iad 1 (T 43) (T 45)),xF 48 (.ld none (T 47)),xM 10 48]) (.reg [xM 49 7,xM 50 10,xF 51 (.fad 1 (T 3)),xF 52 (.ld none (T 51)),xE 53 (.cal (.func 88) [(T 50),(xZ 8),(T 52)]),xE 54 (.app 1 1 (T 49) (T 53)),xM 7 54]))) (.reg [xF 55 (.bin .add (T 45) (xZ 1)),xM 45 55]))))))) (.seq (.reg [xM 56 7,xM 4 56,xF 5 (.mv (C .nilIface))]) .ret))) .skip)) (.seq (.seq (.reg [xM 57 6,xF 58 (.len false (T 57)),xF 59 (.mv (xZ 0))]) (.block 2 (.loop (.seq (.reg [xF 60 (.bin .lss (T 59) (T 58))]) (.seq (.cond (T 60) .skip (.exit 2)) (.seq (.block 3 (.seq (.reg [xM 61 59,xF 62 (.iad 1 (T 57) (T 59)),xF 63 (.ld none (T 62)),xM 11 61,xM 12 63]) (.seq (.seq (.reg [xM 64 12,xE 65 (.cal (.func 84) [(T 64),(xZ 4)]),xF 66 (.un .not (T 65))]) (.cond (T 66) (.seq (.reg [xF 67 (.mkI 96 (xZ 1)),xF 4 (.mv (C (.slice none 0 0))),xM 5 67]) .ret) .skip)) (.seq (.seq (.reg [xM 68 11,xF 69 (.bin .eql (T 68) (xZ 5))]) (.cond (T 69) (.reg [xM 70 7,xM 71 8,xE 72 (.app 1 1 (T 70) (T 71)),xM 7 72]) .skip)) (.reg [xM 73 7,xM 74 12,xF 75 (.fad 1 (T 3)),xF 76 (.ld none (T 75)),xE 77 (.cal (.func 88) [(T 74),(xZ 4),(T 76)]),xE 78 (.app 1 1 (T 73) (T 77)),xM 7 78]))))) (.reg [xF 79 (.bin .add (T 59) (xZ 1)),xM 59 79]))))))) (.seq (.reg [xM 80 7,xM 4 80,xF 5 (.mv (C .nilIface))]) .ret)))))))
theorem prog_Put.told:IsTold Tryz.prog 90 81 prog_Put.c [(.tmp 4),(.tmp 5)]:=⟨Tryz.f90,_,Tryz.func90,by kernel_rfl,rfl,rfl,by kernel_rfl,by kernel_rfl⟩
def prog_Get.c:AC:=(.seq (.reg [xF 3 (.box (T 0)),xF 4 (.box (T 1)),xF 5 (.box (T 2)),xF 6 (.new [(.int .u32 0),(.int .u32 0),(.int .u64 0),(.int .u64 0),(.int .u64 0),(.int .u64 0),(.int .u64 0),(.int .u64 0)]),xF 7 (.mv (C .nilIface))]) (.seq (.seq (.reg [xF 11 (.ld none (T 4)),xF 12 (.ld (some 2) (T 5)),xF 15 (.ld none (T 3)),xF 16 (.len false (T 15)),xF 17 (.cvt .u64 (T 16)),⟨some 13,none,true,.e (.cal (.func 53) [(T 12)])⟩,xF 14 (.cvt .u64 (T 13)),xE 18 (.cal (.func 54) [(T 11),(T 14),(T 17)]),xF 19 (.un .not (T 18))]) (.cond (T 19) (.seq (.reg [xF 20 (.bld [(.int .u32 0),(.int .u32 0),(.int .u64 0),(.int .u64 0),(.int .u64 0),(.int .u64 0),(.int .u64 0),(.int .u64 0)] [] []),xF 21 (.mkI 96 (xZ 2)),xU (.st 8 (T 6) (T 20)),xM 7 21]) .ret) .skip)) (.seq (.reg [xF 22 (.mkF (.func 111) [] [(T 3),(T 4),(T 5)]),xM 8 22]) (.seq (.reg [xM 23 8,xE 24 (.cal (T 23) [(xZ 4)]),xF 25 (.cvt .u32 (T 24)),xF 26 (.bld [(.int .u32 0),(.int .u32 0),(.int .u64 0),(.int .u64 0),(.int .u64 0),(.int .u64 0),(.int .u64 0),(.int .u64 0)] [(0,1)] [(T 25)]),xF 9 (.new [(.int .u32 0),(.int .u32 0),(.int .u64 0),(.int .u64 0),(.int .u64 0),(.int .u64 0),(.int .u64 0),(.int .u64 0)]),xU (.st 8 (T 9) (T 26))]) (.seq (.reg [xF 10 (.mv (xZ 4))]) (.seq (.seq (.reg [xF 27 (.fad 0 (T 5)),xF 28 (.ld none (T 27))]) (.cond (T 28) (.seq (.reg [xF 10 (.mv (xZ 8))]) (.reg [xM 29 8,xE 30 (.cal (T 29) [(xZ 4)]),xF 31 (.cvt .u32 (T 30)),xF 32 (.fad 1 (T 9)),xU (.st 1 (T 32) (T 31))])) .skip)) (.seq (.reg (xM 33 8::xM 34 10::xE 35 (.cal (T 33) [(T 34)])::xM 36 8::xM 37 10::xE 38 (.cal (T 36) [(T 37)])::xM 39 8::xM 40 10::xE 41 (.cal (T 39) [(T 40)])::xM 42 8::xM 43 10::xE 44 (.cal (T 42) [(T 43)])::xM 45 8::xM 46 10::xE 47 (.cal (T 45) [(T 46)])::xF 48 (.fad 2 (T 9))::xU (.st 1 (T 48) (T 35))::xF 49 (.fad 3 (T 9))::xU (.st 1 (T 49) (T 38))::xF 50 (.fad 4 (T 9))::xU (.st 1 (T 50) (T 41))::xF 51 (.fad 5 (T 9))::xU (.st 1 (T 51) (T 44))::xF 52 (.fad 6 (T 9))::xU (.st 1 (T 52) (T 47))::[])) (.seq (.seq (.reg [xF 53 (.fad 0 (T 5)),xF 54 (.ld none (T 53)),xF 55 (.un .not (T 54))]) (.cond (T 55) (.reg [xM 56 8,xE 57 (.cal (T 56) [(xZ 4)]),xF 58 (.cvt .u32 (T 57)),xF 59 (.fad 1 (T 9)),xU (.st 1 (T 59) (T 58))]) .skip)) (.seq (.reg [xM 60 8,xM 61 10,xE 62 (.cal (T 60) [(T 61)]),xF 63 (.fad 7 (T 9)),xU (.st 1 (T 63) (T 62))]) (.seq (.reg [xF 64 (.ld (some 8) (T 9)),xU (.st 8 (T 6) (T 64)),xF 7 (.mv (C .nilIface))]) .ret))))))))))
theorem prog_Get.told:IsTold Tryz.prog 55 65 prog_Get.c [(.cell 6 (some 8)),(.tmp 7)]:=⟨Tryz.f55,_,Tryz.func55,by kernel_rfl,rfl,rfl,by kernel_rfl,by kernel_rfl⟩
def prog_Get_1.c:AC:=(.seq (.reg [xF 5 (.mv (C (.int .u64 0)))]) (.seq (.reg [xF 9 (.ld none (T 1)),xF 10 (.ld none (T 2)),xM 11 0,xF 12 (.fad 1 (T 3)),xF 13 (.ld none (T 12)),xE 14 (.cal (.func 94) [(T 9),(T 10),(T 11),(T 13)]),xM 8 14,xX 15 8 0,xX 16 8 1,xM 6 15,xM 7 16]) (.seq (.reg [xF 17 (.ld none (T 2)),xM 18 0,xF 19 (.cvt .u64 (T 18)),xF 20 (.bin .add (T 17) (T 19)),xU (.st 1 (T 2) (T 20))]) (.seq (.reg [xM 21 6,xM 5 21]) .ret))))
theorem prog_Get_1.told:IsTold Tryz.prog 111 22 prog_Get_1.c [(.tmp 5)]:=⟨Tryz.f111,_,Tryz.func111,by kernel_rfl,rfl,rfl,by kernel_rfl,by kernel_rfl⟩
end Go.Proofs.YtcffpnlochillaaGreatDoor.Cd
end
section
namespace Go.Proofs.YtcffpnlochillaaGreatDoor.Cd
open Go.Proofs.YtcffpnlochillaaGreatDoor.Ab
def head_Size.c:AC:=(.seq (.reg [xF 1 (.box (T 0)),xF 2 (.mv (xZ 0))]) (.seq (.seq (.reg [xF 3 (.fad 0 (T 1)),xF 4 (.ld none (T 3))]) (.cond (T 4) (.seq (.reg [xF 2 (.mv (xZ 64))]) .ret) .skip)) (.seq (.reg [xF 2 (.mv (xZ 52))]) .ret)))
theorem head_Size.told:IsTold Tryz.prog 80 5 head_Size.c [(.tmp 2)]:=⟨Tryz.f80,_,Tryz.func80,by kernel_rfl,rfl,rfl,by kernel_rfl,by kernel_rfl⟩
def prog_Size.c:AC:=(.seq (.reg [xF 1 (.box (T 0)),xF 2 (.mv (xZ 0))]) (.seq (.seq (.reg [xF 3 (.fad 0 (T 1)),xF 4 (.ld none (T 3))]) (.cond (T 4) (.seq (.reg [xF 2 (.mv (xZ 56))]) .ret) .skip)) (.seq (.reg [xF 2 (.mv (xZ 32))]) .ret)))
theorem prog_Size.told:IsTold Tryz.prog 53 5 prog_Size.c [(.tmp 2)]:=⟨Tryz.f53,_,Tryz.func53,by kernel_rfl,rfl,rfl,by kernel_rfl,by kernel_rfl⟩
def sect_Size.c:AC:=(.seq (.reg [xF 1 (.box (T 0)),xF 2 (.mv (xZ 0))]) (.seq (.seq (.reg [xF 3 (.fad 0 (T 1)),xF 4 (.ld none (T 3))]) (.cond (T 4) (.seq (.reg [xF 2 (.mv (xZ 64))]) .ret) .skip)) (.seq (.reg [xF 2 (.mv (xZ 40))]) .ret)))
theorem sect_Size.told:IsTold Tryz.prog 82 5 sect_Size.c [(.tmp 2)]:=⟨Tryz.f82,_,Tryz.func82,by kernel_rfl,rfl,rfl,by kernel_rfl,by kernel_rfl⟩
end Go.Proofs.YtcffpnlochillaaGreatDoor.Cd
end
section
namespace Go.Proofs.YtcffpnlochillaaGreatDoor.PvW
open Go.RowKit Go.Proofs.YtcffpnlochillaaGreatDoor.Cd Go.Proofs.YtcffpnlochillaaGreatDoor.AbP Go.Proofs.YtcffpnlochillaaGreatDoor.Num Go.Proofs.YtcffpnlochillaaGreatDoor.Pv
variable {K:PV→List OB→Prop}
abbrev hsz (w:Bool):Int:=if w=true then 64 else 52
theorem hsize_spec {w b:Bool} (hk:K (.int .i64 (hsz w)) []):PCalls Tryz.prog 80 [.agg [.bool w,.bool b]] [] K:=by
  refine told_callP head_Size.told fun Z hZ=>?_
  unfold head_Size.c
  cases w
  all_goals
    refine W1 trivial trivial trivial ?_
    exact hk
theorem psize_spec {w b:Bool} (hk:K (.int .i64 (if w=true then 56 else 32)) []):PCalls Tryz.prog 53 [.agg [.bool w,.bool b]] [] K:=by
  refine told_callP prog_Size.told fun Z hZ=>?_
  unfold prog_Size.c
  cases w
  all_goals
    refine W1 trivial trivial trivial ?_
    exact hk
theorem ssize_spec {w b:Bool} (hk:K (.int .i64 (if w=true then 64 else 40)) []):PCalls Tryz.prog 82 [.agg [.bool w,.bool b]] [] K:=by
  refine told_callP sect_Size.told fun Z hZ=>?_
  unfold sect_Size.c
  cases w
  all_goals
    refine W1 trivial trivial trivial ?_
    exact hk
end Go.Proofs.YtcffpnlochillaaGreatDoor.PvW
end
section
namespace Go.Proofs.YtcffpnlochillaaGreatDoor.PvW
open Go.RowKit Go.Proofs.YtcffpnlochillaaGreatDoor.Cd Go.Proofs.YtcffpnlochillaaGreatDoor.AbP Go.Proofs.YtcffpnlochillaaGreatDoor.Num Go.Proofs.YtcffpnlochillaaGreatDoor.Pv
variable {K:PV→List OB→Prop}
section
variable {p0 p1 p2 p3 p4 p5 p6 p7:Int}
def progP (w:Bool) (p0 p1 p2 p3 p4 p5 p6 p7:Int):List (Int×Int):=if w=true then prs 4 [p0,p1]++prs 8 [p2,p3,p4,p5,p6,p7] else prs 4 [p0,p2,p3,p4,p5,p6,p1,p7]
def progF (big:Bool) (p0 p1:Int) (l:List Int) (i:Nat):List Int:=putSpec p0 4 big++(if i≤5 then rowB big (prs 4 (l.take i)) else rowB big (prs 4 (l.take 5))++(putSpec p1 4 big++putSpec (l.getD 5 0) 4 big))
theorem rowB_prs_take {n:Int} {l:List Int} {i:Nat} (big:Bool) (h:i < l.length):rowB big (prs n (l.take (i+1)))=rowB big (prs n (l.take i))++putSpec (l.getD i 0) n big:=by
  rw [prs_take h,rowB_app]
  simp [rowB]
theorem rowB_prs_le {n:Int} {l:List Int} (big:Bool):(rowB big (prs n l)).length≤8 * l.length:=by
  have:=rowB_le big (prs n l)
  simpa [prs] using this
theorem rowOk_prs_bad {n:Int} {l:List Int} {i:Nat} (h:i < l.length) (hb:fitsB (l.getD i 0) n=false):rowOk (prs n l)=false:=by
  have hm:=getD_mem h
  cases hr:rowOk (prs n l) with
  | false=>rfl
  | true =>
    have:=List.all_eq_true.1 hr (l.getD i 0,n) (List.mem_map.2 ⟨_,hm,rfl⟩)
    rw [show fitsB (l.getD i 0) n=true from this] at hb
    cases hb
theorem progF_len (big:Bool) (p0 p1:Int) (l:List Int) (i:Nat) (hl:l.length=6):(progF big p0 p1 l i).length≤100:=by
  unfold progF
  have h0:=putSpec_le p0 4 big
  have h1:=putSpec_le p1 4 big
  have h2:=putSpec_le (l.getD 5 0) 4 big
  have h3:=rowB_prs_le (n:=4) (l:=l.take i) big
  have h4:=rowB_prs_le (n:=4) (l:=l.take 5) big
  simp only [List.length_take] at h3 h4
  split
  · simp only [List.length_append];omega
  · simp only [List.length_append];omega
theorem progF_lt {big:Bool} {p0 p1:Int} {l:List Int} {i:Nat} (hl:l.length=6) (h:i < 5):progF big p0 p1 l i++putSpec (l.getD i 0) 4 big=progF big p0 p1 l (i+1):=by
  unfold progF
  rw [if_pos (by omega),if_pos (by omega),rowB_prs_take big (by omega),List.append_assoc]
theorem progF_5 {big:Bool} {p0 p1:Int} {l:List Int} {i:Nat} (h:i=5):(progF big p0 p1 l i++putSpec p1 4 big)++putSpec (l.getD i 0) 4 big=progF big p0 p1 l (i+1):=by
  subst h
  unfold progF
  rw [if_pos (by omega),if_neg (by omega)]
  simp only [List.append_assoc]
theorem fits4' {x:Int} (h0:x≤4294967295):fitsB x 4=true:=by
  unfold fitsB
  rw [show wideB 4=true from rfl,Bool.true_and]
  exact decide_eq_true (by have : (256 : Int) ^ (4 : Int).toNat = 4294967296 := by decide
                           omega)
theorem fits8' {x:Int} (h0:U64 x):fitsB x 8=true:=by
  unfold fitsB
  rw [show wideB 8=true from rfl,Bool.true_and]
  exact decide_eq_true (by have : (256 : Int) ^ (8 : Int).toNat = 18446744073709551616 := by decide
                           have:=h0.2
                           omega)
theorem pput_spec {w big:Bool} (hU:Am (∀ x ∈ [p0,p1,p2,p3,p4,p5,p6,p7],U64 x)) (h0:Om (p0≤4294967295)) (h1:Om (p1≤4294967295))
    (hk1:rowOk (progP w p0 p1 p2 p3 p4 p5 p6 p7)=true→K (.tup [.osl 0 (rowB big (progP w p0 p1 p2 p3 p4 p5 p6 p7)).length,.nilI]) [.arr (.int .u8) (rowB big (progP w p0 p1 p2 p3 p4 p5 p6 p7))])
    (hk2:rowOk (progP w p0 p1 p2 p3 p4 p5 p6 p7)=false→K (.tup [.nilS,eCode 1]) []) :
    PCalls Tryz.prog 90 [.agg [.int .u32 p0,.int .u32 p1,.int .u64 p2,.int .u64 p3,.int .u64 p4,.int .u64 p5,.int .u64 p6,.int .u64 p7],.agg [.bool w,.bool big]] [] K:=by
  have hV:=hU.o
  simp only [List.forall_mem_cons,U64] at hV
  obtain ⟨g0,g1,g2,g3,g4,g5,g6,g7,_⟩:=hV
  replace hU:=hU.o
  replace h0:=h0.o
  replace h1:=h1.o
  refine told_callP prog_Put.told fun Z hZ=>?_
  unfold prog_Put.c
  have l0:=putSpec_le p0 4 big
  have l1:=putSpec_le p1 4 big
  have hz:∀ b,b < Z.s.length→[0,1,2,3,4][b]? = some b:=hz0 hZ
  obtain ⟨l,hl⟩:∃ l:List Int,l=[p2,p3,p4,p5,p6,p7]:=⟨_,rfl⟩
  have hl6:l.length=6:=by rw [hl];rfl
  have hlU:∀ x ∈ l,U64 x:=by intro x hx;rw [hl] at hx;exact hU x (by simp at hx ⊢;omega)
  cases w
  · refine W1 trivial @DD @put_spec ?_
    apply x_arr 2 (.int .u64);(repeat any_goals first | exact mp_z | apply mp_s | exact rs_z | apply rs_t | apply rs_n | apply rs_c);(repeat any_goals first | (apply Lk.i;(simp only [↓LL,↓reduceIte,Nat.reduceEqDiff];(try rfl);done)) | (apply Rf.i;first | rfl | assumption) | (apply Vl.i;((try simp (disch:=omega) only [VV,↓reduceIte,peqI,encP]);(try rfl);done)) | (apply Am.i;assumption) | (apply Pu.i;((try simp only [↓reduceIte,UU,RR,Nat.reduceAdd,Nat.reduceEqDiff,cellsP,putP,fillQ,flatQ,shP,sh1,encP]);(try rfl);done)) | (apply Om.i;((try simp only [MM]);(try omega);done)) | (apply Vw.i;exact VwA));(all_goals fail_if_success apply Mk.i)
    rw [← hl]
    refine W1 trivial trivial trivial ?_
    refine w_lpG (fun q e s=>∃ i:Nat,q+i=6∧rowOk (prs 4 (l.take i))=true∧s=[.var [.int .u32 p0,.int .u32 p1,.int .u64 p2,.int .u64 p3,.int .u64 p4,.int .u64 p5,.int .u64 p6,.int .u64 p7],.var [.bool false,.bool big],.arr (.int .u64) l,.arr (.int .u8) (progF big p0 p1 l i),.arr (.int .u8) (putSpec p1 4 big)]∧e 3 = .ptr 1 0∧e 7 = .osl 3 (progF big p0 p1 l i).length∧e 8 = .osl 4 (putSpec p1 4 big).length∧e 57 = .osl 2 6∧e 58 = .int .i64 6∧e 59 = .int .i64 i) 6 ?_ ?_
    · have e0:progF big p0 p1 l 0=putSpec p0 4 big:=by simp [progF,prs,rowB]
      exact ⟨0,rfl,rfl,by rw [e0],by exact lk trivial,by (rw [e0];exact lk trivial),by exact lk trivial,by exact lk trivial,by exact lk trivial,by exact lk trivial⟩
    rintro q e s ⟨i,hi,hok,rfl,e3,e7,e8,e57,e58,e59⟩
    have hF:=progF_len big p0 p1 l i hl6
    by_cases hq:i < 6
    · have hil:i < l.length:=by omega
      have hu:=hlU _ (getD_mem hil)
      unfold U64 at hu
      have hp:=putSpec_le (l.getD i 0) 4 big
      cases hfit:fitsB (l.getD i 0) 4
      · have hbad:=rowOk_prs_bad hil hfit
        refine W1 (And.intro @e3 (And.intro @e7 (And.intro @e8 (And.intro @e57 (And.intro @e58 (And.intro @e59 @hfit)))))) @DD @fits_spec ?_
        refine hk2 ?_
        rw [hl] at hbad
        simp only [progP,rowOk,prs,List.map_cons,List.map_nil,List.all_cons,List.all_nil,if_neg,Bool.false_eq_true,not_false_eq_true,fits4' h0,fits4' h1,Bool.true_and,Bool.and_true] at hbad ⊢
        exact hbad
      · have hok':rowOk (prs 4 (l.take (i+1)))=true:=by
          rw [prs_take hil,rowOk_app,hok]
          simp only [rowOk,List.all_cons,List.all_nil,hfit,Bool.and_true]
        by_cases h5:i=5
        · refine W1 (And.intro @e3 (And.intro @e7 (And.intro @e8 (And.intro @e57 (And.intro @e58 (And.intro @e59 @hfit)))))) @DD (And.intro @fits_spec @put_spec) ?_
          refine ⟨q - 1,by omega,_,_,Gh.sel [0,1,2,3,4] (by decide) hz,i+1,by omega,hok',?_,by exact lk @e3,(by rw [← progF_5 h5];simp only [List.length_append];exact lk @e7),by exact lk @e8,by exact lk @e57,by exact lk @e58,by exact lk @e59⟩
          rw [← progF_5 h5]
          rfl
        · refine W1 (And.intro @e3 (And.intro @e7 (And.intro @e8 (And.intro @e57 (And.intro @e58 (And.intro @e59 @hfit)))))) @DD (And.intro @fits_spec @put_spec) ?_
          refine ⟨q - 1,by omega,_,_,Gh.sel [0,1,2,3,4] (by decide) hz,i+1,by omega,hok',?_,by exact lk @e3,(by rw [← progF_lt hl6 (by omega)];simp only [List.length_append];exact lk @e7),by exact lk @e8,by exact lk @e57,by exact lk @e58,by exact lk @e59⟩
          rw [← progF_lt hl6 (by omega)]
          rfl
    · obtain rfl:i=6:=by omega
      have hout:progF big p0 p1 l 6=rowB big (progP false p0 p1 p2 p3 p4 p5 p6 p7):=by
        rw [hl]
        simp [progF,progP,prs,rowB]
      have hokk:rowOk (progP false p0 p1 p2 p3 p4 p5 p6 p7)=true:=by
        rw [hl] at hok
        simp only [progP,rowOk,prs,List.take,List.map_cons,List.map_nil,List.all_cons,List.all_nil,if_neg,Bool.false_eq_true,not_false_eq_true,fits4' h0,fits4' h1,Bool.true_and,Bool.and_true] at hok ⊢
        exact hok
      rw [hout] at e7 ⊢
      refine W1 (And.intro @e3 (And.intro @e7 (And.intro @e8 (And.intro @e57 (And.intro @e58 @e59))))) @DD trivial ?_
      exact hk1 hokk
  · refine W1 trivial @DD @put_spec ?_
    apply x_arr 2 (.int .u64);(repeat any_goals first | exact mp_z | apply mp_s | exact rs_z | apply rs_t | apply rs_n | apply rs_c);(repeat any_goals first | (apply Lk.i;(simp only [↓LL,↓reduceIte,Nat.reduceEqDiff];(try rfl);done)) | (apply Rf.i;first | rfl | assumption) | (apply Vl.i;((try simp (disch:=omega) only [VV,↓reduceIte,peqI,encP]);(try rfl);done)) | (apply Am.i;assumption) | (apply Pu.i;((try simp only [↓reduceIte,UU,RR,Nat.reduceAdd,Nat.reduceEqDiff,cellsP,putP,fillQ,flatQ,shP,sh1,encP]);(try rfl);done)) | (apply Om.i;((try simp only [MM]);(try omega);done)) | (apply Vw.i;exact VwA));(all_goals fail_if_success apply Mk.i)
    rw [← hl]
    refine W1 trivial trivial trivial ?_
    have hc:∀ i,(putSpec p0 4 big++putSpec p1 4 big++rowB big (prs 8 (l.take i))).length≤100:=fun i=>by
      have h3:=rowB_prs_le (n:=8) (l:=l.take i) big
      simp only [List.length_take] at h3
      simp only [List.length_append]
      omega
    refine w_lpG (fun q e s=>∃ i:Nat,q+i=6∧s=[.var [.int .u32 p0,.int .u32 p1,.int .u64 p2,.int .u64 p3,.int .u64 p4,.int .u64 p5,.int .u64 p6,.int .u64 p7],.var [.bool true,.bool big],.arr (.int .u64) l,.arr (.int .u8) (putSpec p0 4 big++putSpec p1 4 big++rowB big (prs 8 (l.take i))),.arr (.int .u8) (putSpec p1 4 big)]∧e 3 = .ptr 1 0∧e 7 = .osl 3 (putSpec p0 4 big++putSpec p1 4 big++rowB big (prs 8 (l.take i))).length∧e 43 = .osl 2 6∧e 44 = .int .i64 6∧e 45 = .int .i64 i) 6 ?_ ?_
    · have e0:rowB big (prs 8 (l.take 0))=[]:=rfl
      exact ⟨0,rfl,by rw [e0,List.append_nil],by exact lk trivial,(by rw [e0,List.append_nil,List.length_append];exact lk trivial),by exact lk trivial,by exact lk trivial,by exact lk trivial⟩
    rintro q e s ⟨i,hi,rfl,e3,e7,e43,e44,e45⟩
    have hF:=hc i
    by_cases hq:i < 6
    · have hil:i < l.length:=by omega
      have hu:=hlU _ (getD_mem hil)
      unfold U64 at hu
      have hp:=putSpec_le (l.getD i 0) 8 big
      have ht:=rowB_prs_take (n:=8) big hil
      generalize putSpec p0 4 big++putSpec p1 4 big=base at *
      simp only [List.length_append] at hF
      refine W1 (And.intro @e3 (And.intro @e7 (And.intro @e43 (And.intro @e44 @e45)))) @DD @put_spec ?_
      refine ⟨q - 1,by omega,_,_,Gh.sel [0,1,2,3,4] (by decide) hz,i+1,by omega,?_,by exact lk @e3,(by rw [ht,← List.append_assoc];simp only [List.length_append];exact lk @e7),by exact lk @e43,by exact lk @e44,by exact lk @e45⟩
      rw [ht,← List.append_assoc]
      rfl
    · obtain rfl:i=6:=by omega
      have hout:putSpec p0 4 big++putSpec p1 4 big++rowB big (prs 8 (l.take 6))=rowB big (progP true p0 p1 p2 p3 p4 p5 p6 p7):=by
        rw [hl]
        simp [progP,prs,rowB]
      have hokk:rowOk (progP true p0 p1 p2 p3 p4 p5 p6 p7)=true:=by
        simp only [progP,rowOk,prs,List.cons_append,List.nil_append,List.map_cons,List.map_nil,List.all_cons,List.all_nil,if_pos,fits4' h0,fits4' h1,fits8' g2,fits8' g3,fits8' g4,fits8' g5,fits8' g6,fits8' g7,Bool.and_true]
      rw [hout] at e7 ⊢
      refine W1 (And.intro @e3 (And.intro @e7 (And.intro @e43 (And.intro @e44 @e45)))) @DD trivial ?_
      exact hk1 hokk
end
end Go.Proofs.YtcffpnlochillaaGreatDoor.PvW
end

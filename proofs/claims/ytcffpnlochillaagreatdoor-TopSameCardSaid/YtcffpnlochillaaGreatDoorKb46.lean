/- A heap of plain values, walks over it, and functions of the program met by them: no statement of the set is proved in this text. -/
import Derived.Test.YtcffpnlochillaaGreatDoorKb03
import Derived.Test.YtcffpnlochillaaGreatDoorKb44
import Derived.Test.YtcffpnlochillaaGreatDoorKb45
import Derived.Test.YtcffpnlochillaaGreatDoorProg
import Derived.KernelRfl
set_option linter.unusedVariables false
set_option linter.unusedSimpArgs false
set_option maxRecDepth 100000
set_option maxHeartbeats 4000000
section
namespace Go.Proofs.YtcffpnlochillaaGreatDoor.PvW
open Go.RowKit Go.Proofs.YtcffpnlochillaaGreatDoor.Cd Go.Proofs.YtcffpnlochillaaGreatDoor.AbP Go.Proofs.YtcffpnlochillaaGreatDoor.Num Go.Proofs.YtcffpnlochillaaGreatDoor.Pv
abbrev dStep:Ab.D:=(.st (.cons (.int .i64) (.cons (.int .u64) .nil)))
abbrev encOf (b:List Int) (segs:List dSeg.T) (secs:List dSec.T) (st:Int):List Int:=encB (hdW b) (hdB b) (b.getD 7 0) (b.getD 8 0) ((hdV b).getD 0 0) ((hdV b).getD 1 0) (hdEn b) ((hdV b).getD 6 0) st segs secs
section
variable {K:PV→List OB→Prop}
theorem run_G {b:List Int} {l:List dStep.T} (hB:B b) (hb:b.length≤1000000) (hl:l.length≤20) (hkn:∀ x ∈ l,¬ @Eq Int x.1 1∧¬ @Eq Int x.1 2) (hk1:∀ a c,parseP b = .bad a c→K (.tup [.nilS,eSpot a c]) []) (hk2:∀ segs secs st,parseP b = .ok segs secs st→K (.tup [.sl (.int .u8) (encOf b segs secs st),.nilI]) []) :
    GCalls laidG Tryz.prog 30 [.sl (.int .u8) b,.sl dStep l] [] K:=by
  refine told_callG script_Run.told fun Z hZ hg=>?_
  unfold script_Run.c
  refine Wp1 trivial @DD (And.intro @caGp @trivial) ?_
  refine parse_G ⟨hB⟩ ⟨hb⟩ (fun a c h=>?_) (fun segs secs st h=>?_)
  · have:=hk1 a c h
    refine W1 trivial @DD trivial ?_
    exact this
  have W:Wr (hdW b) (b.getD 7 0) (b.getD 8 0) ((hdV b).getD 0 0) ((hdV b).getD 1 0) ((hdV b).getD 3 0) ((hdV b).getD 6 0) st segs secs:=parsed_wr (parsed hB h)
  have hk:K (.tup [.sl (.int .u8) (encB (hdW b) (hdB b) (b.getD 7 0) (b.getD 8 0) ((hdV b).getD 0 0) ((hdV b).getD 1 0) ((hdV b).getD 3 0) ((hdV b).getD 6 0) st segs secs),.nilI]) []:=hk2 segs secs st h
  unfold mdP
  clear hk1 hk2 h
  generalize (hdV b).getD 0 0=ty at *
  generalize (hdV b).getD 1 0=ma at *
  generalize (hdV b).getD 3 0=en at *
  generalize (hdV b).getD 6 0=fl at *
  generalize hdW b=w at *
  generalize hdB b=big at *
  generalize b.getD 7 0=o at *
  generalize b.getD 8 0=ab at *
  refine W1 trivial @DD trivial ?_
  refine w_lpG (fun q e s=>∃ i:Nat,q+i=l.length∧s=[.var [.bool w,.bool big,.int .u8 o,.int .u8 ab,.int .u16 ty,.int .u16 ma,.int .u32 fl,.int .u64 en,.sl dSeg segs,.sl dSec secs,.int .i64 st]]∧e 6 = .ptr 0 0∧e 22 = .sl dStep l∧e 23 = .int .i64 l.length∧e 24 = .int .i64 i) l.length ?_ ?_
  · exact ⟨0,rfl,rfl,by exact lk trivial,by exact lk trivial,by exact lk trivial,by exact lk trivial⟩
  rintro q e s ⟨i,hi,rfl,e6,e22,e23,e24⟩
  by_cases hq:i < l.length
  · obtain ⟨x,hx⟩:∃ x,l[i]? = some x:=⟨l[i],List.getElem?_eq_getElem hq⟩
    have hx0:=hkn x (List.mem_of_getElem? hx)
    obtain ⟨k,d,u⟩:=x
    obtain ⟨k,rfl⟩:∃ v:Int,v=k:=⟨k,rfl⟩
    have hx1:¬ k=1:=hx0.1
    have hx2:¬ k=2:=hx0.2
    refine W1 (And.intro @e6 (And.intro @e22 (And.intro @e23 @e24))) @DD trivial ?_
    exact ⟨q - 1,by omega,_,_,Gh.sel [0] (by decide) (hz0 hZ),i+1,by omega,rfl,by exact lk @e6,by exact lk @e22,by exact lk @e23,by exact lk @e24⟩
  · obtain rfl:i=l.length:=by omega
    refine W1 (And.intro @e6 (And.intro @e22 (And.intro @e23 @e24))) @DD trivial ?_
    refine enc_spec ⟨W.en⟩ W.hG W.hN W.hGF W.hNF W.hH (fun h=>absurd (wrong_ok W.ok) h) (fun _ h=>by rw [W.ov] at h;cases h) (fun _ _=>?_)
    refine W1 (And.intro @e6 (And.intro @e22 (And.intro @e23 @e24))) @DD trivial ?_
    exact hk
theorem up20_spec (hk:K (.bool true) []):GCalls laidG Tryz.prog 29 [] [] K:=by
  refine told_callG bezantlaw20_up.told fun Z hZ hg=>?_
  unfold bezantlaw20_up.c
  refine Wp1 trivial @DD (And.intro @caGp @trivial) ?_
  refine GCalls.wkA (.n (.int .u8) (.n dStep .z)) (run_G (fun _ h=>by cases h) (by decide) (by decide) (fun x h=>by cases h) (fun a c h=>?_) (fun segs secs st h=>by rw [parse_nil] at h;cases h))
  rw [parse_nil] at h
  simp only [PRes.bad.injEq] at h
  obtain ⟨rfl,rfl⟩:=h
  refine Wp1 trivial @DD (And.intro @spotS_spec @trivial) ?_
  exact hk

theorem enc_again {b:List Int} (hB:B b) {segs:List dSeg.T} {secs:List dSec.T} {st:Int} (h:parseP b = .ok segs secs st):B (encOf b segs secs st)∧(encOf b segs secs st).length≤65536∧parseP (encOf b segs secs st) = .ok segs secs st∧encOf (encOf b segs secs st) segs secs st=encOf b segs secs st:=by
  have P:=parsed hB h
  have W:=parsed_wr P
  obtain ⟨h0,h1,h2,h3,h4,h5,h6⟩:=parse_enc (big:=hdB b) W.ok W.hG W.hN W.hGF W.hNF W.hH W.en W.ov [] (by have:=W.po.size;simp;omega)
  rw [List.append_nil] at h0 h1 h2 h3 h4 h5 h6
  refine ⟨W.B,W.len.2,h6,?_⟩
  show encB (hdW (encOf b segs secs st)) (hdB (encOf b segs secs st)) ((encOf b segs secs st).getD 7 0) ((encOf b segs secs st).getD 8 0) ((hdV (encOf b segs secs st)).getD 0 0) ((hdV (encOf b segs secs st)).getD 1 0) ((hdV (encOf b segs secs st)).getD 3 0) ((hdV (encOf b segs secs st)).getD 6 0) st segs secs=_
  unfold encOf
  rw [h1,h2,h3,h4,h5]
  rfl
theorem sstays_core {b:List Int} {k:Int} (hB:B b) :
    GCalls laidG Tryz.prog 9 [.sl (.int .u8) b,.int .i64 k] [] fun p _=>p = .bool true:=by
  refine told_callG bezantlaw20_ScriptStays.told fun Z hZ hg=>?_
  unfold bezantlaw20_ScriptStays.c
  refine Wp1 trivial @DD (And.intro @caGp @trivial) ?_
  refine up20_spec ?_
  by_cases hbl:70000 < b.length
  · refine W1 trivial @DD trivial ?_
    rfl
  refine Wp1 trivial @DD (And.intro @caGp @trivial) ?_
  refine GCalls.wkA (.c _ (.n dStep .z)) (run_G hB (by omega) (by decide) (fun x h=>by cases h) (fun a c h=>?_) (fun segs secs st h=>?_))
  · refine W1 trivial @DD trivial ?_
    rfl
  obtain ⟨hB2,hl2,hp2,he2⟩:=enc_again hB h
  have hR:=fun (K:PV→List OB→Prop) (hk:K (.tup [.sl (.int .u8) (encOf b segs secs st),.nilI]) [])=>run_G (K:=K) (l:=[]) hB2 (by omega) (by decide) (fun x h=>by cases h) (fun a c h=>by rw [hp2] at h;cases h) (fun segs' secs' st' h=>by
    rw [hp2] at h
    simp only [PRes.ok.injEq] at h
    obtain ⟨rfl,rfl,rfl⟩:=h
    rw [he2]
    exact hk)
  have hR2:=fun (K:PV→List OB→Prop) (hk:K (.tup [.sl (.int .u8) (encOf b segs secs st),.nilI]) []) (k1:¬ k=1) (k2:¬ k=2)=>run_G (K:=K) (l:=([(k,(5:Int),PUnit.unit)]:List dStep.T)) hB (by omega) (by show 1≤20;decide) (fun x hx=>by obtain rfl:=List.mem_singleton.1 hx;exact ⟨k1,k2⟩) (fun a c h'=>by rw [h] at h';cases h') (fun segs' secs' st' h'=>by
    rw [h] at h'
    simp only [PRes.ok.injEq] at h'
    obtain ⟨rfl,rfl,rfl⟩:=h'
    exact hk)
  generalize encOf b segs secs st=E at *
  by_cases k1:k=1
  · refine Wp1 trivial @DD (And.intro @caGp @trivial) ?_
    refine GCalls.wkA (.c _ (.n dStep .z)) (hR _ ?_)
    refine W1 trivial @DD trivial ?_
    rfl
  by_cases k2:k=2
  · refine Wp1 trivial @DD (And.intro @caGp @trivial) ?_
    refine GCalls.wkA (.c _ (.n dStep .z)) (hR _ ?_)
    refine W1 trivial @DD trivial ?_
    rfl
  refine Wp1 trivial @DD (And.intro @caGp @trivial) ?_
  refine GCalls.wkA (.c _ (.n dStep .z)) (hR _ ?_)
  refine Wv1 trivial @DD trivial ?_
  apply a_arr 0 dStep;(repeat any_goals first | exact mp_z | apply mp_s | exact rs_z | apply rs_t | apply rs_n | apply rs_c);(repeat any_goals first | (apply Lk.i;(simp only [↓LL,↓reduceIte,Nat.reduceEqDiff];(try rfl);done)) | (apply Rf.i;first | rfl | assumption) | (apply Vl.i;((try simp (disch:=omega) only [VV,↓reduceIte,peqI,encP]);(try rfl);done)) | (apply Am.i;assumption) | (apply Pu.i;((try simp only [↓reduceIte,UU,RR,Nat.reduceAdd,Nat.reduceEqDiff,cellsP,putP,fillQ,flatQ,shP,sh1,encP]);(try rfl);done)) | (apply Om.i;((try simp only [MM]);(try omega);done)) | (apply Vw.i;exact VwA));(all_goals fail_if_success apply Mk.i)
  refine ca_GV hg (.p ⟨rfl⟩ (.a (d:=dStep) (x:=[(k,(5:Int),PUnit.unit)]) ⟨rfl⟩ ⟨rfl⟩ ⟨rfl⟩ .z)) ?_
  refine hR2 _ ?_ k1 k2
  refine W1 trivial @DD trivial ?_
  rfl
theorem sstays_walk (x0:((.sl (.int .u8)):Ab.D).T) (g0:((.sl (.int .u8)):Ab.D).good x0) (x1:((.int .i64):Ab.D).T) (g1:((.int .i64):Ab.D).good x1) :
    GCalls laidG Tryz.prog 9 [pvD (.sl (.int .u8)) x0,pvD (.int .i64) x1] [] fun p _=>p = .bool true:=sstays_core (B_of g0.2)
end
end Go.Proofs.YtcffpnlochillaaGreatDoor.PvW
end
section
namespace Go.Proofs.YtcffpnlochillaaGreatDoor.Cd
open Go.Proofs.YtcffpnlochillaaGreatDoor.Ab
def image_File.c:AC:=(.seq (.reg [xF 2 (.new [(.int .u64 0),(.slice none 0 0)]),xF 3 (.mv (C .nilIface))]) (.seq (.reg [xM 14 0,xE 15 (.cal (.func 40) [(T 14)]),xM 13 15,xX 16 13 0,xX 17 13 1,xF 4 (.new [(.bool false),(.bool false),(.int .u8 0),(.int .u8 0),(.int .u16 0),(.int .u16 0),(.int .u64 0),(.int .u64 0),(.int .u64 0),(.int .u32 0),(.int .u16 0),(.int .u16 0),(.int .u16 0)]),xU (.st 13 (T 4) (T 16)),xM 5 17]) (.seq (.seq (.reg [xM 18 5,xF 19 (.eqI true (T 18) (C .nilIface)),xM 20 19,xG 21 20 false (.fad 10 (T 4)),xG 22 20 false (.ld none (T 21)),xG 23 20 false (.bin .eql (T 22) (C (.int .u16 65535))),xF 24 (.pick (T 20) (C (.bool true)) (T 23))]) (.cond (T 24) (.seq (.reg [xF 25 (.bld [(.int .u64 0),(.slice none 0 0)] [] []),xF 26 (.mkI 96 (xZ 4)),xU (.st 2 (T 2) (T 25)),xM 3 26]) .ret) .skip)) (.seq (.reg [xF 27 (.fad 6 (T 4)),xF 28 (.ld none (T 27)),xF 29 (.bld [(.int .u64 0),(.slice none 0 0)] [(0,1)] [(T 28)]),xF 6 (.new [(.int .u64 0),(.slice none 0 0)]),xU (.st 2 (T 6) (T 29))]) (.seq (.reg [xF 30 (.fad 0 (T 4)),xF 31 (.fad 0 (T 30)),xF 32 (.ld (some 2) (T 31)),xF 7 (.new [(.bool false),(.bool false)]),xU (.st 2 (T 7) (T 32))]) (.seq (.reg [xF 33 (.ld (some 2) (T 7)),xE 34 (.cal (.func 53) [(T 33)]),xF 35 (.cvt .u64 (T 34)),xM 8 35]) (.seq (.seq (.reg [xF 36 (.fad 10 (T 4)),xF 37 (.ld none (T 36)),xF 38 (.bin .gtr (T 37) (C (.int .u16 0))),xM 39 38,xG 40 39 true (.fad 7 (T 4)),xG 41 39 true (.ld none (T 40)),xG 42 39 true (.fad 10 (T 4)),xG 43 39 true (.ld none (T 42)),xG 44 39 true (.cvt .u64 (T 43)),xN 45 39 true 8,xG 46 39 true (.bin .mul (T 44) (T 45)),xN 47 39 true 0,xG 48 39 true (.len false (T 47)),xG 49 39 true (.cvt .u64 (T 48)),⟨some 50,some (39,true),false,.e (.cal (.func 54) [(T 41),(T 46),(T 49)])⟩,xG 51 39 true (.un .not (T 50)),xF 52 (.pick (T 39) (T 51) (C (.bool false)))]) (.cond (T 52) (.seq (.reg [xF 53 (.bld [(.int .u64 0),(.slice none 0 0)] [] []),xF 54 (.mkI 96 (xZ 4)),xU (.st 2 (T 2) (T 53)),xM 3 54]) .ret) .skip)) (.seq (.seq (.reg [xF 55 (.fad 10 (T 4)),xF 56 (.ld none (T 55)),xF 57 (.cvt .u64 (T 56)),xF 58 (.mv (C (.int .u64 0)))]) (.block 0 (.loop (.seq (.reg [xF 59 (.bin .lss (T 58) (T 57))]) (.seq (.cond (T 59) .skip (.exit 0)) (.seq (.block 1 (.seq (.reg [xM 60 58,xM 9 60]) (.seq (.reg [xM 62 0,xF 63 (.fad 7 (T 4)),xF 64 (.ld none (T 63)),xM 65 9,xM 66 8,xF 67 (.bin .mul (T 65) (T 66)),xF 68 (.bin .add (T 64) (T 67)),xF 69 (.ld (some 2) (T 7)),xE 70 (.cal (.func 55) [(T 62),(T 68),(T 69)]),xM 61 70,xX 71 61 0,xX 72 61 1,xF 10 (.new [(.int .u32 0),(.int .u32 0),(.int .u64 0),(.int .u64 0),(.int .u64 0),(.int .u64 0),(.int .u64 0),(.int .u64 0)]),xU (.st 8 (T 10) (T 71)),xM 11 72]) (.seq (.seq (.reg [xM 73 11,xF 74 (.eqI true (T 73) (C .nilIface))]) (.cond (T 74) (.seq (.reg [xF 75 (.bld [(.int .u64 0),(.slice none 0 0)] [] []),xF 76 (.mkI 96 (xZ 4)),xU (.st 2 (T 2) (T 75)),xM 3 76]) .ret) .skip)) (.seq (.seq (.reg [xF 77 (.fad 0 (T 10)),xF 78 (.ld none (T 77)),xF 79 (.bin .neq (T 78) (C (.int .u32 1)))]) (.cond (T 79) (.exit 1) .skip)) (.seq (.reg [xF 80 (.fad 3 (T 10)),xF 81 (.ld none (T 80)),xF 82 (.fad 6 (T 10)),xF 83 (.ld none (T 82)),xF 84 (.fad 1 (T 10)),xF 85 (.ld none (T 84)),xF 86 (.bld [(.int .u64 0),(.int .u64 0),(.int .u32 0),(.slice none 0 0)] [(0,1),(1,1),(2,1)] [(T 81),(T 83),(T 85)]),xF 12 (.new [(.int .u64 0),(.int .u64 0),(.int .u32 0),(.slice none 0 0)]),xU (.st 4 (T 12) (T 86))]) (.seq (.seq (.reg [xF 87 (.fad 5 (T 10)),xF 88 (.ld none (T 87)),xF 89 (.bin .gtr (T 88) (C (.int .u64 0)))]) (.cond (T 89) (.seq (.seq (.reg [xF 90 (.fad 2 (T 10)),xF 91 (.ld none (T 90)),xF 92 (.fad 5 (T 10)),xF 93 (.ld none (T 92)),xM 94 0,xF 95 (.len false (T 94)),xF 96 (.cvt .u64 (T 95)),xE 97 (.cal (.func 54) [(T 91),(T 93),(T 96)]),xF 98 (.un .not (T 97))]) (.cond (T 98) (.seq (.reg [xF 99 (.bld [(.int .u64 0),(.slice none 0 0)] [] []),xF 100 (.mkI 96 (xZ 4)),xU (.st 2 (T 2) (T 99)),xM 3 100]) .ret) .skip)) (.reg [xM 101 0,xF 102 (.fad 2 (T 10)),xF 103 (.ld none (T 102)),xF 104 (.fad 2 (T 10)),xF 105 (.ld none (T 104)),xF 106 (.fad 5 (T 10)),xF 107 (.ld none (T 106)),xF 108 (.bin .add (T 105) (T 107)),xF 109 (.slc 1 (T 101) (some (T 103)) (some (T 108))),xE 110 (.cal (.func 56) [(T 109)]),xF 111 (.fad 3 (T 12)),xU (.st 1 (T 111) (T 110))])) .skip)) (.reg [xF 112 (.fad 1 (T 6)),xF 113 (.ld none (T 112)),xF 114 (.ld (some 4) (T 12)),xF 115 (.bsl 4 [(T 114)]),xE 116 (.app 4 48 (T 113) (T 115)),xF 117 (.fad 1 (T 6)),xU (.st 1 (T 117) (T 116))])))))))) (.reg [xF 118 (.bin .add (T 58) (C (.int .u64 1))),xM 58 118]))))))) (.seq (.reg [xF 119 (.ld (some 2) (T 6)),xU (.st 2 (T 2) (T 119)),xF 3 (.mv (C .nilIface))]) .ret)))))))))
theorem image_File.told:IsTold Tryz.prog 19 120 image_File.c [(.cell 2 (some 2)),(.tmp 3)]:=⟨Tryz.f19,_,Tryz.func19,by kernel_rfl,rfl,rfl,by kernel_rfl,by kernel_rfl⟩
def image_At.c:AC:=(.seq (.reg [xF 2 (.box (T 0)),xF 4 (.mv (C (.int .u8 0))),xF 5 (.mv (C (.int .u32 0))),xF 6 (.mv (C (.bool false)))]) (.seq (.seq (.reg [xF 10 (.fad 1 (T 2)),xF 11 (.ld none (T 10)),xF 12 (.len false (T 11)),xF 13 (.mv (xZ 0))]) (.block 0 (.loop (.seq (.reg [xF 14 (.bin .lss (T 13) (T 12))]) (.seq (.cond (T 14) .skip (.exit 0)) (.seq (.block 1 (.seq (.reg [xF 15 (.iad 4 (T 11) (T 13)),xF 16 (.ld (some 4) (T 15)),xF 8 (.new [(.int .u64 0),(.int .u64 0),(.int .u32 0),(.slice none 0 0)]),xU (.st 4 (T 8) (T 16))]) (.seq (.seq (.reg [xM 17 1,xF 18 (.fad 0 (T 8)),xF 19 (.ld none (T 18)),xF 20 (.bin .lss (T 17) (T 19)),xM 21 20,xN 22 21 false 1,xG 23 21 false (.fad 0 (T 8)),xG 24 21 false (.ld none (T 23)),xG 25 21 false (.bin .sub (T 22) (T 24)),xG 26 21 false (.fad 1 (T 8)),xG 27 21 false (.ld none (T 26)),xG 28 21 false (.bin .geq (T 25) (T 27)),xF 29 (.pick (T 21) (C (.bool true)) (T 28))]) (.cond (T 29) (.exit 1) .skip)) (.seq (.seq (.reg [xM 30 1,xF 31 (.fad 0 (T 8)),xF 32 (.ld none (T 31)),xF 33 (.bin .sub (T 30) (T 32)),xM 9 33]) (.seq (.reg [xM 34 9,xF 35 (.fad 3 (T 8)),xF 36 (.ld none (T 35)),xF 37 (.len false (T 36)),xF 38 (.cvt .u64 (T 37)),xF 39 (.bin .lss (T 34) (T 38))]) (.cond (T 39) (.seq (.reg [xF 40 (.fad 3 (T 8)),xF 41 (.ld none (T 40)),xM 42 9,xF 43 (.iad 1 (T 41) (T 42)),xF 44 (.ld none (T 43)),xF 45 (.fad 2 (T 8)),xF 46 (.ld none (T 45)),xM 4 44,xM 5 46,xF 6 (.mv (C (.bool true)))]) .ret) .skip))) (.seq (.reg [xF 47 (.fad 2 (T 8)),xF 48 (.ld none (T 47)),xF 4 (.mv (C (.int .u8 0))),xM 5 48,xF 6 (.mv (C (.bool true)))]) .ret))))) (.reg [xF 49 (.bin .add (T 13) (xZ 1)),xM 13 49]))))))) (.seq (.reg [xF 4 (.mv (C (.int .u8 0))),xF 5 (.mv (C (.int .u32 0))),xF 6 (.mv (C (.bool false)))]) .ret)))
theorem image_At.told:IsTold Tryz.prog 23 50 image_At.c [(.tmp 4),(.tmp 5),(.tmp 6)]:=⟨Tryz.f23,_,Tryz.func23,by kernel_rfl,rfl,rfl,by kernel_rfl,by kernel_rfl⟩
def bezantref14_ModelImage.c:AC:=(.seq (.reg [xF 1 (.box (T 0)),xF 2 (.new [(.int .u64 0),(.slice none 0 0)])]) (.seq (.reg [xF 6 (.fad 7 (T 1)),xF 7 (.ld none (T 6)),xF 8 (.bld [(.int .u64 0),(.slice none 0 0)] [(0,1)] [(T 7)]),xF 3 (.new [(.int .u64 0),(.slice none 0 0)]),xU (.st 2 (T 3) (T 8))]) (.seq (.seq (.reg [xF 4 (.mv (xZ 0))]) (.block 0 (.loop (.seq (.seq (.reg [xM 9 4,xF 10 (.fad 8 (T 1)),xF 11 (.ld none (T 10)),xF 12 (.len false (T 11)),xF 13 (.bin .lss (T 9) (T 12))]) (.cond (T 13) .skip (.exit 0))) (.seq (.block 1 (.seq (.reg [xF 16 (.fad 8 (T 1)),xF 17 (.ld none (T 16)),xM 18 4,xF 19 (.iad 10 (T 17) (T 18)),xF 20 (.ld (some 10) (T 19)),xF 5 (.new [(.int .u32 0),(.int .u32 0),(.int .u64 0),(.int .u64 0),(.int .u64 0),(.int .u64 0),(.int .i64 0),(.int .u64 0),(.int .u64 0),(.slice none 0 0)]),xU (.st 10 (T 5) (T 20))]) (.seq (.reg [xF 21 (.fad 0 (T 5)),xF 22 (.ld none (T 21)),xF 23 (.bin .eql (T 22) (C (.int .u32 1)))]) (.cond (T 23) (.reg [xF 24 (.fad 1 (T 3)),xF 25 (.ld none (T 24)),xF 26 (.fad 2 (T 5)),xF 27 (.ld none (T 26)),xF 28 (.fad 4 (T 5)),xF 29 (.ld none (T 28)),xF 30 (.fad 1 (T 5)),xF 31 (.ld none (T 30)),xF 32 (.bsl 1 []),xF 33 (.fad 6 (T 5)),xF 34 (.fad 3 (T 33)),xF 35 (.ld none (T 34)),⟨some 36,none,true,.e (.app 1 1 (T 32) (T 35))⟩,xF 37 (.bld [(.int .u64 0),(.int .u64 0),(.int .u32 0),(.slice none 0 0)] [(0,1),(1,1),(2,1),(3,1)] [(T 27),(T 29),(T 31),(T 36)]),xF 38 (.bsl 4 [(T 37)]),xE 39 (.app 4 48 (T 25) (T 38)),xF 40 (.fad 1 (T 3)),xU (.st 1 (T 40) (T 39))]) .skip)))) (.reg [xM 14 4,xF 15 (.bin .add (T 14) (xZ 1)),xM 4 15])))))) (.seq (.reg [xF 41 (.ld (some 2) (T 3)),xU (.st 2 (T 2) (T 41))]) .ret))))
theorem bezantref14_ModelImage.told:IsTold Tryz.prog 21 42 bezantref14_ModelImage.c [(.cell 2 (some 2))]:=⟨Tryz.f21,_,Tryz.func21,by kernel_rfl,rfl,rfl,by kernel_rfl,by kernel_rfl⟩
end Go.Proofs.YtcffpnlochillaaGreatDoor.Cd
end

/- A heap of plain values, walks over it, and functions of the program met by them: no statement of the set is proved in this text. -/
import Derived.Test.YtcffpnlochillaaGreatDoorKb03
import Derived.Test.YtcffpnlochillaaGreatDoorKb17
import Derived.Test.YtcffpnlochillaaGreatDoorProg
import Derived.KernelRfl
set_option linter.unusedVariables false
set_option linter.unusedSimpArgs false
set_option maxRecDepth 100000
set_option maxHeartbeats 4000000
section
namespace Go.Proofs.YtcffpnlochillaaGreatDoor.PvW
open Go.RowKit Go.Proofs.YtcffpnlochillaaGreatDoor.Cd Go.Proofs.YtcffpnlochillaaGreatDoor.AbP Go.Proofs.YtcffpnlochillaaGreatDoor.Num Go.Proofs.YtcffpnlochillaaGreatDoor.Pv
structure LoadN (ty off fs:Int):Prop where
  ty:0≤ty∧ty≤4294967295
  off:0≤off∧off≤18446744073709551615
  fs:0≤fs∧fs≤18446744073709551615
abbrev LoadsN (l:List dProgM.T):Prop:=∀ x ∈ l,LoadN x.1 x.2.2.1 x.2.2.2.2.2.1
theorem hz4 {Z:Bs} {a b c d:OB} (hZ:Z.s=[a,b,c,d]) {js:List Nat} (h:∀ k,k < 4→js[k]? = some k) (b':Nat) (hb:b' < Z.s.length):js[b']? = some b':=h b' (by rw [hZ] at hb;exact hb)
theorem ret_cell {KK:PV→List OB→Prop} {e:Env} {s:List OB} {a b o m:Nat} {l:List PV} (ha:e a = .ptr b o) (hb:s[b]? = some (.var l)) (hm:o+m≤l.length) (hk:KK (.agg ((l.drop o).take m)) s):retP [.cell a (some m)] KK .ret e s :=
  ⟨[.agg ((l.drop o).take m)],by simp only [prvs,prv,ha,hb,if_pos hm],hk⟩
theorem findP_at {b:List Int} {off n:Int} {l:List dProgM.T} {i:Nat} {x:dProgM.T} (hx:l[i]? = some x):findP b off n (l.drop i) i=if 0 < n∧@Eq Int x.1 1∧@LE.le Int _ x.2.2.1 off∧withinB (off - x.2.2.1) n x.2.2.2.2.2.1=true then ((i:Int),off - x.2.2.1,n,([]:List Int)) else findP b off n (l.drop (i+1)) (i+1):=by
  have e:l.drop i=x::l.drop (i+1):=by
    obtain ⟨h1,h2⟩:=List.getElem?_eq_some_iff.1 hx
    rw [← h2]
    exact List.drop_eq_getElem_cons h1
  rw [e]
  rfl
section
variable {K:PV→List OB→Prop} {b:List Int} {w big:Bool} {o ab ty ma en po so fl pn sn sx np ns f0 f1 f2 f3 f4 f5 f6 f7 f8 f9 st:Int} {loads:List dProgM.T} {segs:List dSeg.T} {secs:List dSec.T}
theorem ffind_spec {off n:Int} (ho:Om (0≤off∧off≤18446744073709551615∧0≤n∧n≤18446744073709551615)) (hin:Om (n=0∨off+n≤b.length)) (hb:Om (b.length≤1000000)) (hl:Om (loads.length≤1000)) (hL:LoadsN loads) (hk:K (pvPlace (findP b off n loads 0)) [.var [.sl (.int .u8) b,.bool w,.bool big,.int .u8 o,.int .u8 ab,.int .u16 ty,.int .u16 ma,.int .u64 en,.int .u64 po,.int .u64 so,.int .u32 fl,.int .u16 pn,.int .u16 sn,.int .u16 sx,.bool w,.bool big,.int .u64 np,.int .u64 ns,.int .u32 f0,.int .u32 f1,.int .u64 f2,.int .u64 f3,.int .u64 f4,.int .u64 f5,.int .u32 f6,.int .u32 f7,.int .u64 f8,.int .u64 f9,.bool w,.bool big,.int .u8 o,.int .u8 ab,.int .u16 ty,.int .u16 ma,.int .u32 fl,.int .u64 en,.osl 2 segs.length,.osl 3 secs.length,.int .i64 st,.osl 1 loads.length],.arr dProgM loads,.arr dSeg segs,.arr dSec secs]) :
    PCalls Tryz.prog 100 [.ptr 0 0,.int .u64 off,.int .u64 n] [.var [.sl (.int .u8) b,.bool w,.bool big,.int .u8 o,.int .u8 ab,.int .u16 ty,.int .u16 ma,.int .u64 en,.int .u64 po,.int .u64 so,.int .u32 fl,.int .u16 pn,.int .u16 sn,.int .u16 sx,.bool w,.bool big,.int .u64 np,.int .u64 ns,.int .u32 f0,.int .u32 f1,.int .u64 f2,.int .u64 f3,.int .u64 f4,.int .u64 f5,.int .u32 f6,.int .u32 f7,.int .u64 f8,.int .u64 f9,.bool w,.bool big,.int .u8 o,.int .u8 ab,.int .u16 ty,.int .u16 ma,.int .u32 fl,.int .u64 en,.osl 2 segs.length,.osl 3 secs.length,.int .i64 st,.osl 1 loads.length],.arr dProgM loads,.arr dSeg segs,.arr dSec secs] K:=by
  have ho:=ho.o
  have hin:=hin.o
  have hb:=hb.o
  have hl:=hl.o
  refine told_callS file_parser_find.told fun Z hZ=>?_
  unfold file_parser_find.c
  refine W1 trivial @DD trivial ?_
  refine w_lpG (fun q e s=>∃ i:Nat,q+i=loads.length∧s=[.var [.sl (.int .u8) b,.bool w,.bool big,.int .u8 o,.int .u8 ab,.int .u16 ty,.int .u16 ma,.int .u64 en,.int .u64 po,.int .u64 so,.int .u32 fl,.int .u16 pn,.int .u16 sn,.int .u16 sx,.bool w,.bool big,.int .u64 np,.int .u64 ns,.int .u32 f0,.int .u32 f1,.int .u64 f2,.int .u64 f3,.int .u64 f4,.int .u64 f5,.int .u32 f6,.int .u32 f7,.int .u64 f8,.int .u64 f9,.bool w,.bool big,.int .u8 o,.int .u8 ab,.int .u16 ty,.int .u16 ma,.int .u32 fl,.int .u64 en,.osl 2 segs.length,.osl 3 secs.length,.int .i64 st,.osl 1 loads.length],.arr dProgM loads,.arr dSeg segs,.arr dSec secs]++[.var [.int .i64 0,.int .u64 0,.int .u64 0,.nilS]]∧findP b off n (loads.drop i) i=findP b off n loads 0∧e 0 = .ptr 0 0∧e 1 = .int .u64 off∧e 2 = .int .u64 n∧e 6 = .ptr 4 0∧e 12 = .osl 1 loads.length∧e 13 = .int .i64 loads.length∧e 14 = .int .i64 i) loads.length ?_ ?_
  · exact ⟨0,rfl,rfl,rfl,by exact lk trivial,by exact lk trivial,by exact lk trivial,by exact lk trivial,by exact lk trivial,by exact lk trivial,by exact lk trivial⟩
  rintro q e s ⟨i,hi,rfl,hf,e0,e1,e2,e6,e12,e13,e14⟩
  show pwp _ _ _ _ e [.var [.sl (.int .u8) b,.bool w,.bool big,.int .u8 o,.int .u8 ab,.int .u16 ty,.int .u16 ma,.int .u64 en,.int .u64 po,.int .u64 so,.int .u32 fl,.int .u16 pn,.int .u16 sn,.int .u16 sx,.bool w,.bool big,.int .u64 np,.int .u64 ns,.int .u32 f0,.int .u32 f1,.int .u64 f2,.int .u64 f3,.int .u64 f4,.int .u64 f5,.int .u32 f6,.int .u32 f7,.int .u64 f8,.int .u64 f9,.bool w,.bool big,.int .u8 o,.int .u8 ab,.int .u16 ty,.int .u16 ma,.int .u32 fl,.int .u64 en,.osl 2 segs.length,.osl 3 secs.length,.int .i64 st,.osl 1 loads.length],.arr dProgM loads,.arr dSeg segs,.arr dSec secs,.var [.int .i64 0,.int .u64 0,.int .u64 0,.nilS]]
  by_cases hq:i < loads.length
  · obtain ⟨x,hx⟩:∃ x,loads[i]? = some x:=⟨loads[i],List.getElem?_eq_getElem hq⟩
    have hx0:=hL x (List.mem_of_getElem? hx)
    have hfa:=findP_at (b:=b) (off:=off) (n:=n) hx
    obtain ⟨xty,xfl,xof,xva,xpa,xfs,xme,xal,u⟩:=x
    obtain ⟨xof,rfl⟩:∃ v:Int,v=xof:=⟨xof,rfl⟩
    obtain ⟨xfs,rfl⟩:∃ v:Int,v=xfs:=⟨xfs,rfl⟩
    have hx0:LoadN xty xof xfs:=hx0
    obtain ⟨nty,nof,nfs⟩:=hx0
    dsimp only at hfa
    by_cases h1:0 < n
    rotate_left
    · rw [if_neg (fun h=>h1 h.1),hf] at hfa
      refine W1 (And.intro @e0 (And.intro @e1 (And.intro @e2 (And.intro @e6 (And.intro @e12 (And.intro @e13 @e14)))))) @DD trivial ?_
      exact ⟨q - 1,by omega,_,_,Gh.sel [0,1,2,3,4] (by decide) (hz4 hZ (by decide)),i+1,by omega,rfl,hfa.symm,by exact lk @e0,by exact lk @e1,by exact lk @e2,by exact lk @e6,by exact lk @e12,by exact lk @e13,by exact lk @e14⟩
    by_cases h2:@Eq Int xty 1
    rotate_left
    · rw [if_neg (fun h=>h2 h.2.1),hf] at hfa
      refine W1 (And.intro @e0 (And.intro @e1 (And.intro @e2 (And.intro @e6 (And.intro @e12 (And.intro @e13 @e14)))))) @DD trivial ?_
      exact ⟨q - 1,by omega,_,_,Gh.sel [0,1,2,3,4] (by decide) (hz4 hZ (by decide)),i+1,by omega,rfl,hfa.symm,by exact lk @e0,by exact lk @e1,by exact lk @e2,by exact lk @e6,by exact lk @e12,by exact lk @e13,by exact lk @e14⟩
    by_cases h3:xof≤off
    rotate_left
    · rw [if_neg (fun h=>h3 h.2.2.1),hf] at hfa
      refine W1 (And.intro @e0 (And.intro @e1 (And.intro @e2 (And.intro @e6 (And.intro @e12 (And.intro @e13 @e14)))))) @DD trivial ?_
      exact ⟨q - 1,by omega,_,_,Gh.sel [0,1,2,3,4] (by decide) (hz4 hZ (by decide)),i+1,by omega,rfl,hfa.symm,by exact lk @e0,by exact lk @e1,by exact lk @e2,by exact lk @e6,by exact lk @e12,by exact lk @e13,by exact lk @e14⟩
    have hw:IntKind.wrap .u64 (off - xof)=off - xof:=by rw [wU64];omega
    cases h4:withinB (off - xof) n xfs with
    | false =>
      rw [if_neg (fun h=>by rw [h4] at h;cases h.2.2.2),hf] at hfa
      refine W1 (And.intro @e0 (And.intro @e1 (And.intro @e2 (And.intro @e6 (And.intro @e12 (And.intro @e13 @e14)))))) (And.intro @DD @hw) @within_no ?_
      exact ⟨q - 1,by omega,_,_,Gh.sel [0,1,2,3,4] (by decide) (hz4 hZ (by decide)),i+1,by omega,rfl,hfa.symm,by exact lk @e0,by exact lk @e1,by exact lk @e2,by exact lk @e6,by exact lk @e12,by exact lk @e13,by exact lk @e14⟩
    | true =>
      rw [if_pos ⟨h1,h2,h3,h4⟩,hf] at hfa
      rw [hfa] at hk
      refine Wn1 (And.intro @e0 (And.intro @e1 (And.intro @e2 (And.intro @e6 (And.intro @e12 (And.intro @e13 @e14)))))) (And.intro @DD @hw) @within_ok ?_
      apply x_virtV 4 3 (.int .u8);(repeat any_goals first | exact mp_z | apply mp_s | exact rs_z | apply rs_t | apply rs_n | apply rs_c);(repeat any_goals first | (apply Lk.i;(simp only [↓LL,↓reduceIte,Nat.reduceEqDiff];(try rfl);done)) | (apply Rf.i;first | rfl | assumption) | (apply Vl.i;((try simp (disch:=omega) only [VV,↓reduceIte,peqI,encP]);(try rfl);done)) | (apply Am.i;assumption) | (apply Pu.i;((try simp only [↓reduceIte,UU,RR,Nat.reduceAdd,Nat.reduceEqDiff,cellsP,putP,fillQ,flatQ,shP,sh1,encP]);(try rfl);done)) | (apply Om.i;((try simp only [MM]);(try omega);done)) | (apply Vw.i;exact VwA));(all_goals fail_if_success apply Mk.i)
      refine ghW (Gh.frzC (b:=4) (j:=3) (b':=6) (D':=.int .u8) (l:=[]) rfl rfl rfl rfl) ?_
      refine W1 (And.intro @e0 (And.intro @e1 (And.intro @e2 (And.intro @e6 (And.intro @e12 (And.intro @e13 @e14)))))) @DD trivial ?_
      exact ret_cell (b:=4) (o:=0) (by exact lk @e6) rfl (Nat.le_refl 4) ⟨rfl,hk⟩
  · obtain rfl:i=loads.length:=by omega
    rw [List.drop_eq_nil_of_le (Nat.le_refl _)] at hf
    rw [← hf] at hk
    have hk:K (pvPlace (ownP b off n)) [.var [.sl (.int .u8) b,.bool w,.bool big,.int .u8 o,.int .u8 ab,.int .u16 ty,.int .u16 ma,.int .u64 en,.int .u64 po,.int .u64 so,.int .u32 fl,.int .u16 pn,.int .u16 sn,.int .u16 sx,.bool w,.bool big,.int .u64 np,.int .u64 ns,.int .u32 f0,.int .u32 f1,.int .u64 f2,.int .u64 f3,.int .u64 f4,.int .u64 f5,.int .u32 f6,.int .u32 f7,.int .u64 f8,.int .u64 f9,.bool w,.bool big,.int .u8 o,.int .u8 ab,.int .u16 ty,.int .u16 ma,.int .u32 fl,.int .u64 en,.osl 2 segs.length,.osl 3 secs.length,.int .i64 st,.osl 1 loads.length],.arr dProgM loads,.arr dSeg segs,.arr dSec secs]:=hk
    refine W1 (And.intro @e0 (And.intro @e1 (And.intro @e2 (And.intro @e6 (And.intro @e12 (And.intro @e13 @e14)))))) @DD trivial ?_
    apply ca_S [0,1,2,3];(repeat any_goals first | exact mp_z | apply mp_s | exact rs_z | apply rs_t | apply rs_n | apply rs_c);(repeat any_goals first | (apply Lk.i;(simp only [↓LL,↓reduceIte,Nat.reduceEqDiff];(try rfl);done)) | (apply Rf.i;first | rfl | assumption) | (apply Vl.i;((try simp (disch:=omega) only [VV,↓reduceIte,peqI,encP]);(try rfl);done)) | (apply Am.i;assumption) | (apply Pu.i;((try simp only [↓reduceIte,UU,RR,Nat.reduceAdd,Nat.reduceEqDiff,cellsP,putP,fillQ,flatQ,shP,sh1,encP]);(try rfl);done)) | (apply Om.i;((try simp only [MM]);(try omega);done)) | (apply Vw.i;exact VwA));(all_goals fail_if_success apply Mk.i)
    refine fown_spec ⟨by omega⟩ ⟨hin⟩ ⟨hb⟩ ?_
    refine W1 (And.intro @e0 (And.intro @e1 (And.intro @e2 (And.intro @e6 (And.intro @e12 (And.intro @e13 @e14)))))) @DD trivial ?_
    exact ret_cell (b:=4) (o:=0) (by exact lk @e6) rfl (Nat.le_refl 4) ⟨rfl,hk⟩
end
end Go.Proofs.YtcffpnlochillaaGreatDoor.PvW
end
section
namespace Go.Proofs.YtcffpnlochillaaGreatDoor.Cd
open Go.Proofs.YtcffpnlochillaaGreatDoor.Ab
def plan_Of.c:AC:=(.seq (.reg [xF 1 (.box (T 0)),xF 2 (.new [(.int .u64 0),(.int .u64 0),(.int .u64 0),(.slice none 0 0),(.slice none 0 0)]),xF 3 (.mv (C .nilIface))]) (.seq (.seq (.reg [xF 14 (.ld (some 11) (T 1)),xE 15 (.cal (.func 17) [(T 14)]),xM 4 15]) (.seq (.reg [xM 16 4,xF 17 (.eqI true (T 16) (C .nilIface))]) (.cond (T 17) (.seq (.reg [xF 18 (.bld [(.int .u64 0),(.int .u64 0),(.int .u64 0),(.slice none 0 0),(.slice none 0 0)] [] []),xM 19 4,xU (.st 5 (T 2) (T 18)),xM 3 19]) .ret) .skip))) (.seq (.reg [xF 20 (.fad 0 (T 1)),xF 21 (.fad 0 (T 20)),xF 22 (.ld (some 2) (T 21)),xF 5 (.new [(.bool false),(.bool false)]),xU (.st 2 (T 5) (T 22))]) (.seq (.reg [xF 23 (.ld (some 2) (T 5)),xE 24 (.cal (.func 80) [(T 23)]),xF 25 (.cvt .u64 (T 24)),xF 26 (.bld [(.int .u64 0),(.bool false)] [(0,1)] [(T 25)]),xF 27 (.box (T 26)),xM 6 27]) (.seq (.reg [xF 28 (.fad 8 (T 1)),xF 29 (.ld none (T 28)),xF 30 (.len false (T 29)),xF 31 (.mks 1 8 [(.int .u64 0)] (T 30) (T 30)),xF 32 (.fad 9 (T 1)),xF 33 (.ld none (T 32)),xF 34 (.len false (T 33)),xF 35 (.mks 1 8 [(.int .u64 0)] (T 34) (T 34)),xF 36 (.bld [(.int .u64 0),(.int .u64 0),(.int .u64 0),(.slice none 0 0),(.slice none 0 0)] [(3,1),(4,1)] [(T 31),(T 35)]),xF 7 (.new [(.int .u64 0),(.int .u64 0),(.int .u64 0),(.slice none 0 0),(.slice none 0 0)]),xU (.st 5 (T 7) (T 36))]) (.seq (.seq (.reg [xF 37 (.fad 8 (T 1)),xF 38 (.ld none (T 37)),xF 39 (.len false (T 38)),xF 40 (.bin .gtr (T 39) (xZ 0))]) (.cond (T 40) (.reg [xM 41 6,xF 42 (.fad 8 (T 1)),xF 43 (.ld none (T 42)),xF 44 (.len false (T 43)),xF 45 (.ld (some 2) (T 5)),⟨some 46,none,true,.e (.cal (.func 53) [(T 45)])⟩,xF 47 (.bin .mul (T 44) (T 46)),xF 48 (.cvt .u64 (T 47)),xE 49 (.cal (.func 81) [(T 41),(T 48),(C (.int .u64 0)),(C (.int .u64 1))]),xF 50 (.fad 0 (T 7)),xU (.st 1 (T 50) (T 49))]) .skip)) (.seq (.seq (.reg [xF 51 (.fad 8 (T 1)),xF 52 (.ld none (T 51)),xF 53 (.len false (T 52)),xF 54 (.mv (xZ 0))]) (.block 0 (.loop (.seq (.reg [xF 55 (.bin .lss (T 54) (T 53))]) (.seq (.cond (T 55) .skip (.exit 0)) (.seq (.block 1 (.seq (.reg [xM 56 54,xF 57 (.iad 10 (T 52) (T 54)),xF 58 (.ld (some 10) (T 57)),xF 9 (.new [(.int .u32 0),(.int .u32 0),(.int .u64 0),(.int .u64 0),(.int .u64 0),(.int .u64 0),(.int .i64 0),(.int .u64 0),(.int .u64 0),(.slice none 0 0)]),xM 8 56,xU (.st 10 (T 9) (T 58))]) (.seq (.reg [xF 59 (.fad 0 (T 9)),xF 60 (.ld none (T 59)),xF 61 (.bin .eql (T 60) (C (.int .u32 1)))]) (.cond (T 61) (.reg [xF 62 (.fad 3 (T 7)),xF 63 (.ld none (T 62)),xM 64 8,xM 65 6,xF 66 (.fad 6 (T 9)),xF 67 (.fad 2 (T 66)),xF 68 (.ld none (T 67)),xF 69 (.fad 2 (T 9)),xF 70 (.ld none (T 69)),xF 71 (.fad 5 (T 9)),xF 72 (.ld none (T 71)),⟨some 73,none,true,.e (.cal (.func 81) [(T 65),(T 68),(T 70),(T 72)])⟩,xF 74 (.iad 1 (T 63) (T 64)),xU (.st 1 (T 74) (T 73))]) .skip)))) (.reg [xF 75 (.bin .add (T 54) (xZ 1)),xM 54 75]))))))) (.seq (.seq (.reg [xF 76 (.fad 8 (T 1)),xF 77 (.ld none (T 76)),xF 78 (.len false (T 77)),xF 79 (.mv (xZ 0))]) (.block 2 (.loop (.seq (.reg [xF 80 (.bin .lss (T 79) (T 78))]) (.seq (.cond (T 80) .skip (.exit 2)) (.seq (.block 3 (.seq (.reg [xM 81 79,xF 82 (.iad 10 (T 77) (T 79)),xF 83 (.ld (some 10) (T 82)),xF 11 (.new [(.int .u32 0),(.int .u32 0),(.int .u64 0),(.int .u64 0),(.int .u64 0),(.int .u64 0),(.int .i64 0),(.int .u64 0),(.int .u64 0),(.slice none 0 0)]),xM 10 81,xU (.st 10 (T 11) (T 83))]) (.block 4 (.seq (.reg [xF 85 (.fad 6 (T 11)),xF 86 (.fad 0 (T 85)),xF 87 (.ld none (T 86)),xF 88 (.bin .neq (T 87) (C (.int .i64 (-1)))),xM 84 88]) (.cond (T 84) (.reg [xF 89 (.fad 3 (T 7)),xF 90 (.ld none (T 89)),xM 91 10,xF 92 (.fad 3 (T 7)),xF 93 (.ld none (T 92)),xF 94 (.fad 6 (T 11)),xF 95 (.fad 0 (T 94)),xF 96 (.ld none (T 95)),xF 97 (.iad 1 (T 93) (T 96)),xF 98 (.ld none (T 97)),xF 99 (.fad 6 (T 11)),xF 100 (.fad 1 (T 99)),xF 101 (.ld none (T 100)),xF 102 (.bin .add (T 98) (T 101)),xF 103 (.iad 1 (T 90) (T 91)),xU (.st 1 (T 103) (T 102))]) (.seq (.reg [xF 105 (.fad 0 (T 11)),xF 106 (.ld none (T 105)),xF 107 (.bin .neq (T 106) (C (.int .u32 1))),xM 104 107]) (.cond (T 104) (.reg [xF 108 (.fad 3 (T 7)),xF 109 (.ld none (T 108)),xM 110 10,xM 111 6,xF 112 (.fad 6 (T 11)),xF 113 (.fad 2 (T 112)),xF 114 (.ld none (T 113)),⟨some 115,none,true,.e (.cal (.func 81) [(T 111),(T 114),(C (.int .u64 0)),(C (.int .u64 8))])⟩,xF 116 (.iad 1 (T 109) (T 110)),xU (.st 1 (T 116) (T 115))]) .skip))))))) (.reg [xF 117 (.bin .add (T 79) (xZ 1)),xM 79 117]))))))) (.seq (.seq (.reg [xF 118 (.fad 9 (T 1)),xF 119 (.ld none (T 118)),xF 120 (.len false (T 119)),xF 121 (.mv (xZ 0))]) (.block 5 (.loop (.seq (.reg [xF 122 (.bin .lss (T 121) (T 120))]) (.seq (.cond (T 122) .skip (.exit 5)) (.seq (.block 6 (.seq (.reg [xM 123 121,xF 124 (.iad 13 (T 119) (T 121)),xF 125 (.ld (some 13) (T 124)),xF 13 (.new [(.int .u32 0),(.int .u32 0),(.int .u64 0),(.int .u64 0),(.int .u64 0),(.int .u32 0),(.int .u32 0),(.int .u64 0),(.int .u64 0),(.int .i64 0),(.int .u64 0),(.int .u64 0),(.slice none 0 0)]),xM 12 123,xU (.st 13 (T 13) (T 125))]) (.seq (.reg [xF 126 (.fad 9 (T 13)),xF 127 (.fad 0 (T 126)),xF 128 (.ld none (T 127)),xF 129 (.bin .neq (T 128) (C (.int .i64 (-1))))]) (.cond (T 129) (.reg [xF 130 (.fad 4 (T 7)),xF 131 (.ld none (T 130)),xM 132 12,xF 133 (.fad 3 (T 7)),xF 134 (.ld none (T 133)),xF 135 (.fad 9 (T 13)),xF 136 (.fad 0 (T 135)),xF 137 (.ld none (T 136)),xF 138 (.iad 1 (T 134) (T 137)),xF 139 (.ld none (T 138)),xF 140 (.fad 9 (T 13)),xF 141 (.fad 1 (T 140)),xF 142 (.ld none (T 141)),xF 143 (.bin .add (T 139) (T 142)),xF 144 (.iad 1 (T 131) (T 132)),xU (.st 1 (T 144) (T 143))]) (.reg [xF 145 (.fad 4 (T 7)),xF 146 (.ld none (T 145)),xM 147 12,xM 148 6,xF 149 (.fad 9 (T 13)),xF 150 (.fad 2 (T 149)),xF 151 (.ld none (T 150)),⟨some 152,none,true,.e (.cal (.func 81) [(T 148),(T 151),(C (.int .u64 0)),(C (.int .u64 8))])⟩,xF 153 (.iad 1 (T 146) (T 147)),xU (.st 1 (T 153) (T 152))]))))) (.reg [xF 154 (.bin .add (T 121) (xZ 1)),xM 121 154]))))))) (.seq (.seq (.reg [xF 155 (.fad 9 (T 1)),xF 156 (.ld none (T 155)),xF 157 (.len false (T 156)),xF 158 (.bin .gtr (T 157) (xZ 0))]) (.cond (T 158) (.reg [xM 159 6,xF 160 (.fad 9 (T 1)),xF 161 (.ld none (T 160)),xF 162 (.len false (T 161)),xF 163 (.bin .add (T 162) (xZ 1)),xF 164 (.ld (some 2) (T 5)),⟨some 165,none,true,.e (.cal (.func 82) [(T 164)])⟩,xF 166 (.bin .mul (T 163) (T 165)),xF 167 (.cvt .u64 (T 166)),xE 168 (.cal (.func 81) [(T 159),(T 167),(C (.int .u64 0)),(C (.int .u64 8))]),xF 169 (.fad 1 (T 7)),xU (.st 1 (T 169) (T 168))]) .skip)) (.seq (.reg [xM 170 6,xF 171 (.chk (T 170)),xF 172 (.fad 0 (T 171)),xF 173 (.ld none (T 172)),xF 174 (.fad 2 (T 7)),xU (.st 1 (T 174) (T 173))]) (.seq (.seq (.reg [xM 175 6,xF 176 (.chk (T 175)),xF 177 (.fad 1 (T 176)),xF 178 (.ld none (T 177))]) (.cond (T 178) (.seq (.reg [xF 179 (.bld [(.int .u64 0),(.int .u64 0),(.int .u64 0),(.slice none 0 0),(.slice none 0 0)] [] []),xF 180 (.mkI 96 (xZ 8)),xU (.st 5 (T 2) (T 179)),xM 3 180]) .ret) .skip)) (.seq (.reg [xF 181 (.ld (some 5) (T 7)),xU (.st 5 (T 2) (T 181)),xF 3 (.mv (C .nilIface))]) .ret)))))))))))))
theorem plan_Of.told:IsTold Tryz.prog 35 182 plan_Of.c [(.cell 2 (some 5)),(.tmp 3)]:=⟨Tryz.f35,_,Tryz.func35,by kernel_rfl,rfl,rfl,by kernel_rfl,by kernel_rfl⟩
def plan_planner_lay.c:AC:=(.seq (.reg [xF 8 (.mv (C (.int .u64 0)))]) (.seq (.seq (.reg [xM 10 0,xF 11 (.chk (T 10)),xF 12 (.fad 1 (T 11)),xF 13 (.ld none (T 12))]) (.cond (T 13) (.seq (.reg [xF 8 (.mv (C (.int .u64 0)))]) .ret) .skip)) (.seq (.reg [xM 14 0,xF 15 (.chk (T 14)),xF 16 (.fad 0 (T 15)),xF 17 (.ld none (T 16)),xM 18 2,xM 19 0,xF 20 (.chk (T 19)),xF 21 (.fad 0 (T 20)),xF 22 (.ld none (T 21)),xF 23 (.bin .sub (T 18) (T 22)),xM 24 3,xF 25 (.mx (T 24) (C (.int .u64 1))),xF 26 (.bin .sub (T 25) (C (.int .u64 1))),xF 27 (.bin .and (T 23) (T 26)),xF 28 (.bin .add (T 17) (T 27)),xM 9 28]) (.seq (.reg [xM 29 0,xM 30 9,xF 31 (.bin .gtr (T 30) (C (.int .u64 65536))),xM 32 31,xN 33 32 false 1,xN 34 32 false 9,xG 35 32 false (.bin .sub (C (.int .u64 65536)) (T 34)),xG 36 32 false (.bin .gtr (T 33) (T 35)),xF 37 (.pick (T 32) (C (.bool true)) (T 36)),xF 38 (.chk (T 29)),xF 39 (.fad 1 (T 38)),xU (.st 1 (T 39) (T 37))]) (.seq (.reg [xM 40 0,xM 41 9,xM 42 1,xF 43 (.bin .add (T 41) (T 42)),xF 44 (.chk (T 40)),xF 45 (.fad 0 (T 44)),xU (.st 1 (T 45) (T 43))]) (.seq (.reg [xM 46 9,xM 8 46]) .ret))))))
theorem plan_planner_lay.told:IsTold Tryz.prog 81 47 plan_planner_lay.c [(.tmp 8)]:=⟨Tryz.f81,_,Tryz.func81,by kernel_rfl,rfl,rfl,by kernel_rfl,by kernel_rfl⟩
end Go.Proofs.YtcffpnlochillaaGreatDoor.Cd
end

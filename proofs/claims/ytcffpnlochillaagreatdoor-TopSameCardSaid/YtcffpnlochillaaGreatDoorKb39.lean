/- A heap of plain values, walks over it, and functions of the program met by them: no statement of the set is proved in this text. -/
import Derived.Test.YtcffpnlochillaaGreatDoorKb38
set_option linter.unusedVariables false
set_option linter.unusedSimpArgs false
set_option maxRecDepth 100000
set_option maxHeartbeats 4000000
section
namespace Go.Proofs.YtcffpnlochillaaGreatDoor.PvW
open Go.RowKit Go.Proofs.YtcffpnlochillaaGreatDoor.Cd Go.Proofs.YtcffpnlochillaaGreatDoor.AbP Go.Proofs.YtcffpnlochillaaGreatDoor.Num Go.Proofs.YtcffpnlochillaaGreatDoor.Pv
theorem secsP_succ {b:List Int} {w big:Bool} {so st:Int} {L:List dProgM.T} {i:Nat}:secsP b w big so L st (i+1)=secsP b w big so L st i++[secOf b L st (i+1) (secAt b w big so (i+1))]:=by
  unfold secsP
  rw [List.range_succ,List.map_append]
  rfl
theorem secsP_len {b:List Int} {w big:Bool} {so st:Int} {L:List dProgM.T} {i:Nat}:(secsP b w big so L st i).length=i:=by simp [secsP]
theorem secAt_N {b:List Int} (hB:B b) (w big:Bool) (so:Int) (i:Nat):∃ nm ty fl ad off si li sf al en:Int,secAt b w big so i=(nm,ty,fl,ad,off,si,li,sf,al,en,PUnit.unit)∧SectN nm ty fl ad off si li sf al en:=sectG_N hB w big _
section
variable {K:PV→List OB→Prop} {b:List Int} {w big:Bool} {o ab ty ma en po so fl pn sn sx np ns f0 f1 f2 f3 f4 f5 f6 f7 f8 f9 st:Int} {loads:List dProgM.T} {segs:List dSeg.T} {secs:List dSec.T}
theorem frest_spec (hB:Am (B b)) (hb:Om (b.length≤1000000)) (hso:Om (0≤so∧so≤18446744073709551615)) (hns:Om (0≤ns∧ns≤65)) (hin:ns=0∨so+ns * ssz w≤b.length) (hL:LoadsN loads) (hll:Om (loads.length≤1000)) (hst:Om (0≤st∧st≤4294967295))
    (hk1:∀ a c,firstE (fun k=>secE b w big so (k+1)) (ns - 1).toNat=some (a,c)→∀ L:List dSec.T,K (eSpot a c) [.var [.sl (.int .u8) b,.bool w,.bool big,.int .u8 o,.int .u8 ab,.int .u16 ty,.int .u16 ma,.int .u64 en,.int .u64 po,.int .u64 so,.int .u32 fl,.int .u16 pn,.int .u16 sn,.int .u16 sx,.bool w,.bool big,.int .u64 np,.int .u64 ns,.int .u32 f0,.int .u32 f1,.int .u64 f2,.int .u64 f3,.int .u64 f4,.int .u64 f5,.int .u32 f6,.int .u32 f7,.int .u64 f8,.int .u64 f9,.bool w,.bool big,.int .u8 o,.int .u8 ab,.int .u16 ty,.int .u16 ma,.int .u32 fl,.int .u64 en,.osl 2 segs.length,.osl 3 L.length,.int .i64 st,.osl 1 loads.length],.arr dProgM loads,.arr dSeg segs,.arr dSec L])
    (hk2:firstE (fun k=>secE b w big so (k+1)) (ns - 1).toNat=none→K .nilI [.var [.sl (.int .u8) b,.bool w,.bool big,.int .u8 o,.int .u8 ab,.int .u16 ty,.int .u16 ma,.int .u64 en,.int .u64 po,.int .u64 so,.int .u32 fl,.int .u16 pn,.int .u16 sn,.int .u16 sx,.bool w,.bool big,.int .u64 np,.int .u64 ns,.int .u32 f0,.int .u32 f1,.int .u64 f2,.int .u64 f3,.int .u64 f4,.int .u64 f5,.int .u32 f6,.int .u32 f7,.int .u64 f8,.int .u64 f9,.bool w,.bool big,.int .u8 o,.int .u8 ab,.int .u16 ty,.int .u16 ma,.int .u32 fl,.int .u64 en,.osl 2 segs.length,.osl 3 ((secsP b w big so loads st (ns - 1).toNat)).length,.int .i64 st,.osl 1 loads.length],.arr dProgM loads,.arr dSeg segs,.arr dSec (secsP b w big so loads st (ns - 1).toNat)]) :
    PCalls Tryz.prog 44 [.ptr 0 0] [.var [.sl (.int .u8) b,.bool w,.bool big,.int .u8 o,.int .u8 ab,.int .u16 ty,.int .u16 ma,.int .u64 en,.int .u64 po,.int .u64 so,.int .u32 fl,.int .u16 pn,.int .u16 sn,.int .u16 sx,.bool w,.bool big,.int .u64 np,.int .u64 ns,.int .u32 f0,.int .u32 f1,.int .u64 f2,.int .u64 f3,.int .u64 f4,.int .u64 f5,.int .u32 f6,.int .u32 f7,.int .u64 f8,.int .u64 f9,.bool w,.bool big,.int .u8 o,.int .u8 ab,.int .u16 ty,.int .u16 ma,.int .u32 fl,.int .u64 en,.osl 2 segs.length,.osl 3 (([]:List dSec.T)).length,.int .i64 st,.osl 1 loads.length],.arr dProgM loads,.arr dSeg segs,.arr dSec ([]:List dSec.T)] K:=by
  have hB:=hB.o
  have hb:=hb.o
  have hso:=hso.o
  have hns:=hns.o
  have hll:=hll.o
  have hst:=hst.o
  have hsz:40≤ssz w∧ssz w≤64:=by cases w <;> decide
  have hcz:IntKind.wrap .u64 (if w=true then 64 else 40)=ssz w:=by cases w <;> rfl
  refine told_callS file_parser_rest.told fun Z hZ=>?_
  unfold file_parser_rest.c
  refine W1 trivial @DD trivial ?_
  refine w_lpG (fun q e s=>∃ i:Nat,q+i=(ns - 1).toNat∧s=[.var [.sl (.int .u8) b,.bool w,.bool big,.int .u8 o,.int .u8 ab,.int .u16 ty,.int .u16 ma,.int .u64 en,.int .u64 po,.int .u64 so,.int .u32 fl,.int .u16 pn,.int .u16 sn,.int .u16 sx,.bool w,.bool big,.int .u64 np,.int .u64 ns,.int .u32 f0,.int .u32 f1,.int .u64 f2,.int .u64 f3,.int .u64 f4,.int .u64 f5,.int .u32 f6,.int .u32 f7,.int .u64 f8,.int .u64 f9,.bool w,.bool big,.int .u8 o,.int .u8 ab,.int .u16 ty,.int .u16 ma,.int .u32 fl,.int .u64 en,.osl 2 segs.length,.osl 3 ((secsP b w big so loads st i)).length,.int .i64 st,.osl 1 loads.length],.arr dProgM loads,.arr dSeg segs,.arr dSec (secsP b w big so loads st i)]∧(∀ j,j < i→secE b w big so (j+1)=none)∧e 0 = .ptr 0 0∧e 3 = .int .u64 ((i+1:Nat):Int)) (ns - 1).toNat ?_ ?_
  · exact ⟨0,rfl,rfl,fun j hj=>by omega,by exact lk trivial,by exact lk trivial⟩
  rintro q e s ⟨i,hi,rfl,hno,e0,e3⟩
  have hcl:=secsP_len (b:=b) (w:=w) (big:=big) (so:=so) (st:=st) (L:=loads) (i:=i)
  by_cases hq:i < (ns - 1).toNat
  · have hiz:((i+1:Nat):Int) * ssz w+ssz w≤ns * ssz w:=by
      have:((i+2:Nat):Int) * ssz w≤ns * ssz w:=Int.mul_le_mul_of_nonneg_right (by omega) (by omega)
      have e:((i+2:Nat):Int) * ssz w=((i+1:Nat):Int) * ssz w+ssz w:=by push_cast;rw [Int.add_mul,Int.add_mul,Int.one_mul]
      omega
    have hi0:0≤((i+1:Nat):Int) * ssz w:=Int.mul_nonneg (by omega) (by omega)
    have hin':so+ns * ssz w≤b.length:=by rcases hin with h | h;omega;exact h
    have hw1:IntKind.wrap .u64 (((i+1:Nat):Int) * ssz w)=((i+1:Nat):Int) * ssz w:=by rw [wU64];omega
    have hw2:IntKind.wrap .u64 (so+((i+1:Nat):Int) * ssz w)=so+((i+1:Nat):Int) * ssz w:=by rw [wU64];omega
    have hle:so+((i+1:Nat):Int) * ssz w+ssz w≤(b.length:Int):=by omega
    obtain ⟨nm,cty,cfl,ad,off,si,li,sf,al,cen,hx,hN⟩:=secAt_N hB w big so (i+1)
    have hss:=secsP_succ (b:=b) (w:=w) (big:=big) (so:=so) (st:=st) (L:=loads) (i:=i)
    have hEi:secE b w big so (i+1)=if 0 < (if cty=0∨cty=8 then 0 else si)∧withinB off (if cty=0∨cty=8 then 0 else si) b.length=false then some (so+((i+1:Nat):Int) * ssz w,(5:Int)) else none:=by unfold secE;rw [hx];rfl
    obtain ⟨p,hp⟩:∃ p,p=secPl b loads st (i+1) (nm,cty,cfl,ad,off,si,li,sf,al,cen,PUnit.unit):=⟨_,rfl⟩
    have hso2:secOf b loads st (i+1) (nm,cty,cfl,ad,off,si,li,sf,al,cen,PUnit.unit)=(nm,cty,cfl,ad,si,li,sf,al,cen,plT p,PUnit.unit):=by rw [hp];rfl
    rw [hx,hso2] at hss
    unfold secAt at hx
    have hnext:secE b w big so (i+1)=none→∀ j,j < i+1→secE b w big so (j+1)=none:=fun h j hj=>by
      by_cases hji:j < i
      · exact hno j hji
      · obtain rfl:j=i:=by omega
        exact h
    have hN2:=hN.off
    have hN3:=hN.si
    have hNt:=hN.ty
    have hc1:IntKind.wrap .i64 ((i+1:Nat):Int)=((i+1:Nat):Int):=by rw [wI64];omega
    generalize secsP b w big so loads st i=G at *
    generalize hI:((i+1:Nat):Int)=I at *
    by_cases h0:cty=0
    · have hz:(if cty=0∨cty=8 then 0 else si)=0:=if_pos (.inl h0)
      rw [hz,if_neg (fun h=>absurd h.1 (by decide))] at hEi
      have e1:p=(-1,0,0,[]):=by rw [hp];unfold secPl;exact if_pos (.inl h0)
      rw [e1] at hss
      refine W1 (And.intro @e0 @e3) (And.intro @DD (And.intro @hcz (And.intro @hw1 @hw2))) (And.intro @ssize_spec (And.intro @sgetT_spec (@oArr 6 dSec))) ?_
      exact ⟨q - 1,by omega,_,_,Gh.sel [0,1,2,3] (by decide) (hz4 hZ (by decide)),i+1,by omega,by rw [hss,List.length_append];rfl,hnext hEi,by exact lk @e0,by rw [show ((i+1+1:Nat):Int)=I+1 by omega];exact lk @e3⟩
    by_cases h8:cty=8
    · have hz:(if cty=0∨cty=8 then 0 else si)=0:=if_pos (.inr h8)
      rw [hz,if_neg (fun h=>absurd h.1 (by decide))] at hEi
      have e1:p=(-1,0,0,[]):=by rw [hp];unfold secPl;exact if_pos (.inr h8)
      rw [e1] at hss
      refine W1 (And.intro @e0 @e3) (And.intro @DD (And.intro @hcz (And.intro @hw1 @hw2))) (And.intro @ssize_spec (And.intro @sgetT_spec (@oArr 6 dSec))) ?_
      exact ⟨q - 1,by omega,_,_,Gh.sel [0,1,2,3] (by decide) (hz4 hZ (by decide)),i+1,by omega,by rw [hss,List.length_append];rfl,hnext hEi,by exact lk @e0,by rw [show ((i+1+1:Nat):Int)=I+1 by omega];exact lk @e3⟩
    have hz:(if cty=0∨cty=8 then 0 else si)=si:=if_neg (by omega)
    rw [hz] at hEi
    have hpl:p=if I=st then ownP b off si else findP b off si loads 0:=by rw [hp,← hI];unfold secPl;exact if_neg (by show ¬ (cty=0∨cty=8);omega)
    by_cases h1:0 < si
    · cases h2:withinB off si b.length
      · rw [if_pos ⟨h1,h2⟩] at hEi
        have:=hk1 _ _ (firstE_some (f:=fun k=>secE b w big so (k+1)) hno hEi hq) G
        refine W1 (And.intro @e0 @e3) (And.intro @DD (And.intro @hcz (And.intro @hw1 @hw2))) (And.intro @ssize_spec @sgetT_spec) ?_
        apply ca_S [0,1,2,3];(repeat any_goals first | exact mp_z | apply mp_s | exact rs_z | apply rs_t | apply rs_n | apply rs_c);(repeat any_goals first | (apply Lk.i;(simp only [↓LL,↓reduceIte,Nat.reduceEqDiff,e0,e3];(try rfl);done)) | (apply Rf.i;first | rfl | assumption) | (apply Vl.i;((try simp (disch:=omega) only [VV,↓reduceIte,peqI,encP,e0,e3]);(try rfl);done)) | (apply Am.i;assumption) | (apply Pu.i;((try simp only [↓reduceIte,UU,RR,Nat.reduceAdd,Nat.reduceEqDiff,cellsP,putP,fillQ,flatQ,shP,sh1,encP]);(try rfl);done)) | (apply Om.i;((try simp only [MM]);(try omega);done)) | (apply Vw.i;exact VwA));(all_goals fail_if_success apply Mk.i)
        refine fhas_f ⟨h2⟩ ⟨hN2⟩ ⟨hb⟩ ?_
        refine W1 (And.intro @e0 @e3) @DD @fspot_spec ?_
        exact ⟨_,rfl,rfl,this⟩
      · rw [if_neg (fun h=>by rw [h2] at h;cases h.2)] at hEi
        have hof:si=0∨off+si≤b.length:=by have:=within_le h2;omega
        refine W1 (And.intro @e0 @e3) (And.intro @DD (And.intro @hcz (And.intro @hw1 @hw2))) (And.intro @ssize_spec @sgetT_spec) ?_
        apply ca_S [0,1,2,3];(repeat any_goals first | exact mp_z | apply mp_s | exact rs_z | apply rs_t | apply rs_n | apply rs_c);(repeat any_goals first | (apply Lk.i;(simp only [↓LL,↓reduceIte,Nat.reduceEqDiff,e0,e3];(try rfl);done)) | (apply Rf.i;first | rfl | assumption) | (apply Vl.i;((try simp (disch:=omega) only [VV,↓reduceIte,peqI,encP,e0,e3]);(try rfl);done)) | (apply Am.i;assumption) | (apply Pu.i;((try simp only [↓reduceIte,UU,RR,Nat.reduceAdd,Nat.reduceEqDiff,cellsP,putP,fillQ,flatQ,shP,sh1,encP]);(try rfl);done)) | (apply Om.i;((try simp only [MM]);(try omega);done)) | (apply Vw.i;exact VwA));(all_goals fail_if_success apply Mk.i)
        refine fhas_t ⟨h2⟩ ⟨hN2⟩ ⟨hb⟩ ?_
        refine W1 (And.intro @e0 @e3) @DD trivial ?_
        apply ca_S [0,1,2,3];(repeat any_goals first | exact mp_z | apply mp_s | exact rs_z | apply rs_t | apply rs_n | apply rs_c);(repeat any_goals first | (apply Lk.i;(simp only [↓LL,↓reduceIte,Nat.reduceEqDiff,e0,e3];(try rfl);done)) | (apply Rf.i;first | rfl | assumption) | (apply Vl.i;((try simp (disch:=omega) only [VV,↓reduceIte,peqI,encP,e0,e3]);(try rfl);done)) | (apply Am.i;assumption) | (apply Pu.i;((try simp only [↓reduceIte,UU,RR,Nat.reduceAdd,Nat.reduceEqDiff,cellsP,putP,fillQ,flatQ,shP,sh1,encP]);(try rfl);done)) | (apply Om.i;((try simp only [MM]);(try omega);done)) | (apply Vw.i;exact VwA));(all_goals fail_if_success apply Mk.i)
        refine ffind_spec ⟨by omega⟩ ⟨hof⟩ ⟨hb⟩ ⟨by omega⟩ hL ?_
        by_cases h9:I=st
        · rw [if_pos h9] at hpl
          refine W1 (And.intro @e0 @e3) (And.intro @DD @hc1) trivial ?_
          apply ca_S [0,1,2,3];(repeat any_goals first | exact mp_z | apply mp_s | exact rs_z | apply rs_t | apply rs_n | apply rs_c);(repeat any_goals first | (apply Lk.i;(simp only [↓LL,↓reduceIte,Nat.reduceEqDiff,e0,e3];(try rfl);done)) | (apply Rf.i;first | rfl | assumption) | (apply Vl.i;((try simp (disch:=omega) only [VV,↓reduceIte,peqI,encP,e0,e3]);(try rfl);done)) | (apply Am.i;assumption) | (apply Pu.i;((try simp only [↓reduceIte,UU,RR,Nat.reduceAdd,Nat.reduceEqDiff,cellsP,putP,fillQ,flatQ,shP,sh1,encP]);(try rfl);done)) | (apply Om.i;((try simp only [MM]);(try omega);done)) | (apply Vw.i;exact VwA));(all_goals fail_if_success apply Mk.i)
          refine fown_spec ⟨by omega⟩ ⟨hof⟩ ⟨hb⟩ ?_
          rw [← hpl]
          refine W1 (And.intro @e0 @e3) @DD (@oArr 6 dSec) ?_
          exact ⟨q - 1,by omega,_,_,Gh.sel [0,1,2,3] (by decide) (hz4 hZ (by decide)),i+1,by omega,by rw [hss,List.length_append];rfl,hnext hEi,by exact lk @e0,by rw [show ((i+1+1:Nat):Int)=I+1 by omega];exact lk @e3⟩
        · rw [if_neg h9] at hpl
          rw [← hpl]
          refine W1 (And.intro @e0 @e3) (And.intro @DD @hc1) (@oArr 6 dSec) ?_
          exact ⟨q - 1,by omega,_,_,Gh.sel [0,1,2,3] (by decide) (hz4 hZ (by decide)),i+1,by omega,by rw [hss,List.length_append];rfl,hnext hEi,by exact lk @e0,by rw [show ((i+1+1:Nat):Int)=I+1 by omega];exact lk @e3⟩
    · rw [if_neg (fun h=>h1 h.1)] at hEi
      have hof:si=0∨off+si≤b.length:=by omega
      refine W1 (And.intro @e0 @e3) (And.intro @DD (And.intro @hcz (And.intro @hw1 @hw2))) (And.intro @ssize_spec @sgetT_spec) ?_
      apply ca_S [0,1,2,3];(repeat any_goals first | exact mp_z | apply mp_s | exact rs_z | apply rs_t | apply rs_n | apply rs_c);(repeat any_goals first | (apply Lk.i;(simp only [↓LL,↓reduceIte,Nat.reduceEqDiff,e0,e3];(try rfl);done)) | (apply Rf.i;first | rfl | assumption) | (apply Vl.i;((try simp (disch:=omega) only [VV,↓reduceIte,peqI,encP,e0,e3]);(try rfl);done)) | (apply Am.i;assumption) | (apply Pu.i;((try simp only [↓reduceIte,UU,RR,Nat.reduceAdd,Nat.reduceEqDiff,cellsP,putP,fillQ,flatQ,shP,sh1,encP]);(try rfl);done)) | (apply Om.i;((try simp only [MM]);(try omega);done)) | (apply Vw.i;exact VwA));(all_goals fail_if_success apply Mk.i)
      refine ffind_spec ⟨by omega⟩ ⟨hof⟩ ⟨hb⟩ ⟨by omega⟩ hL ?_
      by_cases h9:I=st
      · rw [if_pos h9] at hpl
        refine W1 (And.intro @e0 @e3) (And.intro @DD @hc1) trivial ?_
        apply ca_S [0,1,2,3];(repeat any_goals first | exact mp_z | apply mp_s | exact rs_z | apply rs_t | apply rs_n | apply rs_c);(repeat any_goals first | (apply Lk.i;(simp only [↓LL,↓reduceIte,Nat.reduceEqDiff,e0,e3];(try rfl);done)) | (apply Rf.i;first | rfl | assumption) | (apply Vl.i;((try simp (disch:=omega) only [VV,↓reduceIte,peqI,encP,e0,e3]);(try rfl);done)) | (apply Am.i;assumption) | (apply Pu.i;((try simp only [↓reduceIte,UU,RR,Nat.reduceAdd,Nat.reduceEqDiff,cellsP,putP,fillQ,flatQ,shP,sh1,encP]);(try rfl);done)) | (apply Om.i;((try simp only [MM]);(try omega);done)) | (apply Vw.i;exact VwA));(all_goals fail_if_success apply Mk.i)
        refine fown_spec ⟨by omega⟩ ⟨hof⟩ ⟨hb⟩ ?_
        rw [← hpl]
        refine W1 (And.intro @e0 @e3) @DD (@oArr 6 dSec) ?_
        exact ⟨q - 1,by omega,_,_,Gh.sel [0,1,2,3] (by decide) (hz4 hZ (by decide)),i+1,by omega,by rw [hss,List.length_append];rfl,hnext hEi,by exact lk @e0,by rw [show ((i+1+1:Nat):Int)=I+1 by omega];exact lk @e3⟩
      · rw [if_neg h9] at hpl
        rw [← hpl]
        refine W1 (And.intro @e0 @e3) (And.intro @DD @hc1) (@oArr 6 dSec) ?_
        exact ⟨q - 1,by omega,_,_,Gh.sel [0,1,2,3] (by decide) (hz4 hZ (by decide)),i+1,by omega,by rw [hss,List.length_append];rfl,hnext hEi,by exact lk @e0,by rw [show ((i+1+1:Nat):Int)=I+1 by omega];exact lk @e3⟩
  · have hz:i=(ns - 1).toNat:=by omega
    subst hz
    have:=hk2 (firstE_none hno)
    refine W1 (And.intro @e0 @e3) @DD trivial ?_
    exact ⟨_,rfl,rfl,this⟩
end
end Go.Proofs.YtcffpnlochillaaGreatDoor.PvW
end

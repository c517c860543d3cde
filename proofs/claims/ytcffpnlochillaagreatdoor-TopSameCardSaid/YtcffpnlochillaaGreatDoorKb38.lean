/- A heap of plain values, walks over it, and functions of the program met by them: no statement of the set is proved in this text. -/
import Derived.Test.YtcffpnlochillaaGreatDoorKb37
set_option linter.unusedVariables false
set_option linter.unusedSimpArgs false
set_option maxRecDepth 100000
set_option maxHeartbeats 4000000
section
namespace Go.Proofs.YtcffpnlochillaaGreatDoor.PvW
open Go.RowKit Go.Proofs.YtcffpnlochillaaGreatDoor.Cd Go.Proofs.YtcffpnlochillaaGreatDoor.AbP Go.Proofs.YtcffpnlochillaaGreatDoor.Num Go.Proofs.YtcffpnlochillaaGreatDoor.Pv
theorem loadsP_succ {b:List Int} {w big:Bool} {po:Int} {i:Nat}:loadsP b w big po (i+1)=loadsP b w big po i++[loadAt b w big po i]:=by
  unfold loadsP
  rw [List.range_succ,List.map_append]
  rfl
theorem loadsP_len {b:List Int} {w big:Bool} {po:Int} {i:Nat}:(loadsP b w big po i).length=i:=by simp [loadsP]
theorem loadAt_N {b:List Int} (hB:B b) (w big:Bool) (po:Int) (i:Nat):∃ t fl off va pa fs me al:Int,loadAt b w big po i=(t,fl,off,va,pa,fs,me,al,PUnit.unit)∧ProgN t fl off va pa fs me al:=progG_N hB w big _
theorem loadsP_N {b:List Int} (hB:B b) {w big:Bool} {po:Int} {n:Nat}:LoadsN (loadsP b w big po n):=by
  intro x hx
  unfold loadsP at hx
  obtain ⟨i,-,rfl⟩:=List.mem_map.1 hx
  obtain ⟨t,fl,off,va,pa,fs,me,al,e,hN⟩:=loadAt_N hB w big po i
  rw [e]
  exact ⟨hN.t,hN.off,hN.fs⟩
theorem loadsP_at {b:List Int} {w big:Bool} {po:Int} {n i:Nat} (hi:i < n):(loadsP b w big po n)[i]? = some (loadAt b w big po i):=by
  unfold loadsP
  rw [List.getElem?_map,List.getElem?_range hi]
  rfl
def segsT (b:List Int) (L:List dProgM.T) (i:Nat):List dSeg.T:=(L.take i).map (segOf b L)
theorem segsT_succ {b:List Int} {L:List dProgM.T} {i:Nat} {x:dProgM.T} (hx:L[i]? = some x):segsT b L (i+1)=segsT b L i++[segOf b L x]:=by
  unfold segsT
  rw [List.take_add_one,hx,List.map_append]
  rfl
theorem segsT_len {b:List Int} {L:List dProgM.T} {i:Nat} (h:i≤L.length):(segsT b L i).length=i:=by
  unfold segsT
  rw [List.length_map,List.length_take]
  omega
theorem segsT_all {b:List Int} {L:List dProgM.T}:segsT b L L.length=segsP b L:=by
  unfold segsT segsP
  rw [List.take_length]
theorem within_le {a n m:Int} (h:withinB a n m=true):a≤m∧n≤m - a:=by
  simpa only [withinB,Bool.and_eq_true,decide_eq_true_eq] using h
theorem loadE_none {b:List Int} {w big:Bool} {po:Int} {i:Nat} {t fl off va pa fs me al:Int} (h:loadE b w big po i=none) (e:loadAt b w big po i=(t,fl,off,va,pa,fs,me,al,PUnit.unit)) (hf:0≤fs) (ho:0≤off):fs=0∨off+fs≤b.length:=by
  unfold loadE at h
  rw [e] at h
  by_cases h0:fs=0
  · exact .inl h0
  right
  cases hw:withinB off fs b.length with
  | true=>have:=within_le hw;omega
  | false =>
    have h:(if 0 < fs∧withinB off fs b.length=false then some (po+(i:Int) * psz w,(5:Int)) else none)=none:=h
    rw [if_pos ⟨by omega,hw⟩] at h
    cases h
section
variable {K:PV→List OB→Prop} {b:List Int} {w big:Bool} {o ab ty ma en po so fl pn sn sx np ns f0 f1 f2 f3 f4 f5 f6 f7 f8 f9 st:Int} {loads:List dProgM.T} {segs:List dSeg.T} {secs:List dSec.T}
theorem fsegments_spec {n:Nat} (hB:Am (B b)) (hb:Om (b.length≤1000000)) (hpo:Om (0≤po∧po≤18446744073709551615)) (hn:Om (n≤16)) (hin:n=0∨po+n * psz w≤b.length)
    (hk1:∀ a c,firstE (loadE b w big po) n=some (a,c)→∀ L:List dProgM.T,K (eSpot a c) [.var [.sl (.int .u8) b,.bool w,.bool big,.int .u8 o,.int .u8 ab,.int .u16 ty,.int .u16 ma,.int .u64 en,.int .u64 po,.int .u64 so,.int .u32 fl,.int .u16 pn,.int .u16 sn,.int .u16 sx,.bool w,.bool big,.int .u64 (n:Int),.int .u64 ns,.int .u32 f0,.int .u32 f1,.int .u64 f2,.int .u64 f3,.int .u64 f4,.int .u64 f5,.int .u32 f6,.int .u32 f7,.int .u64 f8,.int .u64 f9,.bool w,.bool big,.int .u8 o,.int .u8 ab,.int .u16 ty,.int .u16 ma,.int .u32 fl,.int .u64 en,.osl 2 (([]:List dSeg.T)).length,.osl 3 secs.length,.int .i64 st,.osl 1 L.length],.arr dProgM L,.arr dSeg ([]:List dSeg.T),.arr dSec secs])
    (hk2:firstE (loadE b w big po) n=none→K .nilI [.var [.sl (.int .u8) b,.bool w,.bool big,.int .u8 o,.int .u8 ab,.int .u16 ty,.int .u16 ma,.int .u64 en,.int .u64 po,.int .u64 so,.int .u32 fl,.int .u16 pn,.int .u16 sn,.int .u16 sx,.bool w,.bool big,.int .u64 (n:Int),.int .u64 ns,.int .u32 f0,.int .u32 f1,.int .u64 f2,.int .u64 f3,.int .u64 f4,.int .u64 f5,.int .u32 f6,.int .u32 f7,.int .u64 f8,.int .u64 f9,.bool w,.bool big,.int .u8 o,.int .u8 ab,.int .u16 ty,.int .u16 ma,.int .u32 fl,.int .u64 en,.osl 2 ((segsP b (loadsP b w big po n))).length,.osl 3 secs.length,.int .i64 st,.osl 1 ((loadsP b w big po n)).length],.arr dProgM (loadsP b w big po n),.arr dSeg (segsP b (loadsP b w big po n)),.arr dSec secs]) :
    PCalls Tryz.prog 43 [.ptr 0 0] [.var [.sl (.int .u8) b,.bool w,.bool big,.int .u8 o,.int .u8 ab,.int .u16 ty,.int .u16 ma,.int .u64 en,.int .u64 po,.int .u64 so,.int .u32 fl,.int .u16 pn,.int .u16 sn,.int .u16 sx,.bool w,.bool big,.int .u64 (n:Int),.int .u64 ns,.int .u32 f0,.int .u32 f1,.int .u64 f2,.int .u64 f3,.int .u64 f4,.int .u64 f5,.int .u32 f6,.int .u32 f7,.int .u64 f8,.int .u64 f9,.bool w,.bool big,.int .u8 o,.int .u8 ab,.int .u16 ty,.int .u16 ma,.int .u32 fl,.int .u64 en,.osl 2 (([]:List dSeg.T)).length,.osl 3 secs.length,.int .i64 st,.osl 1 (([]:List dProgM.T)).length],.arr dProgM ([]:List dProgM.T),.arr dSeg ([]:List dSeg.T),.arr dSec secs] K:=by
  have hB:=hB.o
  have hb:=hb.o
  have hpo:=hpo.o
  have hn:=hn.o
  have hpz:32≤psz w∧psz w≤56:=by cases w <;> decide
  have hcz:IntKind.wrap .u64 (if w=true then 56 else 32)=psz w:=by cases w <;> rfl
  refine told_callS file_parser_segments.told fun Z hZ=>?_
  unfold file_parser_segments.c
  refine W1 trivial @DD trivial ?_
  refine w_lpG (fun q e s=>∃ i:Nat,q+i=n∧s=[.var [.sl (.int .u8) b,.bool w,.bool big,.int .u8 o,.int .u8 ab,.int .u16 ty,.int .u16 ma,.int .u64 en,.int .u64 po,.int .u64 so,.int .u32 fl,.int .u16 pn,.int .u16 sn,.int .u16 sx,.bool w,.bool big,.int .u64 (n:Int),.int .u64 ns,.int .u32 f0,.int .u32 f1,.int .u64 f2,.int .u64 f3,.int .u64 f4,.int .u64 f5,.int .u32 f6,.int .u32 f7,.int .u64 f8,.int .u64 f9,.bool w,.bool big,.int .u8 o,.int .u8 ab,.int .u16 ty,.int .u16 ma,.int .u32 fl,.int .u64 en,.osl 2 (([]:List dSeg.T)).length,.osl 3 secs.length,.int .i64 st,.osl 1 ((loadsP b w big po i)).length],.arr dProgM (loadsP b w big po i),.arr dSeg ([]:List dSeg.T),.arr dSec secs]∧(∀ j,j < i→loadE b w big po j=none)∧e 0 = .ptr 0 0∧e 13 = .int .u64 n∧e 14 = .int .u64 i) n ?_ ?_
  · exact ⟨0,rfl,rfl,fun j hj=>by omega,by exact lk trivial,by exact lk trivial,by exact lk trivial⟩
  rintro q e s ⟨i,hi,rfl,hno,e0,e13,e14⟩
  by_cases hq:i < n
  · have hiz:(i:Int) * psz w+psz w≤(n:Int) * psz w:=by
      have:((i+1:Nat):Int) * psz w≤(n:Int) * psz w:=Int.mul_le_mul_of_nonneg_right (by omega) (by omega)
      have e:((i+1:Nat):Int) * psz w=(i:Int) * psz w+psz w:=by push_cast;rw [Int.add_mul,Int.one_mul]
      omega
    have hi0:0≤(i:Int) * psz w:=Int.mul_nonneg (by omega) (by omega)
    have hin':po+n * psz w≤b.length:=by rcases hin with h | h;omega;exact h
    have hw1:IntKind.wrap .u64 ((i:Int) * psz w)=(i:Int) * psz w:=by rw [wU64];omega
    have hw2:IntKind.wrap .u64 (po+(i:Int) * psz w)=po+(i:Int) * psz w:=by rw [wU64];omega
    have hle:po+(i:Int) * psz w+psz w≤(b.length:Int):=by omega
    have hll:=loadsP_len (b:=b) (w:=w) (big:=big) (po:=po) (i:=i)
    obtain ⟨t,pf,off,va,pa,fs,me,al,hx,hN⟩:=loadAt_N hB w big po i
    have hls:=loadsP_succ (b:=b) (w:=w) (big:=big) (po:=po) (i:=i)
    rw [hx] at hls
    have hEi:loadE b w big po i=if 0 < fs∧withinB off fs b.length=false then some (po+(i:Int) * psz w,(5:Int)) else none:=by unfold loadE;rw [hx]
    unfold loadAt at hx
    have hno2:=hN.off
    have hnf:=hN.fs
    generalize loadsP b w big po i=L at *
    by_cases h1:0 < fs
    · cases h2:withinB off fs b.length
      · rw [if_pos ⟨h1,h2⟩] at hEi
        have:=hk1 _ _ (firstE_some hno hEi hq) L
        refine W1 (And.intro @e0 (And.intro @e13 @e14)) (And.intro @DD (And.intro @hcz (And.intro @hw1 @hw2))) (And.intro @psize_spec @pgetT_spec) ?_
        apply ca_S [0,1,2,3];(repeat any_goals first | exact mp_z | apply mp_s | exact rs_z | apply rs_t | apply rs_n | apply rs_c);(repeat any_goals first | (apply Lk.i;(simp only [↓LL,↓reduceIte,Nat.reduceEqDiff,e0,e13,e14];(try rfl);done)) | (apply Rf.i;first | rfl | assumption) | (apply Vl.i;((try simp (disch:=omega) only [VV,↓reduceIte,peqI,encP,e0,e13,e14]);(try rfl);done)) | (apply Am.i;assumption) | (apply Pu.i;((try simp only [↓reduceIte,UU,RR,Nat.reduceAdd,Nat.reduceEqDiff,cellsP,putP,fillQ,flatQ,shP,sh1,encP]);(try rfl);done)) | (apply Om.i;((try simp only [MM]);(try omega);done)) | (apply Vw.i;exact VwA));(all_goals fail_if_success apply Mk.i)
        refine fhas_f (segs:=[]) ⟨h2⟩ ⟨hno2⟩ ⟨hb⟩ ?_
        refine W1 (And.intro @e0 (And.intro @e13 @e14)) @DD @fspot_spec ?_
        exact ⟨_,rfl,rfl,this⟩
      · rw [if_neg (fun h=>by rw [h2] at h;cases h.2)] at hEi
        refine W1 (And.intro @e0 (And.intro @e13 @e14)) (And.intro @DD (And.intro @hcz (And.intro @hw1 @hw2))) (And.intro @psize_spec @pgetT_spec) ?_
        apply ca_S [0,1,2,3];(repeat any_goals first | exact mp_z | apply mp_s | exact rs_z | apply rs_t | apply rs_n | apply rs_c);(repeat any_goals first | (apply Lk.i;(simp only [↓LL,↓reduceIte,Nat.reduceEqDiff,e0,e13,e14];(try rfl);done)) | (apply Rf.i;first | rfl | assumption) | (apply Vl.i;((try simp (disch:=omega) only [VV,↓reduceIte,peqI,encP,e0,e13,e14]);(try rfl);done)) | (apply Am.i;assumption) | (apply Pu.i;((try simp only [↓reduceIte,UU,RR,Nat.reduceAdd,Nat.reduceEqDiff,cellsP,putP,fillQ,flatQ,shP,sh1,encP]);(try rfl);done)) | (apply Om.i;((try simp only [MM]);(try omega);done)) | (apply Vw.i;exact VwA));(all_goals fail_if_success apply Mk.i)
        refine fhas_t (segs:=[]) ⟨h2⟩ ⟨hno2⟩ ⟨hb⟩ ?_
        refine W1 (And.intro @e0 (And.intro @e13 @e14)) @DD (@oArr 5 dProgM) ?_
        exact ⟨q - 1,by omega,_,_,Gh.sel [0,1,2,3] (by decide) (hz4 hZ (by decide)),i+1,by omega,by rw [hls,List.length_append];rfl,fun j hj=>by
          by_cases hji:j < i
          · exact hno j hji
          · obtain rfl:j=i:=by omega
            exact hEi,by exact lk @e0,by exact lk @e13,by exact lk @e14⟩
    · rw [if_neg (fun h=>h1 h.1)] at hEi
      refine W1 (And.intro @e0 (And.intro @e13 @e14)) (And.intro @DD (And.intro @hcz (And.intro @hw1 @hw2))) (And.intro @psize_spec (And.intro @pgetT_spec (@oArr 5 dProgM))) ?_
      exact ⟨q - 1,by omega,_,_,Gh.sel [0,1,2,3] (by decide) (hz4 hZ (by decide)),i+1,by omega,by rw [hls,List.length_append];rfl,fun j hj=>by
        by_cases hji:j < i
        · exact hno j hji
        · obtain rfl:j=i:=by omega
          exact hEi,by exact lk @e0,by exact lk @e13,by exact lk @e14⟩
  obtain rfl:i=n:=by omega
  have hk2:=hk2 (firstE_none hno)
  clear hk1
  have hll:=loadsP_len (b:=b) (w:=w) (big:=big) (po:=po) (i:=i)
  have hLN:=loadsP_N hB (w:=w) (big:=big) (po:=po) (n:=i)
  have hLat:∀ j,j < i→∃ t fl off va pa fs me al:Int,(loadsP b w big po i)[j]? = some (t,fl,off,va,pa,fs,me,al,PUnit.unit)∧ProgN t fl off va pa fs me al∧(fs=0∨off+fs≤b.length):=fun j hj=>by
    obtain ⟨t,pf,off,va,pa,fs,me,al,hx,hN⟩:=loadAt_N hB w big po j
    exact ⟨t,pf,off,va,pa,fs,me,al,by rw [loadsP_at hj,hx],hN,loadE_none (hno j hj) hx hN.fs.1 hN.off.1⟩
  generalize loadsP b w big po i=L at *
  refine W1 (And.intro @e0 (And.intro @e13 @e14)) @DD trivial ?_
  refine w_lpG (fun q e s=>∃ k:Nat,q+k=i∧s=[.var [.sl (.int .u8) b,.bool w,.bool big,.int .u8 o,.int .u8 ab,.int .u16 ty,.int .u16 ma,.int .u64 en,.int .u64 po,.int .u64 so,.int .u32 fl,.int .u16 pn,.int .u16 sn,.int .u16 sx,.bool w,.bool big,.int .u64 (i:Int),.int .u64 ns,.int .u32 f0,.int .u32 f1,.int .u64 f2,.int .u64 f3,.int .u64 f4,.int .u64 f5,.int .u32 f6,.int .u32 f7,.int .u64 f8,.int .u64 f9,.bool w,.bool big,.int .u8 o,.int .u8 ab,.int .u16 ty,.int .u16 ma,.int .u32 fl,.int .u64 en,.osl 2 ((segsT b L k)).length,.osl 3 secs.length,.int .i64 st,.osl 1 L.length],.arr dProgM L,.arr dSeg (segsT b L k),.arr dSec secs]∧e 0 = .ptr 0 0∧e 76 = .osl 1 L.length∧e 77 = .int .i64 i∧e 78 = .int .i64 k) i ?_ ?_
  · exact ⟨0,rfl,rfl,by exact lk @e0,by exact lk trivial,by exact lk @hll,by exact lk trivial⟩
  clear e0 e13 e14
  rintro q e s ⟨k,hk,rfl,e0,e76,e77,e78⟩
  have hkl:=segsT_len (b:=b) (L:=L) (i:=k) (by omega)
  by_cases hq:k < i
  · obtain ⟨t,pf,off,va,pa,fs,me,al,hx,hN,hof⟩:=hLat k hq
    have hss:=segsT_succ (b:=b) hx
    have hno2:=hN.off
    have hnf:=hN.fs
    have hnt:=hN.t
    obtain ⟨p,hp⟩:∃ p,p=segPl b L (t,pf,off,va,pa,fs,me,al,PUnit.unit):=⟨_,rfl⟩
    have hso:segOf b L (t,pf,off,va,pa,fs,me,al,PUnit.unit)=(t,pf,va,pa,me,al,plT p,PUnit.unit):=by rw [hp];rfl
    rw [hso] at hss
    generalize segsT b L k=G at *
    by_cases h1:t=1
    · have e1:ownP b off fs=p:=by rw [hp];unfold segPl;exact (if_pos h1).symm
      refine W1 (And.intro @e0 (And.intro @e76 (And.intro @e77 @e78))) @DD trivial ?_
      apply ca_S [0,1,2,3];(repeat any_goals first | exact mp_z | apply mp_s | exact rs_z | apply rs_t | apply rs_n | apply rs_c);(repeat any_goals first | (apply Lk.i;(simp only [↓LL,↓reduceIte,Nat.reduceEqDiff,e0,e76,e77,e78];(try rfl);done)) | (apply Rf.i;first | rfl | assumption) | (apply Vl.i;((try simp (disch:=omega) only [VV,↓reduceIte,peqI,encP,e0,e76,e77,e78]);(try rfl);done)) | (apply Am.i;assumption) | (apply Pu.i;((try simp only [↓reduceIte,UU,RR,Nat.reduceAdd,Nat.reduceEqDiff,cellsP,putP,fillQ,flatQ,shP,sh1,encP]);(try rfl);done)) | (apply Om.i;((try simp only [MM]);(try omega);done)) | (apply Vw.i;exact VwA));(all_goals fail_if_success apply Mk.i)
      refine fown_spec ⟨by omega⟩ ⟨hof⟩ ⟨hb⟩ ?_
      rw [e1]
      refine W1 (And.intro @e0 (And.intro @e76 (And.intro @e77 @e78))) @DD (@oArr 6 dSeg) ?_
      exact ⟨q - 1,by omega,_,_,Gh.sel [0,1,2,3] (by decide) (hz4 hZ (by decide)),k+1,by omega,by rw [hss,List.length_append];rfl,by exact lk @e0,by exact lk @e76,by exact lk @e77,by exact lk @e78⟩
    · have e1:findP b off fs L 0=p:=by rw [hp];unfold segPl;exact (if_neg h1).symm
      refine W1 (And.intro @e0 (And.intro @e76 (And.intro @e77 @e78))) @DD trivial ?_
      apply ca_S [0,1,2,3];(repeat any_goals first | exact mp_z | apply mp_s | exact rs_z | apply rs_t | apply rs_n | apply rs_c);(repeat any_goals first | (apply Lk.i;(simp only [↓LL,↓reduceIte,Nat.reduceEqDiff,e0,e76,e77,e78];(try rfl);done)) | (apply Rf.i;first | rfl | assumption) | (apply Vl.i;((try simp (disch:=omega) only [VV,↓reduceIte,peqI,encP,e0,e76,e77,e78]);(try rfl);done)) | (apply Am.i;assumption) | (apply Pu.i;((try simp only [↓reduceIte,UU,RR,Nat.reduceAdd,Nat.reduceEqDiff,cellsP,putP,fillQ,flatQ,shP,sh1,encP]);(try rfl);done)) | (apply Om.i;((try simp only [MM]);(try omega);done)) | (apply Vw.i;exact VwA));(all_goals fail_if_success apply Mk.i)
      refine ffind_spec ⟨by omega⟩ ⟨hof⟩ ⟨hb⟩ ⟨by omega⟩ hLN ?_
      rw [e1]
      refine W1 (And.intro @e0 (And.intro @e76 (And.intro @e77 @e78))) @DD (@oArr 6 dSeg) ?_
      exact ⟨q - 1,by omega,_,_,Gh.sel [0,1,2,3] (by decide) (hz4 hZ (by decide)),k+1,by omega,by rw [hss,List.length_append];rfl,by exact lk @e0,by exact lk @e76,by exact lk @e77,by exact lk @e78⟩
  · obtain rfl:k=L.length:=by omega
    rw [segsT_all] at *
    refine W1 (And.intro @e0 (And.intro @e76 (And.intro @e77 @e78))) @DD trivial ?_
    exact ⟨_,rfl,rfl,hk2⟩
end
end Go.Proofs.YtcffpnlochillaaGreatDoor.PvW
end

/- A heap of plain values, walks over it, and functions of the program met by them: no statement of the set is proved in this text. -/
import Derived.Test.YtcffpnlochillaaKb24
import Derived.Test.YtcffpnlochillaaKb26
set_option linter.unusedVariables false
set_option linter.unusedSimpArgs false
set_option maxRecDepth 100000
set_option maxHeartbeats 4000000
section
namespace Go.Proofs.Ytcffpnlochillaa.PvW
open Go.RowKit Go.Proofs.Ytcffpnlochillaa.Cd Go.Proofs.Ytcffpnlochillaa.AbP Go.Proofs.Ytcffpnlochillaa.Num Go.Proofs.Ytcffpnlochillaa.Pv
section
variable {K:PV→List OB→Prop} {w big:Bool} {o ab ty ma fl en st:Int} {segs:List dSeg.T} {secs:List dSec.T}
theorem plan_spec (he:Om (0≤en∧en≤18446744073709551615)) (hG:Am (SegsN segs)) (hN:Am (SecsN secs))
    (hk0:wrongC w en segs secs st≠0→K (.tup [pvPlan0,eCode (wrongC w en segs secs st)]) [])
    (hk1:wrongC w en segs secs st=0→(planV w segs secs).ov=true→K (.tup [pvPlan0,eCode 8]) [])
    (hk2:wrongC w en segs secs st=0→(planV w segs secs).ov=false→K (.tup [pvPlan (planV w segs secs),.nilI]) []) :
    PCalls Try.prog 12 [.agg [.bool w,.bool big,.int .u8 o,.int .u8 ab,.int .u16 ty,.int .u16 ma,.int .u32 fl,.int .u64 en,.sl dSeg segs,.sl dSec secs,.int .i64 st]] [] K:=by
  have he:=he.o
  have hG:=hG.o
  have hN:=hN.o
  refine told_callP plan_Of.told fun Z hZ=>?_
  unfold plan_Of.c
  refine W1 trivial @DD trivial ?_
  refine check_spec ⟨he⟩ ⟨hG⟩ ⟨hN⟩ (fun h0=>?_) (fun h0=>?_)
  rotate_left
  · have:=hk0 h0
    refine W1 trivial @DD trivial ?_
    exact this
  have hk1:=hk1 h0
  have hk2:=hk2 h0
  have ok:=modelOk h0
  have l16:=ok.l16
  have l64:=ok.l64
  clear hk0
  have hwh:IntKind.wrap .u64 (hsz w)=hsz w:=by cases w <;> rfl
  have hnp:0≤(segs.length:Int) * psz w∧(segs.length:Int) * psz w≤896:=by cases w <;> simp only [psz,Bool.false_eq_true,↓reduceIte] <;> omega
  have hw6:IntKind.wrap .i64 ((segs.length:Int) * psz w)=(segs.length:Int) * psz w:=by rw [wI64];omega
  have hw7:IntKind.wrap .u64 ((segs.length:Int) * psz w)=(segs.length:Int) * psz w:=by rw [wU64];omega
  refine W1 trivial (And.intro @DD @hwh) @hsize_spec ?_
  obtain ⟨ph,hph⟩:∃ x,x=(planV w segs secs).ph:=⟨_,rfl⟩
  refine ps_cut (fun e s=>s=[.var [.bool w,.bool big,.int .u8 o,.int .u8 ab,.int .u16 ty,.int .u16 ma,.int .u32 fl,.int .u64 en,.sl dSeg segs,.sl dSec secs,.int .i64 st],.var [.int .u64 0,.int .u64 0,.int .u64 0,.nilS,.nilS],.var [.bool w,.bool big],.var [.int .u64 (pla0 w segs).1,.bool (pla0 w segs).2],.arr (.int .u64) (List.replicate segs.length (0:Int)),.arr (.int .u64) (List.replicate secs.length (0:Int)),.var [.int .u64 ph,.int .u64 0,.int .u64 0,.osl 4 segs.length,.osl 5 secs.length]]∧e 1 = .ptr 0 0∧e 2 = .ptr 1 0∧e 5 = .ptr 2 0∧e 6 = .ptr 3 0∧e 7 = .ptr 6 0) (fun h=>?_) (fun h=>?_) ?_
  · have hzl:¬ segs.length=0:=by have:=of_decide_eq_true h;omega
    have e1:pla0 w segs=layS (hsz w,false) (segs.length * psz w) 0 1:=by unfold pla0;rw [if_neg hzl]
    have e2:ph=layR (hsz w,false) 0 1:=by rw [hph];unfold planV;exact if_neg hzl
    refine W1 trivial (And.intro @DD (And.intro @hw6 @hw7)) @psize_spec ?_
    apply ca_S [3];(repeat any_goals first | exact mp_z | apply mp_s | exact rs_z | apply rs_t | apply rs_n | apply rs_c);(repeat any_goals first | (apply Lk.i;(simp only [↓LL,↓reduceIte,Nat.reduceEqDiff];(try rfl);done)) | (apply Rf.i;first | rfl | assumption) | (apply Vl.i;((try simp (disch:=omega) only [VV,↓reduceIte,peqI,encP]);(try rfl);done)) | (apply Am.i;assumption) | (apply Pu.i;((try simp only [↓reduceIte,UU,RR,Nat.reduceAdd,Nat.reduceEqDiff,cellsP,putP,fillQ,flatQ,shP,sh1,encP]);(try rfl);done)) | (apply Om.i;((try simp only [MM]);(try omega);done)) | (apply Vw.i;exact VwA));(all_goals fail_if_success apply Mk.i)
    refine lay_spec ⟨by omega⟩ ⟨by omega⟩ ?_
    rw [← e1,← e2]
    refine W1 trivial @DD trivial ?_
    exact ⟨_,_,Gh.sel [0,1,2,3,4,5,6] (by decide) (hz0 hZ),rfl,by exact lk trivial,by exact lk trivial,by exact lk trivial,by exact lk trivial,by exact lk trivial⟩
  · have hzl:segs.length=0:=by have:=of_decide_eq_false h;omega
    have e1:pla0 w segs=(hsz w,false):=by unfold pla0;rw [if_pos hzl]
    have e2:ph=0:=by rw [hph];unfold planV;exact if_pos hzl
    rw [e1,e2]
    refine W1 trivial @DD trivial ?_
    exact ⟨_,_,Gh.sel [0,1,2,3,4,5,6] (by decide) (hz0 hZ),rfl,by exact lk trivial,by exact lk trivial,by exact lk trivial,by exact lk trivial,by exact lk trivial⟩
  rintro e s ⟨rfl,e1,e2,e5,e6,e7⟩
  refine W1 (And.intro @e1 (And.intro @e2 (And.intro @e5 (And.intro @e6 @e7)))) @DD trivial ?_
  refine w_lpG (fun q e s=>∃ i:Nat,q+i=segs.length∧s=[.var [.bool w,.bool big,.int .u8 o,.int .u8 ab,.int .u16 ty,.int .u16 ma,.int .u32 fl,.int .u64 en,.sl dSeg segs,.sl dSec secs,.int .i64 st],.var [.int .u64 0,.int .u64 0,.int .u64 0,.nilS,.nilS],.var [.bool w,.bool big],.var [.int .u64 ((segs.take i).foldl st1 ([],pla0 w segs)).2.1,.bool ((segs.take i).foldl st1 ([],pla0 w segs)).2.2],.arr (.int .u64) (((segs.take i).foldl st1 ([],pla0 w segs)).1++List.replicate (segs.length - i) (0:Int)),.arr (.int .u64) (List.replicate secs.length (0:Int)),.var [.int .u64 ph,.int .u64 0,.int .u64 0,.osl 4 segs.length,.osl 5 secs.length]]∧e 1 = .ptr 0 0∧e 2 = .ptr 1 0∧e 5 = .ptr 2 0∧e 6 = .ptr 3 0∧e 7 = .ptr 6 0∧e 52 = .sl dSeg segs∧e 53 = .int .i64 segs.length∧e 54 = .int .i64 i) segs.length ?_ ?_
  · exact ⟨0,rfl,rfl,by exact lk @e1,by exact lk @e2,by exact lk @e5,by exact lk @e6,by exact lk @e7,by exact lk trivial,by exact lk trivial,by exact lk trivial⟩
  clear e1 e2 e5 e6 e7
  rintro q e s ⟨i,hi,rfl,e1,e2,e5,e6,e7,e52,e53,e54⟩
  by_cases hq:i < segs.length
  · obtain ⟨x,hx⟩:∃ x,segs[i]? = some x:=⟨segs[i],List.getElem?_eq_getElem hq⟩
    have hx0:=hG x (List.mem_of_getElem? hx)
    have hsn:=fold_snoc (f:=st1) hx ([],pla0 w segs)
    have hln:((segs.take i).foldl st1 ([],pla0 w segs)).1.length=i:=by rw [fold_len st1_len,List.length_take];simp;omega
    generalize (segs.take i).foldl st1 ([],pla0 w segs)=r at *
    obtain ⟨A,p,ov⟩:=r
    obtain ⟨sty,sfl,sva,spa,sme,sal,⟨si,so,sz,sown,u⟩,u2⟩:=x
    obtain ⟨sva,rfl⟩:∃ v:Int,v=sva:=⟨sva,rfl⟩
    obtain ⟨sal,rfl⟩:∃ v:Int,v=sal:=⟨sal,rfl⟩
    obtain ⟨sz,rfl⟩:∃ v:Int,v=sz:=⟨sz,rfl⟩
    obtain ⟨nty,nva,npa,nme,nal,noff,nsz,now,nbo⟩:=hx0
    dsimp only at hln
    have hAl:(A++List.replicate (segs.length - i) (0:Int)).length=segs.length:=by rw [List.length_append,List.length_replicate];omega
    by_cases h5:@Eq Int sty 1
    · have e0:st1 (A,p,ov) (sty,sfl,sva,spa,sme,sal,(si,so,sz,sown,u),u2)=(A++[layR (p,ov) sva sal],layS (p,ov) sz sva sal):=if_pos h5
      rw [e0] at hsn
      have hset:=set_zero (v:=layR (p,ov) sva sal) hln hq
      refine W1 (And.intro @e1 (And.intro @e2 (And.intro @e5 (And.intro @e6 (And.intro @e7 (And.intro @e52 (And.intro @e53 @e54))))))) @DD trivial ?_
      apply ca_SK [3];(repeat any_goals first | exact mp_z | apply mp_s | exact rs_z | apply rs_t | apply rs_n | apply rs_c);(repeat any_goals first | (apply Lk.i;(simp only [↓LL,↓reduceIte,Nat.reduceEqDiff];(try rfl);done)) | (apply Rf.i;first | rfl | assumption) | (apply Vl.i;((try simp (disch:=omega) only [VV,↓reduceIte,peqI,encP]);(try rfl);done)) | (apply Am.i;assumption) | (apply Pu.i;((try simp only [↓reduceIte,UU,RR,Nat.reduceAdd,Nat.reduceEqDiff,cellsP,putP,fillQ,flatQ,shP,sh1,encP]);(try rfl);done)) | (apply Om.i;((try simp only [MM]);(try omega);done)) | (apply Vw.i;exact VwA));(all_goals fail_if_success apply Mk.i)
      refine lay_spec ⟨nal⟩ ⟨nsz⟩ ?_
      refine W1 (And.intro @e1 (And.intro @e2 (And.intro @e5 (And.intro @e6 (And.intro @e7 (And.intro @e52 (And.intro @e53 @e54))))))) @DD trivial ?_
      exact ⟨q - 1,by omega,_,_,Gh.sel [0,1,2,3,4,5,6] (by decide) (hz0 hZ),i+1,by omega,by rw [hsn];show _=_;rw [← hset];rfl,by exact lk @e1,by exact lk @e2,by exact lk @e5,by exact lk @e6,by exact lk @e7,by exact lk @e52,by exact lk @e53,by exact lk @e54⟩
    · have e0:st1 (A,p,ov) (sty,sfl,sva,spa,sme,sal,(si,so,sz,sown,u),u2)=(A++[0],p,ov):=if_neg h5
      rw [e0] at hsn
      have hset:A++List.replicate (segs.length - i) (0:Int)=(A++[0])++List.replicate (segs.length - (i+1)) 0:=by
        rw [show segs.length - i=(segs.length - (i+1))+1 by omega,List.replicate_succ,List.append_assoc];rfl
      refine W1 (And.intro @e1 (And.intro @e2 (And.intro @e5 (And.intro @e6 (And.intro @e7 (And.intro @e52 (And.intro @e53 @e54))))))) @DD trivial ?_
      exact ⟨q - 1,by omega,_,_,Gh.sel [0,1,2,3,4,5,6] (by decide) (hz0 hZ),i+1,by omega,by rw [hsn];show _=_;rw [← hset];rfl,by exact lk @e1,by exact lk @e2,by exact lk @e5,by exact lk @e6,by exact lk @e7,by exact lk @e52,by exact lk @e53,by exact lk @e54⟩
  obtain rfl:i=segs.length:=by omega
  obtain ⟨A,hA⟩:∃ A,A=plaA w segs:=⟨_,rfl⟩
  have hAe:(segs.take segs.length).foldl st1 ([],pla0 w segs)=A:=by rw [List.take_length,hA];rfl
  have hAl:A.1.length=segs.length:=by rw [← hAe,fold_len st1_len,List.take_length];simp
  rw [hAe,Nat.sub_self,List.replicate_zero,List.append_nil]
  refine W1 (And.intro @e1 (And.intro @e2 (And.intro @e5 (And.intro @e6 (And.intro @e7 (And.intro @e52 (And.intro @e53 @e54))))))) @DD trivial ?_
  refine w_lpG (fun q e s=>∃ i:Nat,q+i=segs.length∧s=[.var [.bool w,.bool big,.int .u8 o,.int .u8 ab,.int .u16 ty,.int .u16 ma,.int .u32 fl,.int .u64 en,.sl dSeg segs,.sl dSec secs,.int .i64 st],.var [.int .u64 0,.int .u64 0,.int .u64 0,.nilS,.nilS],.var [.bool w,.bool big],.var [.int .u64 ((segs.take i).foldl (st2 A.1) ([],A.2)).2.1,.bool ((segs.take i).foldl (st2 A.1) ([],A.2)).2.2],.arr (.int .u64) (((segs.take i).foldl (st2 A.1) ([],A.2)).1++A.1.drop i),.arr (.int .u64) (List.replicate secs.length (0:Int)),.var [.int .u64 ph,.int .u64 0,.int .u64 0,.osl 4 segs.length,.osl 5 secs.length]]∧e 1 = .ptr 0 0∧e 2 = .ptr 1 0∧e 5 = .ptr 2 0∧e 6 = .ptr 3 0∧e 7 = .ptr 6 0∧e 77 = .sl dSeg segs∧e 78 = .int .i64 segs.length∧e 79 = .int .i64 i) segs.length ?_ ?_
  · exact ⟨0,rfl,rfl,by exact lk @e1,by exact lk @e2,by exact lk @e5,by exact lk @e6,by exact lk @e7,by exact lk trivial,by exact lk trivial,by exact lk trivial⟩
  clear e1 e2 e5 e6 e7 e52 e53 e54
  rintro q e s ⟨i,hi,rfl,e1,e2,e5,e6,e7,e77,e78,e79⟩
  by_cases hq:i < segs.length
  · obtain ⟨x,hx⟩:∃ x,segs[i]? = some x:=⟨segs[i],List.getElem?_eq_getElem hq⟩
    have hxm:=List.mem_of_getElem? hx
    have hx0:=hG x hxm
    have hpl:=(segC_zero (ok.seg x hxm)).2.1
    have hsn:=fold_snoc (f:=st2 A.1) hx ([],A.2)
    have hln:((segs.take i).foldl (st2 A.1) ([],A.2)).1.length=i:=by rw [fold_len (st2_len _),List.length_take];simp;omega
    have hkp:∀ (j:Nat) (s:dSeg.T),segs[j]? = some s→@Eq Int s.1 1→j < i→((segs.take i).foldl (st2 A.1) ([],A.2)).1.getD j 0=A.1.getD j 0:=fun j s hs h1 hj=>by
      have:=segC_zero (ok.seg s (List.mem_of_getElem? hs))
      exact b_keeps hs h1 (this.2.2 h1).1 i hj (by omega)
    generalize (segs.take i).foldl (st2 A.1) ([],A.2)=r at *
    obtain ⟨B,p,ov⟩:=r
    obtain ⟨sty,sfl,sva,spa,sme,sal,⟨si,so,sz,sown,u⟩,u2⟩:=x
    obtain ⟨si,rfl⟩:∃ v:Int,v=si:=⟨si,rfl⟩
    obtain ⟨so,rfl⟩:∃ v:Int,v=so:=⟨so,rfl⟩
    obtain ⟨sz,rfl⟩:∃ v:Int,v=sz:=⟨sz,rfl⟩
    obtain ⟨nty,nva,npa,nme,nal,noff,nsz,now,nbo⟩:=hx0
    dsimp only at hln hkp hpl
    have hBl:(B++A.1.drop i).length=segs.length:=by rw [List.length_append,List.length_drop];omega
    by_cases h4:@Eq Int si (-1)
    rotate_left
    · obtain ⟨g1,g2,-,-,y,g3,g4,-⟩:=place_in hpl h4
      have hgd:=getD_mix (a:=A.1) hln (fun hj=>hkp si.toNat y g3 g4 hj)
      have e0:st2 A.1 (B,p,ov) (sty,sfl,sva,spa,sme,sal,(si,so,sz,sown,u),u2)=(B++[(A.1.getD si.toNat 0+so) % 18446744073709551616],p,ov):=if_pos h4
      rw [e0] at hsn
      have hw8:IntKind.wrap .u64 (A.1.getD si.toNat 0+so)=(A.1.getD si.toNat 0+so) % 18446744073709551616:=wU64 _
      have hset:=set_drop (v:=(A.1.getD si.toNat 0+so) % 18446744073709551616) hln (show i < A.1.length by omega)
      refine W1 (And.intro @e1 (And.intro @e2 (And.intro @e5 (And.intro @e6 (And.intro @e7 (And.intro @e77 (And.intro @e78 @e79))))))) (And.intro @DD (And.intro @hgd @hw8)) trivial ?_
      exact ⟨q - 1,by omega,_,_,Gh.sel [0,1,2,3,4,5,6] (by decide) (hz0 hZ),i+1,by omega,by rw [hsn];show _=_;rw [← hset];rfl,by exact lk @e1,by exact lk @e2,by exact lk @e5,by exact lk @e6,by exact lk @e7,by exact lk @e77,by exact lk @e78,by exact lk @e79⟩
    by_cases h5:@Eq Int sty 1
    rotate_left
    · have e0:st2 A.1 (B,p,ov) (sty,sfl,sva,spa,sme,sal,(si,so,sz,sown,u),u2)=(B++[layR (p,ov) 0 8],layS (p,ov) sz 0 8):=(if_neg (fun h=>h h4)).trans (if_pos h5)
      rw [e0] at hsn
      have hset:=set_drop (v:=layR (p,ov) 0 8) hln (show i < A.1.length by omega)
      refine W1 (And.intro @e1 (And.intro @e2 (And.intro @e5 (And.intro @e6 (And.intro @e7 (And.intro @e77 (And.intro @e78 @e79))))))) @DD trivial ?_
      apply ca_SK [3];(repeat any_goals first | exact mp_z | apply mp_s | exact rs_z | apply rs_t | apply rs_n | apply rs_c);(repeat any_goals first | (apply Lk.i;(simp only [↓LL,↓reduceIte,Nat.reduceEqDiff];(try rfl);done)) | (apply Rf.i;first | rfl | assumption) | (apply Vl.i;((try simp (disch:=omega) only [VV,↓reduceIte,peqI,encP]);(try rfl);done)) | (apply Am.i;assumption) | (apply Pu.i;((try simp only [↓reduceIte,UU,RR,Nat.reduceAdd,Nat.reduceEqDiff,cellsP,putP,fillQ,flatQ,shP,sh1,encP]);(try rfl);done)) | (apply Om.i;((try simp only [MM]);(try omega);done)) | (apply Vw.i;exact VwA));(all_goals fail_if_success apply Mk.i)
      refine lay_spec ⟨by omega⟩ ⟨nsz⟩ ?_
      refine W1 (And.intro @e1 (And.intro @e2 (And.intro @e5 (And.intro @e6 (And.intro @e7 (And.intro @e77 (And.intro @e78 @e79))))))) @DD trivial ?_
      exact ⟨q - 1,by omega,_,_,Gh.sel [0,1,2,3,4,5,6] (by decide) (hz0 hZ),i+1,by omega,by rw [hsn];show _=_;rw [← hset];rfl,by exact lk @e1,by exact lk @e2,by exact lk @e5,by exact lk @e6,by exact lk @e7,by exact lk @e77,by exact lk @e78,by exact lk @e79⟩
    · have e0:st2 A.1 (B,p,ov) (sty,sfl,sva,spa,sme,sal,(si,so,sz,sown,u),u2)=(B++[A.1.getD B.length 0],p,ov):=(if_neg (fun h=>h h4)).trans (if_neg (fun h=>h h5))
      rw [e0,hln] at hsn
      have hset:=keep_drop (b:=B) (show i < A.1.length by omega)
      refine W1 (And.intro @e1 (And.intro @e2 (And.intro @e5 (And.intro @e6 (And.intro @e7 (And.intro @e77 (And.intro @e78 @e79))))))) @DD trivial ?_
      exact ⟨q - 1,by omega,_,_,Gh.sel [0,1,2,3,4,5,6] (by decide) (hz0 hZ),i+1,by omega,by rw [hsn];show _=_;rw [← hset];rfl,by exact lk @e1,by exact lk @e2,by exact lk @e5,by exact lk @e6,by exact lk @e7,by exact lk @e77,by exact lk @e78,by exact lk @e79⟩
  obtain rfl:i=segs.length:=by omega
  obtain ⟨B,hB⟩:∃ B,B=plaB w segs:=⟨_,rfl⟩
  have hBe:(segs.take segs.length).foldl (st2 A.1) ([],A.2)=B:=by rw [List.take_length,hB,hA];rfl
  have hBl:B.1.length=segs.length:=by rw [← hBe,fold_len (st2_len _),List.take_length];simp
  rw [hBe,List.drop_eq_nil_of_le (by omega),List.append_nil]
  refine W1 (And.intro @e1 (And.intro @e2 (And.intro @e5 (And.intro @e6 (And.intro @e7 (And.intro @e77 (And.intro @e78 @e79))))))) @DD trivial ?_
  refine w_lpG (fun q e s=>∃ i:Nat,q+i=secs.length∧s=[.var [.bool w,.bool big,.int .u8 o,.int .u8 ab,.int .u16 ty,.int .u16 ma,.int .u32 fl,.int .u64 en,.sl dSeg segs,.sl dSec secs,.int .i64 st],.var [.int .u64 0,.int .u64 0,.int .u64 0,.nilS,.nilS],.var [.bool w,.bool big],.var [.int .u64 ((secs.take i).foldl (st3 B.1) ([],B.2)).2.1,.bool ((secs.take i).foldl (st3 B.1) ([],B.2)).2.2],.arr (.int .u64) (B.1),.arr (.int .u64) (((secs.take i).foldl (st3 B.1) ([],B.2)).1++List.replicate (secs.length - i) (0:Int)),.var [.int .u64 ph,.int .u64 0,.int .u64 0,.osl 4 segs.length,.osl 5 secs.length]]∧e 1 = .ptr 0 0∧e 2 = .ptr 1 0∧e 5 = .ptr 2 0∧e 6 = .ptr 3 0∧e 7 = .ptr 6 0∧e 119 = .sl dSec secs∧e 120 = .int .i64 secs.length∧e 121 = .int .i64 i) secs.length ?_ ?_
  · exact ⟨0,rfl,rfl,by exact lk @e1,by exact lk @e2,by exact lk @e5,by exact lk @e6,by exact lk @e7,by exact lk trivial,by exact lk trivial,by exact lk trivial⟩
  clear e1 e2 e5 e6 e7 e77 e78 e79
  rintro q e s ⟨i,hi,rfl,e1,e2,e5,e6,e7,e119,e120,e121⟩
  by_cases hq:i < secs.length
  · obtain ⟨x,hx⟩:∃ x,secs[i]? = some x:=⟨secs[i],List.getElem?_eq_getElem hq⟩
    have hxm:=List.mem_of_getElem? hx
    have hx0:=hN x hxm
    have hpl:=(secC_zero (ok.sec x hxm)).1
    have hsn:=fold_snoc (f:=st3 B.1) hx ([],B.2)
    have hln:((secs.take i).foldl (st3 B.1) ([],B.2)).1.length=i:=by rw [fold_len (st3_len _),List.length_take];simp;omega
    generalize (secs.take i).foldl (st3 B.1) ([],B.2)=r at *
    obtain ⟨C,p,ov⟩:=r
    obtain ⟨nm,sty,sfl,sad,ssi,sli,ssf,sal,sen,⟨si,so,sz,sown,u⟩,u2⟩:=x
    obtain ⟨si,rfl⟩:∃ v:Int,v=si:=⟨si,rfl⟩
    obtain ⟨so,rfl⟩:∃ v:Int,v=so:=⟨so,rfl⟩
    obtain ⟨sz,rfl⟩:∃ v:Int,v=sz:=⟨sz,rfl⟩
    obtain ⟨nnm,nty,nfl,nad,nsi,nli,nal,nen,noff,nsz,now,nbo⟩:=hx0
    dsimp only at hln hpl
    have hCl:(C++List.replicate (secs.length - i) (0:Int)).length=secs.length:=by rw [List.length_append,List.length_replicate];omega
    by_cases h4:@Eq Int si (-1)
    rotate_left
    · obtain ⟨g1,g2,-,-,y,g3,g4,-⟩:=place_in hpl h4
      have e0:st3 B.1 (C,p,ov) (nm,sty,sfl,sad,ssi,sli,ssf,sal,sen,(si,so,sz,sown,u),u2)=(C++[(B.1.getD si.toNat 0+so) % 18446744073709551616],p,ov):=if_pos h4
      rw [e0] at hsn
      have hw8:IntKind.wrap .u64 (B.1.getD si.toNat 0+so)=(B.1.getD si.toNat 0+so) % 18446744073709551616:=wU64 _
      have hset:=set_zero (v:=(B.1.getD si.toNat 0+so) % 18446744073709551616) hln hq
      refine W1 (And.intro @e1 (And.intro @e2 (And.intro @e5 (And.intro @e6 (And.intro @e7 (And.intro @e119 (And.intro @e120 @e121))))))) (And.intro @DD @hw8) trivial ?_
      exact ⟨q - 1,by omega,_,_,Gh.sel [0,1,2,3,4,5,6] (by decide) (hz0 hZ),i+1,by omega,by rw [hsn];show _=_;rw [← hset];rfl,by exact lk @e1,by exact lk @e2,by exact lk @e5,by exact lk @e6,by exact lk @e7,by exact lk @e119,by exact lk @e120,by exact lk @e121⟩
    · have e0:st3 B.1 (C,p,ov) (nm,sty,sfl,sad,ssi,sli,ssf,sal,sen,(si,so,sz,sown,u),u2)=(C++[layR (p,ov) 0 8],layS (p,ov) sz 0 8):=if_neg (fun h=>h h4)
      rw [e0] at hsn
      have hset:=set_zero (v:=layR (p,ov) 0 8) hln hq
      refine W1 (And.intro @e1 (And.intro @e2 (And.intro @e5 (And.intro @e6 (And.intro @e7 (And.intro @e119 (And.intro @e120 @e121))))))) @DD trivial ?_
      apply ca_SK [3];(repeat any_goals first | exact mp_z | apply mp_s | exact rs_z | apply rs_t | apply rs_n | apply rs_c);(repeat any_goals first | (apply Lk.i;(simp only [↓LL,↓reduceIte,Nat.reduceEqDiff];(try rfl);done)) | (apply Rf.i;first | rfl | assumption) | (apply Vl.i;((try simp (disch:=omega) only [VV,↓reduceIte,peqI,encP]);(try rfl);done)) | (apply Am.i;assumption) | (apply Pu.i;((try simp only [↓reduceIte,UU,RR,Nat.reduceAdd,Nat.reduceEqDiff,cellsP,putP,fillQ,flatQ,shP,sh1,encP]);(try rfl);done)) | (apply Om.i;((try simp only [MM]);(try omega);done)) | (apply Vw.i;exact VwA));(all_goals fail_if_success apply Mk.i)
      refine lay_spec ⟨by omega⟩ ⟨nsz⟩ ?_
      refine W1 (And.intro @e1 (And.intro @e2 (And.intro @e5 (And.intro @e6 (And.intro @e7 (And.intro @e119 (And.intro @e120 @e121))))))) @DD trivial ?_
      exact ⟨q - 1,by omega,_,_,Gh.sel [0,1,2,3,4,5,6] (by decide) (hz0 hZ),i+1,by omega,by rw [hsn];show _=_;rw [← hset];rfl,by exact lk @e1,by exact lk @e2,by exact lk @e5,by exact lk @e6,by exact lk @e7,by exact lk @e119,by exact lk @e120,by exact lk @e121⟩
  obtain rfl:i=secs.length:=by omega
  obtain ⟨C,hC⟩:∃ C,C=plaC w segs secs:=⟨_,rfl⟩
  have hCe:(secs.take secs.length).foldl (st3 B.1) ([],B.2)=C:=by rw [List.take_length,hC,hB];rfl
  have hCl:C.1.length=secs.length:=by rw [← hCe,fold_len (st3_len _),List.take_length];simp
  rw [hCe,Nat.sub_self,List.replicate_zero,List.append_nil]
  have hnq:0≤((secs.length:Int)+1) * ssz w∧((secs.length:Int)+1) * ssz w≤4160:=by cases w <;> simp only [ssz,Bool.false_eq_true,↓reduceIte] <;> omega
  have hw8:IntKind.wrap .i64 (((secs.length:Int)+1) * ssz w)=((secs.length:Int)+1) * ssz w:=by rw [wI64];omega
  have hw9:IntKind.wrap .u64 (((secs.length:Int)+1) * ssz w)=((secs.length:Int)+1) * ssz w:=by rw [wU64];omega
  obtain ⟨sh,hsh⟩:∃ x,x=(planV w segs secs).sh:=⟨_,rfl⟩
  refine W1 (And.intro @e1 (And.intro @e2 (And.intro @e5 (And.intro @e6 (And.intro @e7 (And.intro @e119 (And.intro @e120 @e121))))))) @DD trivial ?_
  refine ps_cut (fun e s=>s=[.var [.bool w,.bool big,.int .u8 o,.int .u8 ab,.int .u16 ty,.int .u16 ma,.int .u32 fl,.int .u64 en,.sl dSeg segs,.sl dSec secs,.int .i64 st],.var [.int .u64 0,.int .u64 0,.int .u64 0,.nilS,.nilS],.var [.bool w,.bool big],.var [.int .u64 (plaE w segs secs).1,.bool (plaE w segs secs).2],.arr (.int .u64) (B.1),.arr (.int .u64) (C.1),.var [.int .u64 ph,.int .u64 sh,.int .u64 0,.osl 4 segs.length,.osl 5 secs.length]]∧e 1 = .ptr 0 0∧e 2 = .ptr 1 0∧e 5 = .ptr 2 0∧e 6 = .ptr 3 0∧e 7 = .ptr 6 0) (fun h=>?_) (fun h=>?_) ?_
  · have hzl:¬ secs.length=0:=by have:=of_decide_eq_true h;omega
    have q1:plaE w segs secs=layS C.2 ((secs.length+1) * ssz w) 0 8:=by unfold plaE;rw [if_neg hzl,hC]
    have q2:sh=layR C.2 0 8:=by rw [hsh,hC];unfold planV;exact if_neg hzl
    rw [q1,q2]
    refine W1 (And.intro @e1 (And.intro @e2 (And.intro @e5 (And.intro @e6 @e7)))) (And.intro @DD (And.intro @hw8 @hw9)) @ssize_spec ?_
    apply ca_S [3];(repeat any_goals first | exact mp_z | apply mp_s | exact rs_z | apply rs_t | apply rs_n | apply rs_c);(repeat any_goals first | (apply Lk.i;(simp only [↓LL,↓reduceIte,Nat.reduceEqDiff];(try rfl);done)) | (apply Rf.i;first | rfl | assumption) | (apply Vl.i;((try simp (disch:=omega) only [VV,↓reduceIte,peqI,encP]);(try rfl);done)) | (apply Am.i;assumption) | (apply Pu.i;((try simp only [↓reduceIte,UU,RR,Nat.reduceAdd,Nat.reduceEqDiff,cellsP,putP,fillQ,flatQ,shP,sh1,encP]);(try rfl);done)) | (apply Om.i;((try simp only [MM]);(try omega);done)) | (apply Vw.i;exact VwA));(all_goals fail_if_success apply Mk.i)
    refine lay_spec ⟨by omega⟩ ⟨by omega⟩ ?_
    refine W1 (And.intro @e1 (And.intro @e2 (And.intro @e5 (And.intro @e6 @e7)))) @DD trivial ?_
    exact ⟨_,_,Gh.sel [0,1,2,3,4,5,6] (by decide) (hz0 hZ),rfl,by exact lk @e1,by exact lk @e2,by exact lk @e5,by exact lk @e6,by exact lk @e7⟩
  · have hzl:secs.length=0:=by have:=of_decide_eq_false h;omega
    have q1:plaE w segs secs=C.2:=by unfold plaE;rw [if_pos hzl,hC]
    have q2:sh=0:=by rw [hsh];unfold planV;exact if_pos hzl
    rw [q1,q2]
    refine W1 (And.intro @e1 (And.intro @e2 (And.intro @e5 (And.intro @e6 @e7)))) @DD trivial ?_
    exact ⟨_,_,Gh.sel [0,1,2,3,4,5,6] (by decide) (hz0 hZ),rfl,by exact lk @e1,by exact lk @e2,by exact lk @e5,by exact lk @e6,by exact lk @e7⟩
  clear e1 e2 e5 e6 e7 e119 e120 e121
  rintro e s ⟨rfl,e1,e2,e5,e6,e7⟩
  have hov:(planV w segs secs).ov=(plaE w segs secs).2:=rfl
  have hpv:pvPlan (planV w segs secs) = .agg [.int .u64 ph,.int .u64 sh,.int .u64 (plaE w segs secs).1,.sl (.int .u64) B.1,.sl (.int .u64) C.1]:=by rw [hph,hsh,hB,hC];rfl
  rw [hov] at hk1 hk2
  rw [hpv] at hk2
  generalize plaE w segs secs=pe at *
  obtain ⟨pe,ov⟩:=pe
  cases ov
  · have:=hk2 rfl
    refine Wn1 (And.intro @e1 (And.intro @e2 (And.intro @e5 (And.intro @e6 @e7)))) @DD trivial ?_
    refine ghW (Gh.frzC (b:=1) (j:=3) (b':=4) (D':=.int .u64) (l:=B.1) rfl rfl rfl hBl.symm) ?_
    refine ghW (Gh.frzC (b:=1) (j:=4) (b':=5) (D':=.int .u64) (l:=C.1) rfl rfl rfl hCl.symm) ?_
    refine W1 (And.intro @e1 (And.intro @e2 (And.intro @e5 (And.intro @e6 @e7)))) @DD trivial ?_
    exact this
  · have:=hk1 rfl
    refine W1 (And.intro @e1 (And.intro @e2 (And.intro @e5 (And.intro @e6 @e7)))) @DD trivial ?_
    exact this
end
end Go.Proofs.Ytcffpnlochillaa.PvW
end

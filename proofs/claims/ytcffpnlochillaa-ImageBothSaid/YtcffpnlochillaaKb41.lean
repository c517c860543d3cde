/- A heap of plain values, walks over it, and functions of the program met by them: no statement of the set is proved in this text. -/
import Derived.Test.YtcffpnlochillaaKb40
set_option linter.unusedVariables false
set_option linter.unusedSimpArgs false
set_option maxRecDepth 100000
set_option maxHeartbeats 4000000
section
namespace Go.Proofs.Ytcffpnlochillaa.PvW
open Go.RowKit Go.Proofs.Ytcffpnlochillaa.Cd Go.Proofs.Ytcffpnlochillaa.AbP Go.Proofs.Ytcffpnlochillaa.Num Go.Proofs.Ytcffpnlochillaa.Pv
abbrev SegsF (segs:List dSeg.T):Prop:=∀ s ∈ segs,(0:Int)≤s.2.1∧@LE.le Int _ s.2.1 4294967295
abbrev SecsF (secs:List dSec.T):Prop:=∀ s ∈ secs,(0:Int)≤s.2.2.2.2.2.2.1∧@LE.le Int _ s.2.2.2.2.2.2.1 4294967295
theorem progG_row {w:Bool} {t fl off va pa fs me al:Int} (h:ProgN t fl off va pa fs me al) (hn:w=false→off≤4294967295∧va≤4294967295∧pa≤4294967295∧fs≤4294967295∧me≤4294967295∧al≤4294967295) :
    rowOk (progP w t fl off va pa fs me al)=true∧(∀ q ∈ progP w t fl off va pa fs me al,0≤q.1)∧progG w ((progP w t fl off va pa fs me al).map (·.1))=(t,fl,off,va,pa,fs,me,al,PUnit.unit):=by
  obtain ⟨h0,h1,h2,h3,h4,h5,h6,h7⟩:=h
  have w0:IntKind.u32.wrap t=t:=by rw [wU32];omega
  have w1:IntKind.u32.wrap fl=fl:=by rw [wU32];omega
  unfold progP
  cases w
  · obtain ⟨n2,n3,n4,n5,n6,n7⟩:=hn rfl
    refine ⟨?_,?_,?_⟩
    · simp only [Bool.false_eq_true,↓reduceIte,prs,rowOk,List.map_cons,List.map_nil,List.all_cons,List.all_nil,Bool.and_true,Bool.and_eq_true]
      exact ⟨fits4' h0.2,fits4' n2,fits4' n3,fits4' n4,fits4' n5,fits4' n6,fits4' h1.2,fits4' n7⟩
    · simp only [Bool.false_eq_true,↓reduceIte,prs,List.map_cons,List.map_nil,List.forall_mem_cons]
      exact ⟨h0.1,h2.1,h3.1,h4.1,h5.1,h6.1,h1.1,h7.1,fun _ h=>by cases h⟩
    · show (IntKind.u32.wrap t,IntKind.u32.wrap fl,off,va,pa,fs,me,al,PUnit.unit)=_
      rw [w0,w1]
  · refine ⟨?_,?_,?_⟩
    · simp only [↓reduceIte,prs,rowOk,List.map_cons,List.map_nil,List.cons_append,List.nil_append,List.all_cons,List.all_nil,Bool.and_true,Bool.and_eq_true]
      exact ⟨fits4' h0.2,fits4' h1.2,fits8' h2,fits8' h3,fits8' h4,fits8' h5,fits8' h6,fits8' h7⟩
    · simp only [↓reduceIte,prs,List.map_cons,List.map_nil,List.cons_append,List.nil_append,List.forall_mem_cons]
      exact ⟨h0.1,h1.1,h2.1,h3.1,h4.1,h5.1,h6.1,h7.1,fun _ h=>by cases h⟩
    · show (IntKind.u32.wrap t,IntKind.u32.wrap fl,off,va,pa,fs,me,al,PUnit.unit)=_
      rw [w0,w1]
theorem fitsW {w:Bool} {x:Int} (h:U64 x) (hn:w=false→x≤4294967295):fitsB x (wd w)=true:=by
  cases w
  · exact fits4' (hn rfl)
  · exact fits8' h
theorem sectG_row {w:Bool} {nm ty fl ad off si li sf al en:Int} (h:SectN nm ty fl ad off si li sf al en) (hn:w=false→fl≤4294967295∧ad≤4294967295∧off≤4294967295∧si≤4294967295∧al≤4294967295∧en≤4294967295) :
    rowOk (secP w nm ty fl ad off si li sf al en)=true∧(∀ q ∈ secP w nm ty fl ad off si li sf al en,0≤q.1)∧sectG ((secP w nm ty fl ad off si li sf al en).map (·.1))=(nm,ty,fl,ad,off,si,li,sf,al,en,PUnit.unit):=by
  obtain ⟨h0,h1,h2,h3,h4,h5,h6,h7,h8,h9⟩:=h
  have w0:IntKind.u32.wrap nm=nm:=by rw [wU32];omega
  have w1:IntKind.u32.wrap ty=ty:=by rw [wU32];omega
  have w6:IntKind.u32.wrap li=li:=by rw [wU32];omega
  have w7:IntKind.u32.wrap sf=sf:=by rw [wU32];omega
  refine ⟨?_,?_,?_⟩
  · simp only [secP,prs,rowOk,List.map_cons,List.map_nil,List.cons_append,List.nil_append,List.all_cons,List.all_nil,Bool.and_true,Bool.and_eq_true]
    exact ⟨fits4' h0.2,fits4' h1.2,fitsW h2 fun e=>(hn e).1,fitsW h3 fun e=>(hn e).2.1,fitsW h4 fun e=>(hn e).2.2.1,fitsW h5 fun e=>(hn e).2.2.2.1,fits4' h6.2,fits4' h7.2,fitsW h8 fun e=>(hn e).2.2.2.2.1,fitsW h9 fun e=>(hn e).2.2.2.2.2⟩
  · simp only [secP,prs,List.map_cons,List.map_nil,List.cons_append,List.nil_append,List.forall_mem_cons]
    exact ⟨h0.1,h1.1,h2.1,h3.1,h4.1,h5.1,h6.1,h7.1,h8.1,h9.1,fun _ h=>by cases h⟩
  · show (IntKind.u32.wrap nm,IntKind.u32.wrap ty,fl,ad,off,si,IntKind.u32.wrap li,IntKind.u32.wrap sf,al,en,PUnit.unit)=_
    rw [w0,w1,w6,w7]

abbrev inL (off n:Int) (x:dProgM.T):Prop:=0 < n∧@Eq Int x.1 1∧@LE.le Int _ x.2.2.1 off∧withinB (off - x.2.2.1) n x.2.2.2.2.2.1=true
theorem findP_none {b:List Int} {off n:Int}:∀ (l:List dProgM.T) (i:Nat),(∀ x ∈ l,¬ inL off n x)→findP b off n l i=ownP b off n
  | [],i,_=>rfl
  | x :: l, i, h => by
    show (if _ then _ else findP b off n l (i+1))=_
    rw [if_neg (h x (by simp))]
    exact findP_none l (i+1) (fun y hy=>h y (List.mem_cons_of_mem _ hy))
theorem findP_some {b:List Int} {off n:Int}:∀ (l:List dProgM.T) (i k:Nat) (x:dProgM.T),l[k]? = some x→inL off n x→(∀ j y,j < k→l[j]? = some y→¬ inL off n y)→findP b off n l i=(((i+k:Nat):Int),off - x.2.2.1,n,[])
  | [],i,k,x,h,_,_=>by simp at h
  | y :: l, i, 0, x, h, hx, _ => by
    obtain rfl:y=x:=by simpa using h
    show (if _ then _ else findP b off n l (i+1))=_
    rw [if_pos hx]
    rfl
  | y :: l, i, k + 1, x, h, hx, hno => by
    show (if _ then _ else findP b off n l (i+1))=_
    rw [if_neg (hno 0 y (by omega) rfl),findP_some l (i+1) k x (by simpa using h) hx (fun j z hj hz=>hno (j+1) z (by omega) (by simpa using hz)),show i+1+k=i+(k+1) by omega]
section
variable {w big:Bool} {o ab ty ma en fl st:Int} {segs:List dSeg.T} {secs:List dSec.T}
theorem wrong_ok (ok:ModelOk w en segs secs st):wrongC w en segs secs st=0:=by
  obtain ⟨l16,l64,fits,seg,ris,sec,nam⟩:=ok
  unfold wrongC
  rw [if_neg (by omega),if_neg (by rw [fits];decide),first_ok segs seg,if_neg (fun h=>h rfl),if_neg (fun h=>h ris),first_ok secs sec,if_neg (fun h=>h rfl),nam]
theorem load_own (ok:ModelOk w en segs secs st) {s:dSeg.T} (hs:s ∈ segs) (h1:@Eq Int s.1 1):ownG s:=((segC_zero (ok.seg s hs)).2.2 h1).1
theorem segG_place (ok:ModelOk w en segs secs st) (hG:SegsN segs) (po:PlanOk w segs secs) {i:Nat} {s:dSeg.T} (hs:segs[i]? = some s):0≤(planV w segs secs).S.getD i 0∧0≤sizG s∧(planV w segs secs).S.getD i 0+sizG s≤(planV w segs secs).sz:=by
  have own:∀ {i:Nat} {s:dSeg.T},segs[i]? = some s→ownG s→0≤(planV w segs secs).S.getD i 0∧0≤sizG s∧(planV w segs secs).S.getD i 0+sizG s≤(planV w segs secs).sz:=fun {i s} hs ho=>by
    have h:=po.bytes _ (List.mem_append_left _ (List.mem_append_right _ (prsL_in (siz:=sizG) (S:=(planV w segs secs).S) (k:=0) hs ho)))
    rw [Nat.zero_add] at h
    exact h
  by_cases ho:ownG s
  · exact own hs ho
  have hm:=List.mem_of_getElem? hs
  have hpl:=(segC_zero (ok.seg s hm)).2.1
  obtain ⟨g1,g2,-,-,y,g3,g4,g5⟩:=place_in hpl ho
  have hy:=List.mem_of_getElem? g3
  have h1:=own g3 (load_own ok hy g4)
  have h2:=sizG_own ok hy (load_own ok hy g4)
  have h3:=po.inG i s hs ho
  have h4:=(hG s hm).off
  have h5:=(hG s hm).sz
  have hz:=po.size
  simp only [withinB,Bool.and_eq_true,decide_eq_true_eq] at g5
  obtain ⟨S0,hS0⟩:∃ x,x=(planV w segs secs).S.getD (@Int.toNat s.2.2.2.2.2.2.1.1) 0:=⟨_,rfl⟩
  obtain ⟨of,hof⟩:∃ x:Int,x=s.2.2.2.2.2.2.1.2.1:=⟨_,rfl⟩
  obtain ⟨n,hn⟩:∃ x:Int,x=sizG s:=⟨_,rfl⟩
  obtain ⟨m,hm'⟩:∃ x:Int,x=sizG y:=⟨_,rfl⟩
  have h1:0≤S0∧0≤m∧S0+m≤(planV w segs secs).sz:=by rw [hS0,hm'];exact h1
  have h2:m=((bodyG y).length:Int):=by rw [hm'];exact h2
  have h3:(planV w segs secs).S.getD i 0=(S0+of) % 18446744073709551616:=by rw [hS0,hof];exact h3
  have h4:0≤of∧of≤18446744073709551615:=by rw [hof];exact h4
  have h5:0≤n∧n≤18446744073709551615:=by rw [hn];exact h5
  have g5:of≤((bodyG y).length:Int)∧n≤((bodyG y).length:Int) - of:=by rw [hof,hn];exact g5
  rw [h3,← hn]
  omega
theorem segG_in (ok:ModelOk w en segs secs st) (hG:SegsN segs) (po:PlanOk w segs secs) {a:Int} {pi poff psz':Int} {own:List Int} (hpl:placeOk segs pi poff psz' own=true) (ho:pi≠-1) (hoff:0≤poff∧poff≤18446744073709551615) (hsz:0≤psz') (ha:a=((planV w segs secs).S.getD pi.toNat 0+poff) % 18446744073709551616) :
    ∃ y,segs[pi.toNat]? = some y∧@Eq Int y.1 1∧0 < psz'∧(planV w segs secs).S.getD pi.toNat 0≤a∧a - (planV w segs secs).S.getD pi.toNat 0=poff∧a+psz'≤(planV w segs secs).S.getD pi.toNat 0+sizG y:=by
  obtain ⟨g1,g2,-,g0,y,g3,g4,g5⟩:=place_in hpl ho
  have hy:=List.mem_of_getElem? g3
  have h1:=segG_place ok hG po g3
  have h2:=sizG_own ok hy (load_own ok hy g4)
  have hz:=po.size
  simp only [withinB,Bool.and_eq_true,decide_eq_true_eq] at g5
  obtain ⟨m,hm'⟩:∃ x:Int,x=sizG y:=⟨_,rfl⟩
  rw [← hm'] at h1 h2
  have h2:m=((bodyG y).length:Int):=h2
  have g5:poff≤((bodyG y).length:Int)∧psz'≤((bodyG y).length:Int) - poff:=g5
  refine ⟨y,g3,g4,by omega,by omega,by omega,?_⟩
  rw [← hm']
  omega
theorem secC_place (ok:ModelOk w en segs secs st) (hG:SegsN segs) (hN:SecsN secs) (po:PlanOk w segs secs) {i:Nat} {s:dSec.T} (hs:secs[i]? = some s):0≤(planV w segs secs).T.getD i 0∧0≤sizC s∧(planV w segs secs).T.getD i 0+sizC s≤(planV w segs secs).sz:=by
  by_cases ho:ownC s
  · have h:=po.bytes _ (List.mem_append_right _ (prsL_in (siz:=sizC) (S:=(planV w segs secs).T) (k:=0) hs ho))
    rw [Nat.zero_add] at h
    exact h
  have hm:=List.mem_of_getElem? hs
  have hpl:=(secC_zero (ok.sec s hm)).1
  obtain ⟨y,g1,g2,g3,g4,g5,g6⟩:=segG_in ok hG po hpl ho (hN s hm).off (hN s hm).sz.1 (po.inC i s hs ho)
  have h1:=segG_place ok hG po g1
  have h5:=(hN s hm).sz
  refine ⟨by omega,h5.1,?_⟩
  have g6:(planV w segs secs).T.getD i 0+sizC s≤_:=g6
  omega
theorem gg_apart (ok:ModelOk w en segs secs st) (po:PlanOk w segs secs) {i j:Nat} {x y:dSeg.T} (hij:i≠j) (hx:segs[i]? = some x) (hy:segs[j]? = some y) (ox:ownG x) (oy:ownG y):sizG x=0∨sizG y=0∨dis ((planV w segs secs).S.getD i 0,sizG x) ((planV w segs secs).S.getD j 0,sizG y):=by
  have h:=po.apart
  have h1:=(List.pairwise_append.1 (List.pairwise_append.1 h).1).2.1
  rcases Nat.lt_or_gt_of_ne hij with hlt | hgt
  · have:=prsL_get h1 hlt hx hy ox oy
    rw [Nat.zero_add,Nat.zero_add] at this
    exact this
  · have:=prsL_get h1 hgt hy hx oy ox
    rw [Nat.zero_add,Nat.zero_add] at this
    rcases this with h | h | h
    · exact .inr (.inl h)
    · exact .inl h
    · exact .inr (.inr (Or.symm h))
theorem gc_apart (ok:ModelOk w en segs secs st) (po:PlanOk w segs secs) {i j:Nat} {x:dSeg.T} {y:dSec.T} (hx:segs[i]? = some x) (hy:secs[j]? = some y) (ox:ownG x) (oy:ownC y):sizG x=0∨sizC y=0∨dis ((planV w segs secs).S.getD i 0,sizG x) ((planV w segs secs).T.getD j 0,sizC y):=by
  have h:=po.apart
  have h1:=(List.pairwise_append.1 h).2.2 _ (List.mem_append_right _ (prsL_in (siz:=sizG) (S:=(planV w segs secs).S) (k:=0) hx ox)) _ (prsL_in (siz:=sizC) (S:=(planV w segs secs).T) (k:=0) hy oy)
  rw [Nat.zero_add,Nat.zero_add] at h1
  exact h1
def LD (S:List Int) (segs:List dSeg.T):List dProgM.T:=(segs.zip S).map fun p=>(p.1.1,p.1.2.1,p.2,p.1.2.2.1,p.1.2.2.2.1,p.1.2.2.2.2.2.2.1.2.2.1,p.1.2.2.2.2.1,p.1.2.2.2.2.2.1,PUnit.unit)
theorem zip_at {α:Type} {l:List α} {S:List Int} {i:Nat} {x:α} (hl:S.length=l.length) (hx:l[i]? = some x):(l.zip S)[i]? = some (x,S.getD i 0):=by
  have hi:=(List.getElem?_eq_some_iff.1 hx).1
  rw [List.getElem?_zip_eq_some]
  refine ⟨hx,?_⟩
  rw [List.getD_eq_getElem?_getD,List.getElem?_eq_getElem (by omega)]
  rfl
theorem LD_at {S:List Int} {i:Nat} {s:dSeg.T} (hl:S.length=segs.length) (hs:segs[i]? = some s):(LD S segs)[i]? = some (s.1,s.2.1,S.getD i 0,s.2.2.1,s.2.2.2.1,s.2.2.2.2.2.2.1.2.2.1,s.2.2.2.2.1,s.2.2.2.2.2.1,PUnit.unit):=by
  unfold LD
  rw [List.getElem?_map,zip_at hl hs]
  rfl
theorem LD_get {S:List Int} {i:Nat} {x:dProgM.T} (hl:S.length=segs.length) (h:(LD S segs)[i]? = some x):∃ s,segs[i]? = some s∧x=(s.1,s.2.1,S.getD i 0,s.2.2.1,s.2.2.2.1,s.2.2.2.2.2.2.1.2.2.1,s.2.2.2.2.1,s.2.2.2.2.2.1,PUnit.unit):=by
  have hi:i < segs.length:=by
    have:=(List.getElem?_eq_some_iff.1 h).1
    unfold LD at this
    rw [List.length_map,List.length_zip] at this
    omega
  have hs:segs[i]? = some segs[i]:=List.getElem?_eq_getElem hi
  refine ⟨segs[i],hs,?_⟩
  rw [LD_at hl hs] at h
  exact (Option.some.inj h).symm
theorem LD_len {S:List Int} (hl:S.length=segs.length):(LD S segs).length=segs.length:=by
  unfold LD
  rw [List.length_map,List.length_zip,hl,Nat.min_self]
theorem in_iff {a n S m:Int}:S≤a∧withinB (a - S) n m=true ↔ S≤a∧a≤S+m∧a+n≤S+m:=by
  simp only [withinB,Bool.and_eq_true,decide_eq_true_eq]
  omega
theorem apart_no {S a m n:Int} (h:m=0∨n=0∨dis (S,m) (a,n)) (hn:0 < n) (h1:S≤a) (h2:a+n≤S+m):False:=by
  unfold dis at h
  dsimp only at h
  omega
theorem find_own (po:PlanOk w segs secs) {b:List Int} {a n:Int} (hno:∀ k y,segs[k]? = some y→@Eq Int y.1 1→0 < n→¬ ((planV w segs secs).S.getD k 0≤a∧a+n≤(planV w segs secs).S.getD k 0+sizG y)):findP b a n (LD (planV w segs secs).S segs) 0=ownP b a n :=
  findP_none _ _ fun x hx hin=>by
    obtain ⟨k,hk⟩:=List.getElem?_of_mem hx
    obtain ⟨y,hy,rfl⟩:=LD_get po.lS hk
    obtain ⟨h1,h2,h3⟩:=hin
    have h4:=in_iff.1 h3
    exact hno k y hy h2 h1 ⟨h4.1,h4.2.2⟩
theorem find_in (ok:ModelOk w en segs secs st) (po:PlanOk w segs secs) {b:List Int} {a n:Int} {k0:Nat} {y0:dSeg.T} (hk:segs[k0]? = some y0) (h1:@Eq Int y0.1 1) (hn:0 < n) (ha:(planV w segs secs).S.getD k0 0≤a) (he:a+n≤(planV w segs secs).S.getD k0 0+sizG y0) :
    findP b a n (LD (planV w segs secs).S segs) 0=((k0:Int),a - (planV w segs secs).S.getD k0 0,n,[]):=by
  have he0:a≤(planV w segs secs).S.getD k0 0+sizG y0:=by omega
  rw [findP_some _ 0 k0 _ (LD_at po.lS hk) ⟨hn,h1,in_iff.2 ⟨ha,he0,he⟩⟩ (fun j y hj hy hin=>by
    obtain ⟨s,hs,rfl⟩:=LD_get po.lS hy
    obtain ⟨q1,q2,q3⟩:=hin
    obtain ⟨q4,-,q5⟩:=in_iff.1 q3
    have q2:@Eq Int s.1 1:=q2
    have hsm:=List.mem_of_getElem? hs
    have hkm:=List.mem_of_getElem? hk
    have hap:=gg_apart ok po (show j≠k0 by omega) hs hk (load_own ok hsm q2) (load_own ok hkm h1)
    have q4:(planV w segs secs).S.getD j 0≤a:=q4
    have q5:a+n≤(planV w segs secs).S.getD j 0+sizG s:=q5
    unfold dis at hap
    dsimp only at hap
    omega)]
  rw [Nat.zero_add]

theorem seg_found (ok:ModelOk w en segs secs st) (hG:SegsN segs) (po:PlanOk w segs secs) (rest:List Int) {i:Nat} {s:dSeg.T} (hs:segs[i]? = some s):segPl (encB w big o ab ty ma en fl st segs secs++rest) (LD (planV w segs secs).S segs) (s.1,s.2.1,(planV w segs secs).S.getD i 0,s.2.2.1,s.2.2.2.1,s.2.2.2.2.2.2.1.2.2.1,s.2.2.2.2.1,s.2.2.2.2.2.1,PUnit.unit)=(s.2.2.2.2.2.2.1.1,s.2.2.2.2.2.2.1.2.1,s.2.2.2.2.2.2.1.2.2.1,s.2.2.2.2.2.2.1.2.2.2.1):=by
  have hm:=List.mem_of_getElem? hs
  have hpl:=(segC_zero (ok.seg s hm)).2.1
  have hP:=segG_place ok hG po hs
  have own:ownG s→ownP (encB w big o ab ty ma en fl st segs secs++rest) ((planV w segs secs).S.getD i 0) (sizG s)=(s.2.2.2.2.2.2.1.1,s.2.2.2.2.2.2.1.2.1,s.2.2.2.2.2.2.1.2.2.1,s.2.2.2.2.2.2.1.2.2.2.1):=fun ho=>by
    have h1:=sizG_own ok hm ho
    have hpl':=hpl
    rw [show s.2.2.2.2.2.2.1.1=(-1:Int) from ho] at hpl' ⊢
    rw [(place_own hpl').1]
    unfold ownP
    have:=encB_seg (big:=big) (o:=o) (ab:=ab) (ty:=ty) (ma:=ma) (fl:=fl) ok po rest (p:=(((planV w segs secs).S.getD (0+i) 0).toNat,bodyG s)) (List.mem_append_left _ (List.mem_append_right _ (pcsL_in hs ho)))
    rw [Nat.zero_add] at this
    rw [h1,Int.toNat_natCast,this]
    rw [show s.2.2.2.2.2.2.1.2.2.1=((bodyG s).length:Int) from h1]
  unfold segPl
  by_cases h1:@Eq Int s.1 1
  · rw [if_pos h1]
    exact own (load_own ok hm h1)
  rw [if_neg h1]
  by_cases ho:ownG s
  · show findP _ _ (sizG s) _ _=_
    rw [find_own po (fun k y hy y1 hn hin=>by
      have hym:=List.mem_of_getElem? hy
      have hki:k≠i:=fun e=>by subst e;rw [hs] at hy;obtain rfl:=Option.some.inj hy;exact h1 y1
      exact apart_no (gg_apart ok po hki hy hs (load_own ok hym y1) ho) hn hin.1 hin.2)]
    exact own ho
  · obtain ⟨y,g1,g2,g3,g4,g5,g6⟩:=segG_in ok hG po hpl ho (hG s hm).off (hG s hm).sz.1 (po.inG i s hs ho)
    obtain ⟨k1,-,k2,-⟩:=place_in hpl ho
    rw [find_in ok po g1 g2 g3 g4 g6,g5,Int.toNat_of_nonneg k1,k2]
theorem sec_found (ok:ModelOk w en segs secs st) (hG:SegsN segs) (hN:SecsN secs) (po:PlanOk w segs secs) (rest:List Int) {i:Nat} {s:dSec.T} (hs:secs[i]? = some s):secPl (encB w big o ab ty ma en fl st segs secs++rest) (LD (planV w segs secs).S segs) st (i+1) (s.1,s.2.1,s.2.2.1,s.2.2.2.1,(planV w segs secs).T.getD i 0,s.2.2.2.2.1,s.2.2.2.2.2.1,s.2.2.2.2.2.2.1,s.2.2.2.2.2.2.2.1,s.2.2.2.2.2.2.2.2.1,PUnit.unit)=(s.2.2.2.2.2.2.2.2.2.1.1,s.2.2.2.2.2.2.2.2.2.1.2.1,s.2.2.2.2.2.2.2.2.2.1.2.2.1,s.2.2.2.2.2.2.2.2.2.1.2.2.2.1):=by
  have hm:=List.mem_of_getElem? hs
  obtain ⟨hpl,hsz,-⟩:=secC_zero (ok.sec s hm)
  have hP:=secC_place ok hG hN po hs
  unfold secPl
  by_cases h0:@Eq Int s.2.1 0∨@Eq Int s.2.1 8
  · rw [if_pos h0]
    rw [if_pos h0] at hsz
    have ho:ownC s:=Decidable.byContradiction fun ho=>(place_in hpl ho).2.2.2.1 hsz
    rw [show s.2.2.2.2.2.2.2.2.2.1.1=(-1:Int) from ho] at hpl ⊢
    obtain ⟨e1,e2⟩:=place_own hpl
    rw [hsz] at e2 ⊢
    rw [e1,List.eq_nil_of_length_eq_zero (l:=s.2.2.2.2.2.2.2.2.2.1.2.2.2.1) (by omega)]
  rw [if_neg h0]
  rw [if_neg h0] at hsz
  have hsz:s.2.2.2.2.2.2.2.2.2.1.2.2.1=s.2.2.2.2.1:=hsz
  have own:ownC s→ownP (encB w big o ab ty ma en fl st segs secs++rest) ((planV w segs secs).T.getD i 0) (sizC s)=(s.2.2.2.2.2.2.2.2.2.1.1,s.2.2.2.2.2.2.2.2.2.1.2.1,s.2.2.2.2.2.2.2.2.2.1.2.2.1,s.2.2.2.2.2.2.2.2.2.1.2.2.2.1):=fun ho=>by
    have h1:=sizC_own ok hm ho
    have hpl':=hpl
    rw [show s.2.2.2.2.2.2.2.2.2.1.1=(-1:Int) from ho] at hpl' ⊢
    rw [(place_own hpl').1]
    unfold ownP
    have:=encB_seg (big:=big) (o:=o) (ab:=ab) (ty:=ty) (ma:=ma) (fl:=fl) ok po rest (p:=(((planV w segs secs).T.getD (0+i) 0).toNat,bodyC s)) (List.mem_append_right _ (pcsL_in hs ho))
    rw [Nat.zero_add] at this
    rw [h1,Int.toNat_natCast,this]
    rw [show s.2.2.2.2.2.2.2.2.2.1.2.2.1=((bodyC s).length:Int) from h1]
  show (if _ then ownP _ _ s.2.2.2.2.1 else findP _ _ s.2.2.2.2.1 _ 0)=_
  rw [← hsz]
  by_cases h1:((i+1:Nat):Int)=st
  · rw [if_pos h1]
    have hn:=ok.nam
    have ho:ownC s:=by
      unfold namesC at hn
      have hi:=(List.getElem?_eq_some_iff.1 hs).1
      rw [if_neg (by omega),if_neg (by omega),show (st - 1).toNat=i by omega,hs] at hn
      simp only at hn
      by_cases hc:¬ @Eq Int s.2.1 3∨¬ @Eq Int s.2.2.2.2.2.2.2.2.2.1.1 (-1)
      · rw [if_pos hc] at hn;cases hn
      · exact Decidable.byContradiction fun h=>hc (.inr h)
    exact own ho
  rw [if_neg h1]
  by_cases ho:ownC s
  · show findP _ _ (sizC s) _ _=_
    rw [find_own po (fun k y hy y1 hn hin=>by
      have hym:=List.mem_of_getElem? hy
      exact apart_no (gc_apart ok po hy hs (load_own ok hym y1) ho) hn hin.1 hin.2)]
    exact own ho
  · obtain ⟨y,g1,g2,g3,g4,g5,g6⟩:=segG_in ok hG po hpl ho (hN s hm).off (hN s hm).sz.1 (po.inC i s hs ho)
    obtain ⟨k1,-,k2,-⟩:=place_in hpl ho
    rw [find_in ok po g1 g2 g3 g4 g6,g5,Int.toNat_of_nonneg k1,k2]
end
end Go.Proofs.Ytcffpnlochillaa.PvW
end

/- A heap of plain values, walks over it, and functions of the program met by them: no statement of the set is proved in this text. -/
import Derived.Test.YtcffpnlochillaaKb37
set_option linter.unusedVariables false
set_option linter.unusedSimpArgs false
set_option maxRecDepth 100000
set_option maxHeartbeats 4000000
section
namespace Go.Proofs.Ytcffpnlochillaa.PvW
open Go.RowKit Go.Proofs.Ytcffpnlochillaa.Cd Go.Proofs.Ytcffpnlochillaa.AbP Go.Proofs.Ytcffpnlochillaa.Num Go.Proofs.Ytcffpnlochillaa.Pv
def Pok (p:PS):Prop:=p.2=false→0≤p.1∧p.1≤65536
theorem lay_fact {p:PS} {n v al:Int} (hp:Pok p) (hv:0≤v∧v≤18446744073709551615) (hal:0≤al∧al≤18446744073709551615) (hpw:powN al.toNat) (hn:0≤n∧n≤1000000) (h:(layS p n v al).2=false) :
    p.2=false∧p.1≤layR p v al∧(layS p n v al).1=layR p v al+n∧layR p v al+n≤65536∧(1 < al→(layR p v al - v) % al=0):=by
  obtain ⟨a,ov⟩:=p
  cases ov
  rotate_left
  · cases h
  obtain ⟨h0,h1⟩:=hp rfl
  have h0:0≤a:=h0
  have h1:a≤65536:=h1
  have hla:=layA_eq ⟨h0,h1⟩ hv hal hpw
  have hS:layS (a,false) n v al=((layA a v al+n) % 18446744073709551616,layO (layA a v al) n):=rfl
  have hR:layR (a,false) v al=layA a v al:=rfl
  rw [hS] at h ⊢
  rw [hR]
  have h:layO (layA a v al) n=false:=h
  unfold layO at h
  simp only [Bool.or_eq_false_iff,decide_eq_false_iff_not] at h
  have hge:a≤layA a v al:=by
    rw [hla]
    split
    · omega
    · have:=Int.emod_nonneg (v - a) (show al≠0 by omega)
      omega
  refine ⟨rfl,hge,?_,by omega,fun h2=>?_⟩
  · show (layA a v al+n) % 18446744073709551616=_
    omega
  · rw [hla,if_neg (by omega)]
    have e:a+(v - a) % al - v=al * (-((v - a) / al)):=by
      have:=Int.mul_ediv_add_emod (v - a) al
      rw [Int.mul_neg]
      omega
    rw [e,Int.mul_emod_right]
theorem layS_ov {p:PS} {n v al:Int} (h:(layS p n v al).2=false):p.2=false:=by
  obtain ⟨a,ov⟩:=p
  cases ov
  · rfl
  · exact h
theorem lay_ok {p:PS} {n v al:Int} (hp:Pok p) (hv:0≤v∧v≤18446744073709551615) (hal:0≤al∧al≤18446744073709551615) (hpw:powN al.toNat) (hn:0≤n∧n≤1000000):Pok (layS p n v al):=fun h=>by
  obtain ⟨h1,h2,h3,h4,-⟩:=lay_fact hp hv hal hpw hn h
  obtain ⟨h5,h6⟩:=hp h1
  rw [h3]
  omega

section
variable {α:Type} {f:List Int×PS→α→List Int×PS} {laid:α→Prop} {siz:α→Int}
def StepP (f:List Int×PS→α→List Int×PS) (laid:α→Prop) (siz:α→Int) (x:α):Prop :=
  0≤siz x∧siz x≤1000000∧∀ c,(laid x∧∃ v al,(0≤v∧v≤18446744073709551615)∧(0≤al∧al≤18446744073709551615)∧powN al.toNat∧f c x=(c.1++[layR c.2 v al],layS c.2 (siz x) v al))∨(¬ laid x∧∃ y,f c x=(c.1++[y],c.2))
theorem step_len {x:α} (h:StepP f laid siz x) (c:List Int×PS):(f c x).1.length=c.1.length+1:=by
  rcases h.2.2 c with ⟨-,v,al,-,-,-,e⟩ | ⟨-,y,e⟩
  · rw [e];simp
  · rw [e];simp
theorem getD_left {a:List Int} {y:Int} {i:Nat} (h:i < a.length):(a++[y]).getD i 0=a.getD i 0:=by
  rw [List.getD_eq_getElem?_getD,List.getElem?_append_left h,← List.getD_eq_getElem?_getD]
theorem getD_last {a:List Int} {y:Int} {i:Nat} (h:a.length=i):(a++[y]).getD i 0=y:=by
  rw [List.getD_eq_getElem?_getD,List.getElem?_append_right (by omega),h,Nat.sub_self];rfl
theorem fold_apart {l:List α} {p:PS} (hp:Pok p) (hs:∀ x ∈ l,StepP f laid siz x):∀ k,k≤l.length →
    ((l.take k).foldl f ([],p)).1.length=k∧Pok ((l.take k).foldl f ([],p)).2∧(((l.take k).foldl f ([],p)).2.2=false→p.2=false∧p.1≤((l.take k).foldl f ([],p)).2.1 ∧
      ∀ i x, i < k → l[i]? = some x → laid x → p.1 ≤ ((l.take k).foldl f ([], p)).1.getD i 0 ∧ ((l.take k).foldl f ([], p)).1.getD i 0 + siz x ≤ ((l.take k).foldl f ([], p)).2.1 ∧
        ∀ j y,i < j→j < k→l[j]? = some y→laid y→((l.take k).foldl f ([],p)).1.getD i 0+siz x≤((l.take k).foldl f ([],p)).1.getD j 0)
  | 0,_=>⟨rfl,hp,fun h=>⟨h,Int.le_refl _,fun i x hi=>absurd hi (Nat.not_lt_zero i)⟩⟩
  | k + 1, hk => by
    obtain ⟨x,hx⟩:∃ x,l[k]? = some x:=⟨l[k],List.getElem?_eq_getElem (by omega)⟩
    rw [fold_snoc hx]
    obtain ⟨ih1,ih2,ih3⟩:=fold_apart hp hs k (by omega)
    have hsx:=hs x (List.mem_of_getElem? hx)
    generalize (l.take k).foldl f ([],p)=c at *
    refine ⟨by rw [step_len hsx,ih1],?_,fun h=>?_⟩
    · rcases hsx.2.2 c with ⟨-,v,al,hv,hal,hpw,e⟩ | ⟨-,y,e⟩
      · rw [e];exact lay_ok ih2 hv hal hpw ⟨hsx.1,hsx.2.1⟩
      · rw [e];exact ih2
    rcases hsx.2.2 c with ⟨hl,v,al,hv,hal,hpw,e⟩ | ⟨hl,y,e⟩
    · rw [e] at h ⊢
      obtain ⟨g1,g2,g3,g4,-⟩:=lay_fact ih2 hv hal hpw ⟨hsx.1,hsx.2.1⟩ h
      obtain ⟨q1,q2,q3⟩:=ih3 g1
      have hs0:=hsx.1
      refine ⟨q1,by show _≤(layS c.2 (siz x) v al).1;omega,fun i y hi hy hly=>?_⟩
      show p.1≤(c.1++[layR c.2 v al]).getD i 0∧(c.1++[layR c.2 v al]).getD i 0+siz y≤(layS c.2 (siz x) v al).1∧∀ j z,i < j→j < k+1→l[j]? = some z→laid z→(c.1++[layR c.2 v al]).getD i 0+siz y≤(c.1++[layR c.2 v al]).getD j 0
      by_cases hik:i < k
      · obtain ⟨r1,r2,r3⟩:=q3 i y hik hy hly
        rw [getD_left (by omega)]
        refine ⟨r1,by omega,fun j z hij hj hz hlz=>?_⟩
        by_cases hjk:j < k
        · rw [getD_left (by omega)]
          exact r3 j z hij hjk hz hlz
        · rw [getD_last (by omega)]
          omega
      · obtain rfl:i=k:=by omega
        rw [hx] at hy
        obtain rfl:=Option.some.inj hy
        rw [getD_last ih1]
        exact ⟨by omega,by omega,fun j z hij hj=>by omega⟩
    · rw [e] at h ⊢
      obtain ⟨q1,q2,q3⟩:=ih3 h
      refine ⟨q1,q2,fun i y' hi hy hly=>?_⟩
      show p.1≤(c.1++[y]).getD i 0∧(c.1++[y]).getD i 0+siz y'≤c.2.1∧∀ j z,i < j→j < k+1→l[j]? = some z→laid z→(c.1++[y]).getD i 0+siz y'≤(c.1++[y]).getD j 0
      have hne:∀ j z,l[j]? = some z→laid z→j < k+1→j < k:=fun j z hz hlz hj=>by
        by_cases hjk:j < k
        · exact hjk
        · obtain rfl:j=k:=by omega
          rw [hx] at hz
          obtain rfl:=Option.some.inj hz
          exact absurd hlz hl
      have hik:=hne i y' hy hly hi
      obtain ⟨r1,r2,r3⟩:=q3 i y' hik hy hly
      rw [getD_left (by omega)]
      refine ⟨r1,r2,fun j z hij hj hz hlz=>?_⟩
      have hjk:=hne j z hz hlz hj
      rw [getD_left (by omega)]
      exact r3 j z hij hjk hz hlz
theorem fold_ov {f:List Int×PS→α→List Int×PS}:∀ (l:List α),(∀ c,∀ x ∈ l,(f c x).2.2=false→c.2.2=false)→∀ c,(l.foldl f c).2.2=false→c.2.2=false
  | [],_,c,h=>h
  | x::l,hf,c,h=>hf c x (by simp) (fold_ov l (fun c y hy=>hf c y (List.mem_cons_of_mem _ hy)) (f c x) h)
theorem step_ov {x:α} (h:StepP f laid siz x) (c:List Int×PS) (hc:(f c x).2.2=false):c.2.2=false:=by
  rcases h.2.2 c with ⟨-,v,al,-,-,-,e⟩ | ⟨-,y,e⟩
  · rw [e] at hc;exact layS_ov hc
  · rw [e] at hc;exact hc
theorem step_get {x:α} (h:StepP f laid siz x) (c:List Int×PS) {i:Nat} (hi:i < c.1.length):(f c x).1.getD i 0=c.1.getD i 0:=by
  rcases h.2.2 c with ⟨-,v,al,-,-,-,e⟩ | ⟨-,y,e⟩
  · rw [e];exact getD_left hi
  · rw [e];exact getD_left hi

theorem fold_get {l:List α} {p:PS} (hs:∀ x ∈ l,StepP f laid siz x) {i:Nat} {x:α} (hx:l[i]? = some x):∀ k,i < k→k≤l.length→((l.take k).foldl f ([],p)).1.getD i 0=(f ((l.take i).foldl f ([],p)) x).1.getD i 0
  | 0,h,_=>by omega
  | k + 1, h, hkl => by
    obtain ⟨y,hy⟩:∃ y,l[k]? = some y:=⟨l[k],List.getElem?_eq_getElem (by omega)⟩
    have hsy:=hs y (List.mem_of_getElem? hy)
    rw [fold_snoc hy]
    by_cases hik:i < k
    · have hlen:∀ k,k≤l.length→((l.take k).foldl f ([],p)).1.length=k:=fun k hk=>by
        induction k with
        | zero=>rfl
        | succ k ih =>
          obtain ⟨z,hz⟩:∃ z,l[k]? = some z:=⟨l[k],List.getElem?_eq_getElem (by omega)⟩
          rw [fold_snoc hz,step_len (hs z (List.mem_of_getElem? hz)),ih (by omega)]
      rw [step_get hsy _ (by rw [hlen k (by omega)];exact hik)]
      exact fold_get hs hx k hik (by omega)
    · obtain rfl:i=k:=by omega
      rw [hx] at hy
      obtain rfl:=Option.some.inj hy
      rfl
end
def prsL {α:Type} (own:α→Prop) [DecidablePred own] (siz:α→Int) (S:List Int):List α→Nat→List (Int×Int)
  | [],_=>[]
  | x::l,k=>if own x then (S.getD k 0,siz x)::prsL own siz S l (k+1) else prsL own siz S l (k+1)
section
variable {α:Type} {own:α→Prop} [DecidablePred own] {siz:α→Int} {S:List Int}
theorem prsL_mem:∀ {l:List α} {k:Nat} {q:Int×Int},q ∈ prsL own siz S l k→∃ i x,l[i]? = some x∧own x∧q=(S.getD (k+i) 0,siz x)
  | [],k,q,h=>by cases h
  | y :: l, k, q, h => by
    have h:q ∈ (if own y then (S.getD k 0,siz y)::prsL own siz S l (k+1) else prsL own siz S l (k+1)):=h
    have go:q ∈ prsL own siz S l (k+1)→∃ i x,(y::l)[i]? = some x∧own x∧q=(S.getD (k+i) 0,siz x):=fun h=>by
      obtain ⟨i,x,h1,h2,h3⟩:=prsL_mem h
      exact ⟨i+1,x,by simpa using h1,h2,by rw [h3,show k+1+i=k+(i+1) by omega]⟩
    split at h
    · rename_i ho
      rcases List.mem_cons.1 h with rfl | h
      · exact ⟨0,y,rfl,ho,rfl⟩
      · exact go h
    · exact go h
theorem prsL_pw {R:Int×Int→Int×Int→Prop}:∀ {l:List α} {k:Nat},(∀ i j x y,i < j→l[i]? = some x→l[j]? = some y→own x→own y→R (S.getD (k+i) 0,siz x) (S.getD (k+j) 0,siz y))→(prsL own siz S l k).Pairwise R
  | [],k,h=>.nil
  | y :: l, k, h => by
    have ih:=prsL_pw (l:=l) (k:=k+1) (fun i j x z hij hx hz ox oz=>by
      have:=h (i+1) (j+1) x z (by omega) (by simpa using hx) (by simpa using hz) ox oz
      rw [show k+1+i=k+(i+1) by omega,show k+1+j=k+(j+1) by omega]
      exact this)
    show (if own y then (S.getD k 0,siz y)::prsL own siz S l (k+1) else prsL own siz S l (k+1)).Pairwise R
    split
    · rename_i ho
      refine List.pairwise_cons.2 ⟨fun q hq=>?_,ih⟩
      obtain ⟨i,x,h1,h2,rfl⟩:=prsL_mem hq
      rw [show k+1+i=k+(i+1) by omega]
      exact h 0 (i+1) y x (by omega) rfl (by simpa using h1) ho h2
    · exact ih
end
def dis (p q:Int×Int):Prop:=p.1+p.2≤q.1∨q.1+q.2≤p.1
abbrev ownG (s:dSeg.T):Prop:=@Eq Int s.2.2.2.2.2.2.1.1 (-1)
abbrev ownC (s:dSec.T):Prop:=@Eq Int s.2.2.2.2.2.2.2.2.2.1.1 (-1)
abbrev sizG (s:dSeg.T):Int:=s.2.2.2.2.2.2.1.2.2.1
abbrev sizC (s:dSec.T):Int:=s.2.2.2.2.2.2.2.2.2.1.2.2.1
structure PlanOk (w:Bool) (segs:List dSeg.T) (secs:List dSec.T):Prop where
  lS:(planV w segs secs).S.length=segs.length
  lT:(planV w segs secs).T.length=secs.length
  size:0≤(planV w segs secs).sz∧(planV w segs secs).sz≤65536
  inG:∀ i s,segs[i]? = some s→¬ ownG s→(planV w segs secs).S.getD i 0=((planV w segs secs).S.getD (@Int.toNat s.2.2.2.2.2.2.1.1) 0+s.2.2.2.2.2.2.1.2.1) % 18446744073709551616
  inC:∀ i s,secs[i]? = some s→¬ ownC s→(planV w segs secs).T.getD i 0=((planV w segs secs).S.getD (@Int.toNat s.2.2.2.2.2.2.2.2.2.1.1) 0+s.2.2.2.2.2.2.2.2.2.1.2.1) % 18446744073709551616
  align:∀ i s,segs[i]? = some s→@Eq Int s.1 1→@LT.lt Int _ 1 s.2.2.2.2.2.1→((planV w segs secs).S.getD i 0 - s.2.2.1) % s.2.2.2.2.2.1=0
  bytes:∀ q ∈ [(0,hsz w),((planV w segs secs).ph,psz w * segs.length)]++(if secs.length=0 then [] else [((planV w segs secs).sh,ssz w * (secs.length+1))])++prsL ownG sizG (planV w segs secs).S segs 0++prsL ownC sizC (planV w segs secs).T secs 0,0≤q.1∧0≤q.2∧q.1+q.2≤(planV w segs secs).sz
  apart:([(0,hsz w),((planV w segs secs).ph,psz w * segs.length)]++(if secs.length=0 then [] else [((planV w segs secs).sh,ssz w * (secs.length+1))])++prsL ownG sizG (planV w segs secs).S segs 0++prsL ownC sizC (planV w segs secs).T secs 0).Pairwise fun p q=>p.2=0∨q.2=0∨dis p q
theorem planOk {w:Bool} {en st:Int} {segs:List dSeg.T} {secs:List dSec.T} (ok:ModelOk w en segs secs st) (hG:SegsN segs) (hN:SecsN secs) (hov:(planV w segs secs).ov=false):PlanOk w segs secs:=by
  have hnp:0≤psz w * (segs.length:Int)∧psz w * (segs.length:Int)≤896:=by have:=ok.l16;cases w <;> simp only [psz,Bool.false_eq_true,↓reduceIte] <;> omega
  have hns:0≤ssz w * ((secs.length:Int)+1)∧ssz w * ((secs.length:Int)+1)≤4160:=by have:=ok.l64;cases w <;> simp only [ssz,Bool.false_eq_true,↓reduceIte] <;> omega
  have hh:hsz w=64∨hsz w=52:=by cases w <;> simp [hsz]
  have r0:Pok (hsz w,false):=fun _=>⟨by show 0≤hsz w;omega,by show hsz w≤65536;omega⟩
  
  have hlA:layA (hsz w) 0 1=hsz w:=by rw [layA_eq (by omega) (by omega) (by omega) rfl,if_pos (by omega)]
  have h0:pla0 w segs=(hsz w+psz w * segs.length,false):=by
    unfold pla0
    by_cases h:segs.length=0
    · rw [if_pos h,h]
      simp
    · rw [if_neg h]
      show ((layA (hsz w) 0 1+segs.length * psz w) % 18446744073709551616,layO (layA (hsz w) 0 1) (segs.length * psz w))=_
      rw [hlA,Int.mul_comm (segs.length:Int) (psz w)]
      have e:layO (hsz w) (psz w * segs.length)=false:=by unfold layO;rw [decide_eq_false (by omega),decide_eq_false (by omega)];rfl
      rw [e,Int.emod_eq_of_lt (by omega) (by omega)]
  have hph:(planV w segs secs).ph=if segs.length=0 then 0 else hsz w:=by
    show (if segs.length=0 then 0 else layA (hsz w) 0 1)=_
    rw [hlA]
  have p0:Pok (pla0 w segs):=by rw [h0];exact fun _=>⟨by show 0≤hsz w+psz w * segs.length;omega,by show hsz w+psz w * segs.length≤65536;omega⟩
  have sA:∀ x ∈ segs,StepP st1 (fun s=>@Eq Int s.1 1) (fun s=>if @Eq Int s.1 1 then sizG s else 0) x:=by
    intro s hs
    have hz:=segC_zero (ok.seg s hs)
    have hs0:=hG s hs
    refine ⟨by show 0≤(if _ then sizG s else 0);split;exact hs0.sz.1;decide,?_,fun c=>?_⟩
    · show (if _ then sizG s else 0)≤1000000
      split
      · rename_i h1
        have ho:sizG s=_:=(place_own (by have h:=hz.2.1;rw [(hz.2.2 h1).1] at h;exact h)).2
        have how:=hs0.ow
        rw [ho]
        omega
      · decide
    · by_cases h1:@Eq Int s.1 1
      · refine .inl ⟨h1,_,_,hs0.va,hs0.al,(andI_pow hs0.al).1 hz.1,?_⟩
        show st1 c s=(c.1++[layR c.2 s.2.2.1 s.2.2.2.2.2.1],layS c.2 (if @Eq Int s.1 1 then sizG s else 0) s.2.2.1 s.2.2.2.2.2.1)
        rw [if_pos h1]
        exact if_pos h1
      · exact .inr ⟨h1,0,if_neg h1⟩
  have sB:∀ x ∈ segs,StepP (st2 (plaA w segs).1) (fun s=>ownG s∧¬ @Eq Int s.1 1) (fun s=>if ownG s∧¬ @Eq Int s.1 1 then sizG s else 0) x:=by
    intro s hs
    have hz:=segC_zero (ok.seg s hs)
    have hs0:=hG s hs
    refine ⟨by show 0≤(if _ then sizG s else 0);split;exact hs0.sz.1;decide,?_,fun c=>?_⟩
    · show (if _ then sizG s else 0)≤1000000
      split
      · rename_i h1
        have ho:sizG s=_:=(place_own (by have h:=hz.2.1;rw [h1.1] at h;exact h)).2
        have how:=hs0.ow
        rw [ho]
        omega
      · decide
    · by_cases h4:ownG s
      · by_cases h1:@Eq Int s.1 1
        · exact .inr ⟨fun h=>h.2 h1,_,(if_neg (fun h=>h h4)).trans (if_neg (fun h=>h h1))⟩
        · refine .inl ⟨⟨h4,h1⟩,0,8,by omega,by omega,pow8,?_⟩
          show st2 (plaA w segs).1 c s=(c.1++[layR c.2 0 8],layS c.2 (if ownG s∧¬ @Eq Int s.1 1 then sizG s else 0) 0 8)
          rw [if_pos (show ownG s∧¬ @Eq Int s.1 1 from ⟨h4,h1⟩)]
          exact (if_neg (fun h=>h h4)).trans (if_pos h1)
      · exact .inr ⟨fun h=>h4 h.1,_,if_pos h4⟩
  have sC:∀ x ∈ secs,StepP (st3 (plaB w segs).1) ownC (fun s=>if ownC s then sizC s else 0) x:=by
    intro s hs
    have hz:=secC_zero (ok.sec s hs)
    have hs0:=hN s hs
    refine ⟨by show 0≤(if _ then sizC s else 0);split;exact hs0.sz.1;decide,?_,fun c=>?_⟩
    · show (if _ then sizC s else 0)≤1000000
      split
      · rename_i h1
        have ho:sizC s=_:=(place_own (by have h:=hz.1;rw [h1] at h;exact h)).2
        have how:=hs0.ow
        rw [ho]
        omega
      · decide
    · by_cases h4:ownC s
      · refine .inl ⟨h4,0,8,by omega,by omega,pow8,?_⟩
        show st3 (plaB w segs).1 c s=(c.1++[layR c.2 0 8],layS c.2 (if ownC s then sizC s else 0) 0 8)
        rw [if_pos h4]
        exact if_neg (fun h=>h h4)
      · exact .inr ⟨h4,_,if_pos h4⟩
  have aA:=fold_apart p0 sA segs.length (Nat.le_refl _)
  have aA':=fun k hk=>(fold_apart p0 sA k hk).2.1
  have aAl:=fun k hk=>(fold_apart p0 sA k hk).1
  have gA:=fun (i:Nat) (x:dSeg.T) (hx:segs[i]? = some x)=>fold_get (p:=pla0 w segs) sA hx segs.length ((List.getElem?_eq_some_iff.1 hx).1) (Nat.le_refl _)
  have vA:segs.foldl st1 ([],pla0 w segs)=plaA w segs:=rfl
  simp only [List.take_length,vA] at aA gA
  have aB:=fold_apart aA.2.1 sB segs.length (Nat.le_refl _)
  have aBl:=fun k hk=>(fold_apart aA.2.1 sB k hk).1
  have gB:=fun (i:Nat) (x:dSeg.T) (hx:segs[i]? = some x)=>fold_get (p:=(plaA w segs).2) sB hx segs.length ((List.getElem?_eq_some_iff.1 hx).1) (Nat.le_refl _)
  have vB:segs.foldl (st2 (plaA w segs).1) ([],(plaA w segs).2)=plaB w segs:=rfl
  simp only [List.take_length,vB] at aB gB
  have aC:=fold_apart aB.2.1 sC secs.length (Nat.le_refl _)
  have aCl:=fun k hk=>(fold_apart aB.2.1 sC k hk).1
  have gC:=fun (i:Nat) (x:dSec.T) (hx:secs[i]? = some x)=>fold_get (p:=(plaB w segs).2) sC hx secs.length ((List.getElem?_eq_some_iff.1 hx).1) (Nat.le_refl _)
  have vC:secs.foldl (st3 (plaB w segs).1) ([],(plaB w segs).2)=plaC w segs secs:=rfl
  simp only [List.take_length,vC] at aC gC
  have kB:∀ j s,segs[j]? = some s→@Eq Int s.1 1→ownG s→(plaB w segs).1.getD j 0=(plaA w segs).1.getD j 0:=fun j s hs h1 h2=>by
    have:=b_keeps (A:=(plaA w segs).1) (p:=(plaA w segs).2) hs h1 h2 segs.length ((List.getElem?_eq_some_iff.1 hs).1) (Nat.le_refl _)
    rw [List.take_length,vB] at this
    exact this
  
  have hE:(plaC w segs secs).2.2=false∧(plaC w segs secs).2.1≤(planV w segs secs).sz∧(planV w segs secs).sz≤65536∧(¬ secs.length=0→(plaC w segs secs).2.1≤(planV w segs secs).sh∧(planV w segs secs).sh+ssz w * (secs.length+1)=(planV w segs secs).sz):=by
    have e1:(planV w segs secs).sz=(plaE w segs secs).1:=rfl
    have e2:(planV w segs secs).sh=if secs.length=0 then 0 else layR (plaC w segs secs).2 0 8:=rfl
    have e3:(plaE w segs secs).2=false:=hov
    rw [e1,e2]
    unfold plaE at e3 ⊢
    by_cases h:secs.length=0
    · rw [if_pos h] at e3
      rw [if_pos h]
      have:=aC.2.1 e3
      exact ⟨e3,Int.le_refl _,this.2,fun h'=>absurd h h'⟩
    · rw [if_neg h] at e3
      rw [if_neg h,if_neg h]
      obtain ⟨q1,q2,q3,q4,-⟩:=lay_fact aC.2.1 (by omega) (by omega) pow8 (by rw [Int.mul_comm];omega) e3
      have q5:=aC.2.1 q1
      rw [Int.mul_comm ((secs.length:Int)+1) (ssz w)] at q3 q4 ⊢
      exact ⟨q1,by omega,by omega,fun _=>⟨q2,q3.symm⟩⟩
  obtain ⟨oC,eC,eM,eS⟩:=hE
  obtain ⟨oB,lC,fC⟩:=aC.2.2 oC
  obtain ⟨oA,lB,fB⟩:=aB.2.2 oB
  obtain ⟨o0,lA,fA⟩:=aA.2.2 oA
  have l0:(pla0 w segs).1=hsz w+psz w * segs.length:=by rw [h0]
  have S_:(planV w segs secs).S=(plaB w segs).1:=rfl
  have T_:(planV w segs secs).T=(plaC w segs secs).1:=rfl
  rw [l0] at lA fA
  generalize ha0:hsz w+psz w * (segs.length:Int)=a0 at *
  generalize ha1:(plaA w segs).2.1=a1 at *
  generalize ha2:(plaB w segs).2.1=a2 at *
  generalize ha3:(plaC w segs secs).2.1=a3 at *
  have gG:∀ i s,segs[i]? = some s→ownG s→0≤sizG s∧(@Eq Int s.1 1→a0≤(plaB w segs).1.getD i 0∧(plaB w segs).1.getD i 0+sizG s≤a1)∧(¬ @Eq Int s.1 1→a1≤(plaB w segs).1.getD i 0∧(plaB w segs).1.getD i 0+sizG s≤a2):=by
    intro i s hs ho
    have hi:=(List.getElem?_eq_some_iff.1 hs).1
    refine ⟨(hG s (List.mem_of_getElem? hs)).sz.1,fun h1=>?_,fun h1=>?_⟩
    · rw [kB i s hs h1 ho]
      obtain ⟨q1,q2,-⟩:=fA i s hi hs h1
      simp only [if_pos h1] at q2
      exact ⟨q1,q2⟩
    · obtain ⟨q1,q2,-⟩:=fB i s hi hs ⟨ho,h1⟩
      simp only [if_pos (show ownG s∧¬ @Eq Int s.1 1 from ⟨ho,h1⟩)] at q2
      exact ⟨q1,q2⟩
  have gGG:∀ i j x y,i < j→segs[i]? = some x→segs[j]? = some y→ownG x→ownG y→dis ((plaB w segs).1.getD i 0,sizG x) ((plaB w segs).1.getD j 0,sizG y):=by
    intro i j x y hij hx hy ox oy
    have hi:=(List.getElem?_eq_some_iff.1 hx).1
    have hj:=(List.getElem?_eq_some_iff.1 hy).1
    obtain ⟨-,x1,x2⟩:=gG i x hx ox
    obtain ⟨-,y1,y2⟩:=gG j y hy oy
    unfold dis
    dsimp only
    by_cases h1:@Eq Int x.1 1
    · by_cases h2:@Eq Int y.1 1
      · have q:=(fA i x hi hx h1).2.2 j y hij hj hy h2
        simp only [if_pos h1] at q
        rw [kB i x hx h1 ox,kB j y hy h2 oy]
        exact .inl q
      · have:=x1 h1
        have:=y2 h2
        omega
    · by_cases h2:@Eq Int y.1 1
      · have:=x2 h1
        have:=y1 h2
        omega
      · have q:=(fB i x hi hx ⟨ox,h1⟩).2.2 j y hij hj hy ⟨oy,h2⟩
        simp only [if_pos (show ownG x∧¬ @Eq Int x.1 1 from ⟨ox,h1⟩)] at q
        exact .inl q
  have gS:∀ i s,secs[i]? = some s→ownC s→0≤sizC s∧a2≤(plaC w segs secs).1.getD i 0∧(plaC w segs secs).1.getD i 0+sizC s≤a3:=by
    intro i s hs ho
    have hi:=(List.getElem?_eq_some_iff.1 hs).1
    obtain ⟨q1,q2,-⟩:=fC i s hi hs ho
    simp only [if_pos ho] at q2
    exact ⟨(hN s (List.mem_of_getElem? hs)).sz.1,q1,q2⟩
  have gSS:∀ i j x y,i < j→secs[i]? = some x→secs[j]? = some y→ownC x→ownC y→dis ((plaC w segs secs).1.getD i 0,sizC x) ((plaC w segs secs).1.getD j 0,sizC y):=by
    intro i j x y hij hx hy ox oy
    have hi:=(List.getElem?_eq_some_iff.1 hx).1
    have hj:=(List.getElem?_eq_some_iff.1 hy).1
    have q:=(fC i x hi hx ox).2.2 j y hij hj hy oy
    simp only [if_pos ox] at q
    exact .inl q
  have mH:∀ q ∈ [((0:Int),hsz w),((planV w segs secs).ph,psz w * (segs.length:Int))],0≤q.1∧0≤q.2∧(q.2=0∨q.1+q.2≤a0)∧q.1+q.2≤a0:=by
    intro q hq
    rcases List.mem_cons.1 hq with rfl | hq
    · dsimp only
      omega
    · obtain rfl:=List.mem_singleton.1 hq
      rw [hph]
      dsimp only
      split
      · rename_i h
        rw [h] at hnp ha0 ⊢
        simp only [Int.natCast_zero,Int.mul_zero] at *
        omega
      · omega
  have mS:∀ q ∈ (if secs.length=0 then [] else [((planV w segs secs).sh,ssz w * ((secs.length:Int)+1))]),a3≤q.1∧0≤q.2∧q.1+q.2≤(planV w segs secs).sz:=by
    intro q hq
    split at hq
    · cases hq
    · rename_i h
      obtain rfl:=List.mem_singleton.1 hq
      obtain ⟨k1,k2⟩:=eS h
      dsimp only
      omega
  have mG:∀ q ∈ prsL ownG sizG (plaB w segs).1 segs 0,a0≤q.1∧0≤q.2∧q.1+q.2≤a2:=by
    intro q hq
    obtain ⟨i,s,hs,ho,rfl⟩:=prsL_mem hq
    obtain ⟨k0,k1,k2⟩:=gG i s hs ho
    rw [Nat.zero_add]
    dsimp only
    by_cases h1:@Eq Int s.1 1
    · have:=k1 h1
      omega
    · have:=k2 h1
      omega
  have mC:∀ q ∈ prsL ownC sizC (plaC w segs secs).1 secs 0,a2≤q.1∧0≤q.2∧q.1+q.2≤a3:=by
    intro q hq
    obtain ⟨i,s,hs,ho,rfl⟩:=prsL_mem hq
    obtain ⟨k0,k1,k2⟩:=gS i s hs ho
    rw [Nat.zero_add]
    exact ⟨k1,k0,k2⟩
  have hsz0:0≤hsz w:=by omega
  refine ⟨aB.1,aC.1,⟨by omega,eM⟩,fun i s hs ho=>?_,fun i s hs ho=>?_,fun i s hs h1 h2=>?_,?_,?_⟩
  · have hpl:=(segC_zero (ok.seg s (List.mem_of_getElem? hs))).2.1
    obtain ⟨g1,g2,-,-,y,g3,g4,-⟩:=place_in hpl ho
    have gy:=segC_zero (ok.seg y (List.mem_of_getElem? g3))
    rw [S_,gB i s hs,kB _ y g3 g4 (gy.2.2 g4).1]
    have e:st2 (plaA w segs).1 ((segs.take i).foldl (st2 (plaA w segs).1) ([],(plaA w segs).2)) s=_:=if_pos ho
    rw [e]
    exact getD_last (aBl i (by have:=(List.getElem?_eq_some_iff.1 hs).1;omega))
  · rw [S_,T_,gC i s hs]
    have e:st3 (plaB w segs).1 ((secs.take i).foldl (st3 (plaB w segs).1) ([],(plaB w segs).2)) s=_:=if_pos ho
    rw [e]
    exact getD_last (aCl i (by have:=(List.getElem?_eq_some_iff.1 hs).1;omega))
  · have hi:=(List.getElem?_eq_some_iff.1 hs).1
    have hsm:=List.mem_of_getElem? hs
    have hz:=segC_zero (ok.seg s hsm)
    have hs0:=hG s hsm
    have ho:=(hz.2.2 h1).1
    rw [S_,kB i s hs h1 ho,gA i s hs]
    have e:st1 ((segs.take i).foldl st1 ([],pla0 w segs)) s=_:=if_pos h1
    have hoi:((segs.take (i+1)).foldl st1 ([],pla0 w segs)).2.2=false:=by
      refine fold_ov (segs.drop (i+1)) (fun c x hx=>step_ov (sA x (List.mem_of_mem_drop hx)) c) _ ?_
      rw [← List.foldl_append,List.take_append_drop,vA]
      exact oA
    rw [fold_snoc hs,e] at hoi
    rw [e,getD_last (aAl i (by omega))]
    have how:=hs0.ow
    have hown:=(place_own (by have h:=hz.2.1;rw [ho] at h;exact h)).2
    exact (lay_fact (aA' i (by omega)) hs0.va hs0.al ((andI_pow hs0.al).1 hz.1) ⟨hs0.sz.1,by omega⟩ hoi).2.2.2.2 h2
  · intro q hq
    rw [S_,T_] at hq
    simp only [List.mem_append] at hq
    rcases hq with ((hq | hq) | hq) | hq
    · have:=mH q hq;omega
    · have:=mS q hq;omega
    · have:=mG q hq;omega
    · have:=mC q hq;omega
  · rw [S_,T_]
    refine List.pairwise_append.2 ⟨List.pairwise_append.2 ⟨List.pairwise_append.2 ⟨?_,?_,fun p hp q hq=>?_⟩,?_,fun p hp q hq=>?_⟩,?_,fun p hp q hq=>?_⟩
    · refine List.pairwise_cons.2 ⟨fun q hq=>?_,List.pairwise_singleton _ _⟩
      obtain rfl:=List.mem_singleton.1 hq
      rw [hph]
      unfold dis
      dsimp only
      split
      · rename_i h
        rw [h]
        exact .inr (.inl (by simp))
      · exact .inr (.inr (.inl (by omega)))
    · split
      · exact .nil
      · exact List.pairwise_singleton _ _
    · have:=mH p hp
      have:=mS q hq
      exact .inr (.inr (.inl (by omega)))
    · exact prsL_pw fun i j x y hij hx hy ox oy=>.inr (.inr (by rw [Nat.zero_add,Nat.zero_add];exact gGG i j x y hij hx hy ox oy))
    · rcases List.mem_append.1 hp with hp | hp
      · have:=mH p hp
        have:=mG q hq
        exact .inr (.inr (.inl (by omega)))
      · have:=mS p hp
        have:=mG q hq
        exact .inr (.inr (.inr (by omega)))
    · exact prsL_pw fun i j x y hij hx hy ox oy=>.inr (.inr (by rw [Nat.zero_add,Nat.zero_add];exact gSS i j x y hij hx hy ox oy))
    · have hq':=mC q hq
      rcases List.mem_append.1 hp with hp | hp
      · rcases List.mem_append.1 hp with hp | hp
        · have:=mH p hp
          exact .inr (.inr (.inl (by omega)))
        · have:=mS p hp
          exact .inr (.inr (.inr (by omega)))
      · have:=mG p hp
        exact .inr (.inr (.inl (by omega)))
end Go.Proofs.Ytcffpnlochillaa.PvW
end

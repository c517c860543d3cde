/- A heap of plain values, walks over it, and functions of the program met by them: no statement of the set is proved in this text. -/
import Derived.Test.YtcffpnlochillaaKb17
import Derived.Test.YtcffpnlochillaaKb18
import Derived.Test.YtcffpnlochillaaKb25
set_option linter.unusedVariables false
set_option linter.unusedSimpArgs false
set_option maxRecDepth 100000
set_option maxHeartbeats 4000000
section
namespace Go.Proofs.Ytcffpnlochillaa.PvW
open Go.RowKit Go.Proofs.Ytcffpnlochillaa.Cd Go.Proofs.Ytcffpnlochillaa.AbP Go.Proofs.Ytcffpnlochillaa.Num Go.Proofs.Ytcffpnlochillaa.Pv
theorem ps_cut {P:Program} {Z:Bs} {a b c:Ab.AC} {Q:QP} {e:Env} {s:List OB} {t:Bool} (I:Env→List OB→Prop)
    (h1:t=true→pwp P Z a (thenP (fun e s=>∃ e' s',Gh Z e s e' s'∧I e' s') Q) e s) (h2:t=false→pwp P Z c (thenP (fun e s=>∃ e' s',Gh Z e s e' s'∧I e' s') Q) e s) (h3:∀ e s,I e s→pwp P Z b Q e s) :
    psel (.bool t) (pwp P Z a (thenP (pwp P Z b Q) Q) e s) (pwp P Z c (thenP (pwp P Z b Q) Q) e s):=by
  have key:∀ x e s,thenP (fun e s=>∃ e' s',Gh Z e s e' s'∧I e' s') Q x e s→thenP (pwp P Z b Q) Q x e s:=by
    intro x e s h
    cases x with
    | normal =>
      obtain ⟨e',s',hg,hi⟩:=h
      exact fun f hh hr=>h3 e' s' hi f hh (hg f hh hr)
    | _=>exact h
  exact ps_of (fun ht=>pwp_mono key (h1 ht)) (fun ht=>pwp_mono key (h2 ht))

abbrev PS:=Int×Bool
def mx1 (al:Int):Int:=if al < 1 then 1 else al
def layA (a v al:Int):Int:=(a+andI ((v - a) % 18446744073709551616) ((mx1 al - 1) % 18446744073709551616)) % 18446744073709551616
def layO (a n:Int):Bool:=decide (65536 < a) || decide (65536 - a < n)
def layR (p:PS) (v al:Int):Int:=if p.2=true then 0 else layA p.1 v al
def layS (p:PS) (n v al:Int):PS:=if p.2=true then p else ((layA p.1 v al+n) % 18446744073709551616,layO (layA p.1 v al) n)
theorem andI_range (a b:Int):0≤andI a b∧andI a b≤18446744073709551615:=by
  unfold andI
  have h:=(BitVec.ofInt 64 a &&& BitVec.ofInt 64 b).isLt
  omega
section
variable {K:PV→List OB→Prop} {w big:Bool} {o ab ty ma fl en st:Int} {segs:List dSeg.T} {secs:List dSec.T}
theorem lay_spec {p0:Int} {ov:Bool} {n v al:Int} (ha:Om (0≤al∧al≤18446744073709551615)) (hn:Om (0≤n∧n≤18446744073709551615)) (hk:K (.int .u64 (layR (p0,ov) v al)) [.var [.int .u64 (layS (p0,ov) n v al).1,.bool (layS (p0,ov) n v al).2]]) :
    PCalls Try.prog 23 [.ptr 0 0,.int .u64 n,.int .u64 v,.int .u64 al] [.var [.int .u64 p0,.bool ov]] K:=by
  have ha:=ha.o
  have hn:=hn.o
  refine told_callS plan_planner_lay.told fun Z hZ=>?_
  unfold plan_planner_lay.c
  cases ov
  rotate_left
  · refine W1 trivial @DD trivial ?_
    exact ⟨_,rfl,rfl,hk⟩
  obtain ⟨m,hm⟩:∃ m,m=mx1 al:=⟨_,rfl⟩
  have hmx:(if (1:Int) > al then 1 else al)=m:=by rw [hm];rfl
  have hm1:1≤m∧m≤18446744073709551615:=by rw [hm];unfold mx1;split <;> omega
  have hw1:IntKind.wrap .u64 (v - p0)=(v - p0) % 18446744073709551616:=wU64 _
  have hw2:IntKind.wrap .u64 (m - 1)=(m - 1) % 18446744073709551616:=wU64 _
  have han:=and_u64 ((v - p0) % 18446744073709551616) ((m - 1) % 18446744073709551616)
  obtain ⟨x,hx⟩:∃ x,x=andI ((v - p0) % 18446744073709551616) ((m - 1) % 18446744073709551616):=⟨_,rfl⟩
  rw [← hx] at han
  have hxr:0≤x∧x≤18446744073709551615:=by rw [hx];exact andI_range _ _
  have hw3:IntKind.wrap .u64 (p0+x)=(p0+x) % 18446744073709551616:=wU64 _
  obtain ⟨a,hae⟩:∃ a,a=(p0+x) % 18446744073709551616:=⟨_,rfl⟩
  rw [← hae] at hw3
  have har:0≤a∧a≤18446744073709551615:=by rw [hae];omega
  have hA:layA p0 v al=a:=by unfold layA;rw [← hm,← hx,← hae]
  have hR:layR (p0,false) v al=a:=by show layA p0 v al=a;exact hA
  have hS:layS (p0,false) n v al=((a+n) % 18446744073709551616,layO a n):=by show ((layA p0 v al+n) % 18446744073709551616,layO (layA p0 v al) n)=_;rw [hA]
  have hw4:IntKind.wrap .u64 (a+n)=(a+n) % 18446744073709551616:=wU64 _
  rw [hR,hS] at hk
  unfold layO at hk
  by_cases h1:65536 < a
  · rw [decide_eq_true h1,Bool.true_or] at hk
    refine W1 trivial (And.intro @DD (And.intro @hmx (And.intro @hw1 (And.intro @hw2 (And.intro @han (And.intro @hw3 @hw4)))))) trivial ?_
    exact ⟨_,rfl,rfl,hk⟩
  · rw [decide_eq_false h1,Bool.false_or] at hk
    have hw5:IntKind.wrap .u64 (65536 - a)=65536 - a:=by rw [wU64];omega
    by_cases h2:65536 - a < n
    · rw [decide_eq_true h2] at hk
      refine W1 trivial (And.intro @DD (And.intro @hmx (And.intro @hw1 (And.intro @hw2 (And.intro @han (And.intro @hw3 (And.intro @hw4 @hw5))))))) trivial ?_
      exact ⟨_,rfl,rfl,hk⟩
    · rw [decide_eq_false h2] at hk
      refine W1 trivial (And.intro @DD (And.intro @hmx (And.intro @hw1 (And.intro @hw2 (And.intro @han (And.intro @hw3 (And.intro @hw4 @hw5))))))) trivial ?_
      exact ⟨_,rfl,rfl,hk⟩
end
end Go.Proofs.Ytcffpnlochillaa.PvW
end
section
namespace Go.Proofs.Ytcffpnlochillaa.PvW
open Go.RowKit Go.Proofs.Ytcffpnlochillaa.Cd Go.Proofs.Ytcffpnlochillaa.AbP Go.Proofs.Ytcffpnlochillaa.Num Go.Proofs.Ytcffpnlochillaa.Pv
abbrev psz (w:Bool):Int:=if w=true then 56 else 32
abbrev ssz (w:Bool):Int:=if w=true then 64 else 40

def st1 (r:List Int×PS) (s:dSeg.T):List Int×PS:=if @Eq Int s.1 1 then (r.1++[layR r.2 s.2.2.1 s.2.2.2.2.2.1],layS r.2 s.2.2.2.2.2.2.1.2.2.1 s.2.2.1 s.2.2.2.2.2.1) else (r.1++[0],r.2)

def st2 (A:List Int) (r:List Int×PS) (s:dSeg.T):List Int×PS :=
  if ¬ @Eq Int s.2.2.2.2.2.2.1.1 (-1) then (r.1++[(A.getD (@Int.toNat s.2.2.2.2.2.2.1.1) 0+s.2.2.2.2.2.2.1.2.1) % 18446744073709551616],r.2)
  else if ¬ @Eq Int s.1 1 then (r.1++[layR r.2 0 8],layS r.2 s.2.2.2.2.2.2.1.2.2.1 0 8) else (r.1++[A.getD r.1.length 0],r.2)

def st3 (A:List Int) (r:List Int×PS) (s:dSec.T):List Int×PS :=
  if ¬ @Eq Int s.2.2.2.2.2.2.2.2.2.1.1 (-1) then (r.1++[(A.getD (@Int.toNat s.2.2.2.2.2.2.2.2.2.1.1) 0+s.2.2.2.2.2.2.2.2.2.1.2.1) % 18446744073709551616],r.2)
  else (r.1++[layR r.2 0 8],layS r.2 s.2.2.2.2.2.2.2.2.2.1.2.2.1 0 8)
theorem st1_len (r:List Int×PS) (s:dSeg.T):(st1 r s).1.length=r.1.length+1:=by unfold st1;split <;> simp
theorem st2_len (A:List Int) (r:List Int×PS) (s:dSeg.T):(st2 A r s).1.length=r.1.length+1:=by unfold st2;split;simp;split <;> simp
theorem st3_len (A:List Int) (r:List Int×PS) (s:dSec.T):(st3 A r s).1.length=r.1.length+1:=by unfold st3;split <;> simp
theorem fold_len {α:Type} {f:List Int×PS→α→List Int×PS} (hf:∀ r s,(f r s).1.length=r.1.length+1):∀ (l:List α) (r:List Int×PS),(l.foldl f r).1.length=r.1.length+l.length
  | [],r=>rfl
  | x::l,r=>by rw [List.foldl_cons,fold_len hf l,hf,List.length_cons];omega
theorem fold_snoc {α β:Type} {f:β→α→β} {l:List α} {i:Nat} {x:α} (hx:l[i]? = some x) (r:β):(l.take (i+1)).foldl f r=f ((l.take i).foldl f r) x:=by
  rw [List.take_add_one,hx,List.foldl_append];rfl
theorem set_mid {α:Type} {a r:List α} {v x:α} {i:Nat} (h:a.length=i):(a++x::r).set i v=(a++[v])++r:=by
  subst h
  rw [List.set_append_right _ _ (Nat.le_refl _),Nat.sub_self,List.set_cons_zero,List.append_assoc];rfl
theorem set_zero {a:List Int} {v:Int} {i n:Nat} (h:a.length=i) (hi:i < n):(a++List.replicate (n - i) 0).set i v=(a++[v])++List.replicate (n - (i+1)) 0:=by
  rw [show n - i=(n - (i+1))+1 by omega,List.replicate_succ,set_mid h]
theorem drop_getD {a:List Int} {i:Nat} (h:i < a.length):a.drop i=a.getD i 0::a.drop (i+1):=by
  rw [List.getD_eq_getElem?_getD,List.getElem?_eq_getElem h]
  exact List.drop_eq_getElem_cons h
theorem set_drop {b a:List Int} {v:Int} {i:Nat} (h:b.length=i) (hi:i < a.length):(b++a.drop i).set i v=(b++[v])++a.drop (i+1):=by
  rw [drop_getD hi,set_mid h]
theorem keep_drop {b a:List Int} {i:Nat} (hi:i < a.length):b++a.drop i=(b++[a.getD i 0])++a.drop (i+1):=by
  rw [drop_getD hi,List.append_assoc];rfl
theorem getD_mix {b a:List Int} {i j:Nat} (hb:b.length=i) (hj:j < i→b.getD j 0=a.getD j 0):(b++a.drop i).getD j 0=a.getD j 0:=by
  by_cases h:j < i
  · rw [← hj h,List.getD_eq_getElem?_getD,List.getElem?_append_left (by omega),← List.getD_eq_getElem?_getD]
  · rw [List.getD_eq_getElem?_getD,List.getElem?_append_right (by omega),hb,List.getElem?_drop,show i+(j - i)=j by omega,← List.getD_eq_getElem?_getD]
structure PlanV where
  ph:Int
  sh:Int
  sz:Int
  S:List Int
  T:List Int
  ov:Bool
def pla0 (w:Bool) (segs:List dSeg.T):PS:=if segs.length=0 then (hsz w,false) else layS (hsz w,false) (segs.length * psz w) 0 1
def plaA (w:Bool) (segs:List dSeg.T):List Int×PS:=segs.foldl st1 ([],pla0 w segs)
def plaB (w:Bool) (segs:List dSeg.T):List Int×PS:=segs.foldl (st2 (plaA w segs).1) ([],(plaA w segs).2)
def plaC (w:Bool) (segs:List dSeg.T) (secs:List dSec.T):List Int×PS:=secs.foldl (st3 (plaB w segs).1) ([],(plaB w segs).2)
def plaE (w:Bool) (segs:List dSeg.T) (secs:List dSec.T):PS:=if secs.length=0 then (plaC w segs secs).2 else layS (plaC w segs secs).2 ((secs.length+1) * ssz w) 0 8

def planV (w:Bool) (segs:List dSeg.T) (secs:List dSec.T):PlanV :=
  ⟨if segs.length=0 then 0 else layR (hsz w,false) 0 1,if secs.length=0 then 0 else layR (plaC w segs secs).2 0 8,(plaE w segs secs).1,(plaB w segs).1,(plaC w segs secs).1,(plaE w segs secs).2⟩
abbrev pvPlan0:PV:=.agg [.int .u64 0,.int .u64 0,.int .u64 0,.nilS,.nilS]
abbrev pvPlan (x:PlanV):PV:=.agg [.int .u64 x.ph,.int .u64 x.sh,.int .u64 x.sz,.sl (.int .u64) x.S,.sl (.int .u64) x.T]
theorem b_keeps {A:List Int} {segs:List dSeg.T} {p:PS} {j:Nat} {s:dSeg.T} (hs:segs[j]? = some s) (h1:@Eq Int s.1 1) (h2:@Eq Int s.2.2.2.2.2.2.1.1 (-1)):∀ i,j < i→i≤segs.length→((segs.take i).foldl (st2 A) ([],p)).1.getD j 0=A.getD j 0
  | 0,h,_=>by omega
  | i + 1, h, hi => by
    obtain ⟨x,hx⟩:∃ x,segs[i]? = some x:=⟨segs[i],List.getElem?_eq_getElem (by omega)⟩
    rw [fold_snoc hx]
    have hl:((segs.take i).foldl (st2 A) ([],p)).1.length=i:=by rw [fold_len (st2_len A),List.length_take];simp;omega
    generalize hr:(segs.take i).foldl (st2 A) ([],p)=r at *
    by_cases hj:j < i
    · have ih:=b_keeps (A:=A) (p:=p) hs h1 h2 i hj (by omega)
      rw [hr] at ih
      have e:∀ y,(r.1++[y]).getD j 0=r.1.getD j 0:=fun y=>by
        rw [List.getD_eq_getElem?_getD,List.getElem?_append_left (by omega),← List.getD_eq_getElem?_getD]
      rw [← ih]
      unfold st2
      split
      · exact e _
      · split
        · exact e _
        · exact e _
    · obtain rfl:j=i:=by omega
      rw [hs] at hx
      obtain rfl:=Option.some.inj hx
      unfold st2
      rw [if_neg (fun h=>h h2),if_neg (fun h=>h h1)]
      show (r.1++[A.getD r.1.length 0]).getD j 0=_
      rw [List.getD_eq_getElem?_getD,List.getElem?_append_right (by omega),hl,Nat.sub_self]
      rfl
end Go.Proofs.Ytcffpnlochillaa.PvW
end

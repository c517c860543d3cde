/- A heap of plain values, walks over it, and functions of the program met by them: no statement of the set is proved in this text. -/
import Derived.Test.YtcffpnlochillaaKb16
set_option linter.unusedVariables false
set_option linter.unusedSimpArgs false
set_option maxRecDepth 100000
set_option maxHeartbeats 4000000
section
namespace Go.Proofs.Ytcffpnlochillaa.PvW
open Go.RowKit Go.Proofs.Ytcffpnlochillaa.Cd Go.Proofs.Ytcffpnlochillaa.AbP Go.Proofs.Ytcffpnlochillaa.Num Go.Proofs.Ytcffpnlochillaa.Pv
inductive WkA:List PV→List PV→Prop
  | z:WkA [] []
  | c (p:PV) {a b:List PV} (h:WkA a b):WkA (p::a) (p::b)
  | n (D':Ab.D) {a b:List PV} (h:WkA a b):WkA (.nilS::a) (.sl D' []::b)
  | g {l l' a b:List PV} (h0:WkA l l') (h:WkA a b):WkA (.agg l::a) (.agg l'::b)
theorem WkA.ok {X:Cx} {a b:List PV} (h:WkA a b):∀ {us:List Value},PRs X a us→PRs X b us:=by
  induction h with
  | z=>exact fun h=>h
  | c p h ih =>
    intro us hu
    obtain ⟨v,t,rfl,h1,h2⟩:=hu.uncons
    exact .cons h1 (ih h2)
  | n D' h ih =>
    intro us hu
    obtain ⟨v,t,rfl,h1,h2⟩:=hu.uncons
    rw [h1.nilS_inv]
    exact .cons (.sl D' [] _ (Is_nilS _ D')) (ih h2)
  | g h0 h ih0 ih =>
    intro us hu
    obtain ⟨v,t,rfl,h1,h2⟩:=hu.uncons
    obtain ⟨a',rfl,h3⟩:=h1.agg_inv
    have h4:=ih0 h3
    exact .cons (.agg _ a' h4.1 h4.2) (ih h2)
theorem PCalls.wkA {P:Program} {g:FuncId} {a b:List PV} {s:List OB} {K:PV→List OB→Prop} (h:WkA a b) (hk:PCalls P g b s K):PCalls P g a s K:=fun hp E i vs S A=>hk hp E i vs S (h.ok A)
theorem first_zero {α:Type} {f:α→Int}:∀ (l:List α),firstC f l=0→∀ x ∈ l,f x=0
  | [],_,x,hx=>by cases hx
  | y :: l, h, x, hx => by
    have h:(if f y≠0 then f y else firstC f l)=0:=h
    by_cases h0:f y=0
    · rw [if_neg (fun h=>h h0)] at h
      rcases List.mem_cons.1 hx with rfl | hx
      · exact h0
      · exact first_zero l h x hx
    · rw [if_pos h0] at h
      exact absurd h h0
structure ModelOk (w:Bool) (en:Int) (segs:List dSeg.T) (secs:List dSec.T) (st:Int):Prop where
  l16:segs.length≤16
  l64:secs.length≤64
  fits:fitsM w en segs secs=true
  seg:∀ s ∈ segs,segCx w segs s=0
  ris:RisingP (loadsL segs)
  sec:∀ s ∈ secs,secCx segs secs.length s=0
  nam:namesC secs st=0
theorem modelOk {w:Bool} {en st:Int} {segs:List dSeg.T} {secs:List dSec.T} (h:wrongC w en segs secs st=0):ModelOk w en segs secs st:=by
  unfold wrongC at h
  by_cases h1:16 < segs.length∨64 < secs.length
  · rw [if_pos h1] at h;cases h
  rw [if_neg h1] at h
  by_cases h2:fitsM w en segs secs=false
  · rw [if_pos h2] at h;cases h
  rw [if_neg h2] at h
  by_cases h3:firstC (segCx w segs) segs=0
  rotate_left
  · rw [if_pos h3] at h;exact absurd h h3
  rw [if_neg (fun h=>h h3)] at h
  by_cases h4:RisingP (loadsL segs)
  rotate_left
  · rw [if_pos h4] at h;cases h
  rw [if_neg (fun h=>h h4)] at h
  by_cases h5:firstC (secCx segs secs.length) secs=0
  rotate_left
  · rw [if_pos h5] at h;exact absurd h h5
  rw [if_neg (fun h=>h h5)] at h
  exact ⟨by omega,by omega,by revert h2;cases fitsM w en segs secs <;> simp,first_zero _ h3,h4,first_zero _ h5,h⟩
theorem segC_zero {w:Bool} {segs:List dSeg.T} {ty va me al i off sz:Int} {own:List Int} (h:segC w segs ty va me al i off sz own=0) :
    andI al ((al - 1) % 18446744073709551616)=0∧placeOk segs i off sz own=true∧(ty=1→i = -1∧sz≤me∧¬ (roomB w va < me∧(roomB w va≠0∨va≠0))):=by
  unfold segC at h
  by_cases h1:andI al ((al - 1) % 18446744073709551616)=0
  rotate_left
  · rw [if_pos h1] at h;cases h
  rw [if_neg (fun h=>h h1)] at h
  by_cases h2:placeOk segs i off sz own=false∨(ty=1∧i≠-1)
  · rw [if_pos h2] at h;cases h
  rw [if_neg h2] at h
  have hp:placeOk segs i off sz own=true:=by
    cases hp:placeOk segs i off sz own with
    | true=>rfl
    | false=>exact absurd (.inl hp) h2
  refine ⟨h1,hp,fun ht=>?_⟩
  rw [if_neg (fun h=>h ht)] at h
  by_cases h3:me < sz
  · rw [if_pos h3] at h;cases h
  rw [if_neg h3] at h
  refine ⟨Decidable.byContradiction fun hi=>h2 (.inr ⟨ht,hi⟩),by omega,fun h4=>?_⟩
  rw [if_pos h4] at h
  cases h
theorem secC_zero {segs:List dSeg.T} {n:Nat} {ty si li i off sz:Int} {own:List Int} (h:secC segs n ty si li i off sz own=0) :
    placeOk segs i off sz own=true∧sz=(if ty=0∨ty=8 then 0 else si)∧li≤n:=by
  unfold secC at h
  by_cases h2:placeOk segs i off sz own=false∨sz≠(if ty=0∨ty=8 then 0 else si)
  · rw [if_pos h2] at h;cases h
  rw [if_neg h2] at h
  have hp:placeOk segs i off sz own=true:=by
    cases hp:placeOk segs i off sz own with
    | true=>rfl
    | false=>exact absurd (.inl hp) h2
  refine ⟨hp,Decidable.byContradiction fun hi=>h2 (.inr hi),?_⟩
  by_cases h3:(n:Int) < li
  · rw [if_pos h3] at h;cases h
  · omega
theorem place_own {segs:List dSeg.T} {off sz:Int} {own:List Int} (h:placeOk segs (-1) off sz own=true):off=0∧sz=own.length:=by
  unfold placeOk at h
  rw [if_pos rfl] at h
  simpa using h
theorem place_in {segs:List dSeg.T} {i off sz:Int} {own:List Int} (h:placeOk segs i off sz own=true) (hi:i≠-1):0≤i∧i < segs.length∧own=[]∧sz≠0∧∃ s,segs[i.toNat]? = some s∧@Eq Int s.1 1∧withinB off sz s.2.2.2.2.2.2.1.2.2.2.1.length=true:=by
  unfold placeOk at h
  rw [if_neg hi] at h
  by_cases h1:i < 0∨(segs.length:Int)≤i
  · rw [if_pos h1] at h;cases h
  rw [if_neg h1] at h
  obtain ⟨s,hs⟩:∃ s,segs[i.toNat]? = some s:=⟨segs[i.toNat]'(by omega),List.getElem?_eq_getElem (by omega)⟩
  rw [hs] at h
  simp only [Bool.and_eq_true,decide_eq_true_eq] at h
  exact ⟨by omega,by omega,List.eq_nil_of_length_eq_zero h.1.1.2,h.1.2,s,hs,h.1.1.1,h.2⟩
def SegG (s:dSeg.T):Prop:=((s.2.2.2.2.2.2.1.2.2.2.1.length:Int)≤1000000→SegN s.1 s.2.2.1 s.2.2.2.1 s.2.2.2.2.1 s.2.2.2.2.2.1 s.2.2.2.2.2.2.1.1 s.2.2.2.2.2.2.1.2.1 s.2.2.2.2.2.2.1.2.2.1 s.2.2.2.2.2.2.1.2.2.2.1)∧s.2.2.2.2.2.2.1.2.2.2.1.length≤281474976710656
def SecG (s:dSec.T):Prop:=((s.2.2.2.2.2.2.2.2.2.1.2.2.2.1.length:Int)≤1000000→SecN s.1 s.2.1 s.2.2.1 s.2.2.2.1 s.2.2.2.2.1 s.2.2.2.2.2.1 s.2.2.2.2.2.2.2.1 s.2.2.2.2.2.2.2.2.1 s.2.2.2.2.2.2.2.2.2.1.1 s.2.2.2.2.2.2.2.2.2.1.2.1 s.2.2.2.2.2.2.2.2.2.1.2.2.1 s.2.2.2.2.2.2.2.2.2.1.2.2.2.1)∧s.2.2.2.2.2.2.2.2.2.1.2.2.2.1.length≤281474976710656
theorem segG_of {l:List dSeg.T} (h:∀ x ∈ l,dSeg.good x):∀ x ∈ l,SegG x:=fun x hx=>by
  have hh:=h x hx
  obtain ⟨ty,fl,va,pa,me,al,⟨i,off,sz,own,u⟩,u2⟩:=x
  obtain ⟨k0,k1,k2,k3,k4,k5,⟨k6,k7,k8,k9,_⟩,_⟩:=hh
  exact ⟨fun hl=>⟨⟨(u32_of k0).1.1,(u32_of k0).2⟩,u64_of k2,u64_of k3,u64_of k4,u64_of k5,u64_of k7,u64_of k8,by have hl:(own.length:Int)≤1000000:=hl;show own.length≤1000000;omega,B_of k9.2⟩,Nat.le_trans k9.1 (by decide)⟩
theorem secG_of {l:List dSec.T} (h:∀ x ∈ l,dSec.good x):∀ x ∈ l,SecG x:=fun x hx=>by
  have hh:=h x hx
  obtain ⟨nm,ty,fl,ad,si,li,sf,al,en,⟨i,off,sz,own,u⟩,u2⟩:=x
  obtain ⟨k0,k1,k2,k3,k4,k5,k6,k7,k8,⟨k9,k10,k11,k12,_⟩,_⟩:=hh
  exact ⟨fun hl=>⟨⟨(u32_of k0).1.1,(u32_of k0).2⟩,⟨(u32_of k1).1.1,(u32_of k1).2⟩,u64_of k2,u64_of k3,u64_of k4,⟨(u32_of k5).1.1,(u32_of k5).2⟩,u64_of k7,u64_of k8,u64_of k10,u64_of k11,by have hl:(own.length:Int)≤1000000:=hl;show own.length≤1000000;omega,B_of k12.2⟩,Nat.le_trans k12.1 (by decide)⟩
theorem segsN_of {l:List dSeg.T} (h:∀ x ∈ l,SegG x) (h0:∀ s ∈ l,s.2.2.2.2.2.2.1.2.2.2.1.length≤100000):SegsN l:=fun s hs=>(h s hs).1 (by have:=h0 s hs;omega)
theorem secsN_of {l:List dSec.T} (h:∀ x ∈ l,SecG x) (h0:∀ s ∈ l,s.2.2.2.2.2.2.2.2.2.1.2.2.2.1.length≤100000):SecsN l:=fun s hs=>(h s hs).1 (by have:=h0 s hs;omega)
end Go.Proofs.Ytcffpnlochillaa.PvW
end

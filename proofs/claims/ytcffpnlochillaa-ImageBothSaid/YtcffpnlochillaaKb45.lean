/- A heap of plain values, walks over it, and functions of the program met by them: no statement of the set is proved in this text. -/
import Derived.Test.YtcffpnlochillaaKb42
set_option linter.unusedVariables false
set_option linter.unusedSimpArgs false
set_option maxRecDepth 100000
set_option maxHeartbeats 4000000
section
namespace Go.Proofs.Ytcffpnlochillaa.PvW
open Go.RowKit Go.Proofs.Ytcffpnlochillaa.Cd Go.Proofs.Ytcffpnlochillaa.AbP Go.Proofs.Ytcffpnlochillaa.Num Go.Proofs.Ytcffpnlochillaa.Pv
theorem lays_val {k:Nat} {v:Int}:∀ {L:List Pc} {b:List Int},(∀ p ∈ L,p.1+p.2.length≤b.length)→(∀ p ∈ L,cov p k→p.2.getD (k - p.1) 0=v)→((∀ p ∈ L,¬ cov p k)→b.getD k 0=v)→(lays b L).getD k 0=v
  | [],b,_,_,h=>h (fun p hp=>by cases hp)
  | p :: L, b, hL, hc, h => by
    have h0:=hL p (by simp)
    show (lays (ovl b p.1 p.2) L).getD k 0=v
    refine lays_val (fun q hq=>by rw [ovl_len h0];exact hL q (List.mem_cons_of_mem _ hq)) (fun q hq=>hc q (List.mem_cons_of_mem _ hq)) (fun hn=>?_)
    rw [ovl_get h0]
    by_cases hk:p.1≤k∧k < p.1+p.2.length
    · rw [if_pos hk]
      exact hc p (by simp) hk
    · rw [if_neg hk]
      exact h (fun q hq=>by
        rcases List.mem_cons.1 hq with rfl | hq
        · exact hk
        · exact hn q hq)
theorem cov_ne {p:Pc} {k:Nat} (h:cov p k):p.2≠[]:=fun e=>by
  have h:p.1≤k∧k < p.1+p.2.length:=h
  rw [e,List.length_nil] at h
  omega
theorem lays_same {L M:List Pc} {b:List Int} (hL:∀ p ∈ L,p.1+p.2.length≤b.length) (hM:∀ p ∈ M,p.1+p.2.length≤b.length) (pM:M.Pairwise (fun p q=>∀ k,cov p k→¬ cov q k)) (h1:∀ p ∈ L,p.2≠[]→p ∈ M) (h2:∀ p ∈ M,p.2≠[]→p ∈ L):lays b L=lays b M:=by
  refine ext_D (by rw [lays_len hL,lays_len hM]) fun k hk=>?_
  refine lays_val hL (fun p hp hc=>(lays_in hM pM (h1 p hp (cov_ne hc)) hc).symm) (fun hn=>?_)
  exact (lays_out hM (fun p hp hc=>hn p (h2 p hp (cov_ne hc)) hc)).symm
theorem pcsL_mem {α:Type} {own:α→Prop} [DecidablePred own] {bd:α→List Int} {S:List Int}:∀ {l:List α} {k:Nat} {p:Pc},p ∈ pcsL own bd S l k→∃ i x,l[i]? = some x∧own x∧p=((S.getD (k+i) 0).toNat,bd x)
  | [],k,p,h=>by cases h
  | y :: l, k, p, h => by
    have h:p ∈ (if own y then ((S.getD k 0).toNat,bd y)::pcsL own bd S l (k+1) else pcsL own bd S l (k+1)):=h
    have go:p ∈ pcsL own bd S l (k+1)→∃ i x,(y::l)[i]? = some x∧own x∧p=((S.getD (k+i) 0).toNat,bd x):=fun h=>by
      obtain ⟨i,x,h1,h2,h3⟩:=pcsL_mem h
      exact ⟨i+1,x,by simpa using h1,h2,by rw [h3,show k+1+i=k+(i+1) by omega]⟩
    split at h
    · rename_i ho
      rcases List.mem_cons.1 h with rfl | h
      · exact ⟨0,y,rfl,ho,rfl⟩
      · exact go h
    · exact go h
def pcsG (S:List Int) (segs:List dSeg.T):List Pc:=(segs.zip S).map fun p=>(p.2.toNat,bodyG p.1)
def pcsC (T:List Int) (secs:List dSec.T):List Pc:=(secs.zip T).map fun p=>(p.2.toNat,bodyC p.1)
theorem pcsG_at {S:List Int} {segs:List dSeg.T} {i:Nat} {s:dSeg.T} (hl:S.length=segs.length) (hs:segs[i]? = some s):(pcsG S segs)[i]? = some ((S.getD i 0).toNat,bodyG s):=by
  unfold pcsG
  rw [List.getElem?_map,zip_at hl hs]
  rfl
theorem pcsC_at {T:List Int} {secs:List dSec.T} {i:Nat} {s:dSec.T} (hl:T.length=secs.length) (hs:secs[i]? = some s):(pcsC T secs)[i]? = some ((T.getD i 0).toNat,bodyC s):=by
  unfold pcsC
  rw [List.getElem?_map,zip_at hl hs]
  rfl
theorem pcsG_len {S:List Int} {segs:List dSeg.T} (hl:S.length=segs.length):(pcsG S segs).length=segs.length:=by
  unfold pcsG
  rw [List.length_map,List.length_zip,hl,Nat.min_self]
theorem pcsC_len {T:List Int} {secs:List dSec.T} (hl:T.length=secs.length):(pcsC T secs).length=secs.length:=by
  unfold pcsC
  rw [List.length_map,List.length_zip,hl,Nat.min_self]
section
variable {w big:Bool} {o ab ty ma en fl st:Int} {segs:List dSeg.T} {secs:List dSec.T}
theorem pcsG_get (po:PlanOk w segs secs) {p:Pc} (hp:p ∈ pcsG (planV w segs secs).S segs):∃ i s,segs[i]? = some s∧p=(((planV w segs secs).S.getD i 0).toNat,bodyG s):=by
  obtain ⟨i,hi⟩:=List.getElem?_of_mem hp
  have hlt:=(List.getElem?_eq_some_iff.1 hi).1
  rw [pcsG_len po.lS] at hlt
  have hs:segs[i]? = some segs[i]:=List.getElem?_eq_getElem hlt
  rw [pcsG_at po.lS hs] at hi
  exact ⟨i,_,hs,(Option.some.inj hi).symm⟩
theorem pcsC_get (po:PlanOk w segs secs) {p:Pc} (hp:p ∈ pcsC (planV w segs secs).T secs):∃ i s,secs[i]? = some s∧p=(((planV w segs secs).T.getD i 0).toNat,bodyC s):=by
  obtain ⟨i,hi⟩:=List.getElem?_of_mem hp
  have hlt:=(List.getElem?_eq_some_iff.1 hi).1
  rw [pcsC_len po.lT] at hlt
  have hs:secs[i]? = some secs[i]:=List.getElem?_eq_getElem hlt
  rw [pcsC_at po.lT hs] at hi
  exact ⟨i,_,hs,(Option.some.inj hi).symm⟩
theorem segB_place (ok:ModelOk w en segs secs st) (hG:SegsN segs) (po:PlanOk w segs secs) {i:Nat} {s:dSeg.T} (hs:segs[i]? = some s):((planV w segs secs).S.getD i 0).toNat+(bodyG s).length≤(planV w segs secs).sz.toNat∧0≤(planV w segs secs).S.getD i 0:=by
  have h:=segG_place ok hG po hs
  have hz:=po.size
  have hm:=List.mem_of_getElem? hs
  by_cases ho:ownG s
  · have h2:=sizG_own ok hm ho
    rw [h2] at h
    omega
  · have hpl:=(segC_zero (ok.seg s hm)).2.1
    have e:bodyG s=[]:=(place_in hpl ho).2.2.1
    rw [e,List.length_nil]
    omega
theorem secB_place (ok:ModelOk w en segs secs st) (hG:SegsN segs) (hN:SecsN secs) (po:PlanOk w segs secs) {i:Nat} {s:dSec.T} (hs:secs[i]? = some s):((planV w segs secs).T.getD i 0).toNat+(bodyC s).length≤(planV w segs secs).sz.toNat∧0≤(planV w segs secs).T.getD i 0:=by
  have h:=secC_place ok hG hN po hs
  have hz:=po.size
  have hm:=List.mem_of_getElem? hs
  by_cases ho:ownC s
  · have h2:=sizC_own ok hm ho
    rw [h2] at h
    omega
  · have hpl:=(secC_zero (ok.sec s hm)).1
    have e:bodyC s=[]:=(place_in hpl ho).2.2.1
    rw [e,List.length_nil]
    omega
theorem pcsG_enc (ok:ModelOk w en segs secs st) (po:PlanOk w segs secs) {p:Pc} (hp:p ∈ pcsG (planV w segs secs).S segs) (hne:p.2≠[]):p ∈ encPc w big o ab ty ma en fl st segs secs:=by
  obtain ⟨i,s,hs,rfl⟩:=pcsG_get po hp
  have hm:=List.mem_of_getElem? hs
  by_cases ho:ownG s
  · have:=pcsL_in (bd:=bodyG) (S:=(planV w segs secs).S) (k:=0) hs ho
    rw [Nat.zero_add] at this
    exact List.mem_append_left _ (List.mem_append_right _ this)
  · have hpl:=(segC_zero (ok.seg s hm)).2.1
    exact absurd (place_in hpl ho).2.2.1 hne
theorem pcsC_enc (ok:ModelOk w en segs secs st) (po:PlanOk w segs secs) {p:Pc} (hp:p ∈ pcsC (planV w segs secs).T secs) (hne:p.2≠[]):p ∈ encPc w big o ab ty ma en fl st segs secs:=by
  obtain ⟨i,s,hs,rfl⟩:=pcsC_get po hp
  have hm:=List.mem_of_getElem? hs
  by_cases ho:ownC s
  · have:=pcsL_in (bd:=bodyC) (S:=(planV w segs secs).T) (k:=0) hs ho
    rw [Nat.zero_add] at this
    exact List.mem_append_right _ this
  · have hpl:=(secC_zero (ok.sec s hm)).1
    exact absurd (place_in hpl ho).2.2.1 hne

def encL (w big:Bool) (o ab ty ma en fl st:Int) (segs:List dSeg.T) (secs:List dSec.T):List Pc :=
  [(0,encH w big o ab ty ma en fl st segs secs),((planV w segs secs).ph.toNat,progsB w big (planV w segs secs).S segs)]++pcsG (planV w segs secs).S segs++pcsC (planV w segs secs).T secs++(if secs.length=0 then [] else [((planV w segs secs).sh.toNat,sectsB w big (planV w segs secs).T secs)])
theorem encL_eq (ok:ModelOk w en segs secs st) (hG:SegsN segs) (hN:SecsN secs) (po:PlanOk w segs secs):lays (List.replicate (planV w segs secs).sz.toNat 0) (encL w big o ab ty ma en fl st segs secs)=encB w big o ab ty ma en fl st segs secs:=by
  have hlr:(List.replicate (planV w segs secs).sz.toNat (0:Int)).length=(planV w segs secs).sz.toNat:=List.length_replicate
  have hin:=encPc_in (big:=big) (o:=o) (ab:=ab) (ty:=ty) (ma:=ma) (fl:=fl) ok po
  have hmem:∀ p ∈ encL w big o ab ty ma en fl st segs secs,p.2≠[]→p ∈ encPc w big o ab ty ma en fl st segs secs:=fun p hp hne=>by
    unfold encL at hp
    simp only [List.mem_append] at hp
    rcases hp with ((hp | hp) | hp) | hp
    · exact List.mem_append_left _ (List.mem_append_left _ (List.mem_append_left _ hp))
    · exact pcsG_enc ok po hp hne
    · exact pcsC_enc ok po hp hne
    · exact List.mem_append_left _ (List.mem_append_left _ (List.mem_append_right _ hp))
  refine lays_same (fun p hp=>?_) (fun p hp=>by rw [hlr];exact hin p hp) (encPc_pw ok po) hmem (fun p hp hne=>?_)
  · rw [hlr]
    by_cases hne:p.2=[]
    · unfold encL at hp
      simp only [List.mem_append] at hp
      rcases hp with ((hp | hp) | hp) | hp
      · exact hin p (List.mem_append_left _ (List.mem_append_left _ (List.mem_append_left _ hp)))
      · obtain ⟨i,s,hs,rfl⟩:=pcsG_get po hp
        exact (segB_place ok hG po hs).1
      · obtain ⟨i,s,hs,rfl⟩:=pcsC_get po hp
        exact (secB_place ok hG hN po hs).1
      · exact hin p (List.mem_append_left _ (List.mem_append_left _ (List.mem_append_right _ hp)))
    · exact hin p (hmem p hp hne)
  · unfold encPc at hp
    unfold encL
    simp only [List.mem_append] at hp ⊢
    rcases hp with ((hp | hp) | hp) | hp
    · exact .inl (.inl (.inl hp))
    · exact .inr hp
    · obtain ⟨i,x,hx,ho,rfl⟩:=pcsL_mem hp
      rw [Nat.zero_add]
      exact .inl (.inl (.inr (List.mem_of_getElem? (pcsG_at po.lS hx))))
    · obtain ⟨i,x,hx,ho,rfl⟩:=pcsL_mem hp
      rw [Nat.zero_add]
      exact .inl (.inr (List.mem_of_getElem? (pcsC_at po.lT hx)))
theorem lays_app (b:List Int) (L M:List Pc):lays b (L++M)=lays (lays b L) M:=List.foldl_append
theorem lays_snoc {b:List Int} {L:List Pc} {i:Nat} {p:Pc} (hp:L[i]? = some p):lays b (L.take (i+1))=ovl (lays b (L.take i)) p.1 p.2:=by
  rw [List.take_add_one,hp,lays_app]
  rfl
end
end Go.Proofs.Ytcffpnlochillaa.PvW
end

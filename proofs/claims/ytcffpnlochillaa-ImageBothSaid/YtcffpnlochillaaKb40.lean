/- A heap of plain values, walks over it, and functions of the program met by them: no statement of the set is proved in this text. -/
import Derived.Test.YtcffpnlochillaaKb09
import Derived.Test.YtcffpnlochillaaKb31
import Derived.Test.YtcffpnlochillaaKb38
import Derived.Test.YtcffpnlochillaaKb39
set_option linter.unusedVariables false
set_option linter.unusedSimpArgs false
set_option maxRecDepth 100000
set_option maxHeartbeats 4000000
section
namespace Go.Proofs.Ytcffpnlochillaa.PvW
open Go.RowKit Go.Proofs.Ytcffpnlochillaa.Cd Go.Proofs.Ytcffpnlochillaa.AbP Go.Proofs.Ytcffpnlochillaa.Num Go.Proofs.Ytcffpnlochillaa.Pv
abbrev bodyG (s:dSeg.T):List Int:=s.2.2.2.2.2.2.1.2.2.2.1
abbrev bodyC (s:dSec.T):List Int:=s.2.2.2.2.2.2.2.2.2.1.2.2.2.1
def progX (w:Bool) (p:dSeg.T×Int):List (Int×Int):=progP w p.1.1 p.1.2.1 p.2 p.1.2.2.1 p.1.2.2.2.1 p.1.2.2.2.2.2.2.1.2.2.1 p.1.2.2.2.2.1 p.1.2.2.2.2.2.1
def sectX (w:Bool) (p:dSec.T×Int):List (Int×Int):=secP w p.1.1 p.1.2.1 p.1.2.2.1 p.1.2.2.2.1 p.2 p.1.2.2.2.2.1 p.1.2.2.2.2.2.1 p.1.2.2.2.2.2.2.1 p.1.2.2.2.2.2.2.2.1 p.1.2.2.2.2.2.2.2.2.1
theorem progX_snd (w:Bool) (p:dSeg.T×Int):(progX w p).map (·.2)=progW w:=by unfold progX progP progW;cases w <;> rfl
theorem sectX_snd (w:Bool) (p:dSec.T×Int):(sectX w p).map (·.2)=secW w:=rfl
theorem progX_len (w big:Bool) (p:dSeg.T×Int):(rowB big (progX w p)).length=(psz w).toNat:=by
  have h:=rowB_sum (big:=big) (progX w p) (fun q hq=>progW_wide w q.2 (by rw [← progX_snd w p];exact List.mem_map_of_mem hq))
  rw [progX_snd,progW_sum] at h
  show _=(if w=true then (56:Int) else 32).toNat
  omega
theorem sectX_len (w big:Bool) (p:dSec.T×Int):(rowB big (sectX w p)).length=(ssz w).toNat:=by
  have h:=rowB_sum (big:=big) (sectX w p) (fun q hq=>secW_wide w q.2 (by rw [← sectX_snd w p];exact List.mem_map_of_mem hq))
  rw [sectX_snd,secW_sum] at h
  show _=(if w=true then (64:Int) else 40).toNat
  omega
def zrow (w:Bool):List Int:=List.replicate (ssz w).toNat 0
theorem zrow_len (w:Bool):(zrow w).length=(ssz w).toNat:=List.length_replicate
def progsB (w big:Bool) (S:List Int) (segs:List dSeg.T):List Int:=recB big (progX w) (segs.zip S)
def sectsB (w big:Bool) (T:List Int) (secs:List dSec.T):List Int:=zrow w++recB big (sectX w) (secs.zip T)
theorem progsB_len {w big:Bool} {S:List Int} {segs:List dSeg.T} (h:S.length=segs.length):((progsB w big S segs).length:Int)=psz w * segs.length:=by
  unfold progsB
  rw [recB_len (progX_len w big),List.length_zip,h,Nat.min_self]
  cases w <;> simp [psz] <;> omega
theorem sectsB_len {w big:Bool} {T:List Int} {secs:List dSec.T} (h:T.length=secs.length):((sectsB w big T secs).length:Int)=ssz w * (secs.length+1):=by
  unfold sectsB
  rw [List.length_append,recB_len (sectX_len w big),List.length_zip,h,Nat.min_self,zrow_len]
  cases w <;> simp [ssz] <;> omega
def pcsL {α:Type} (own:α→Prop) [DecidablePred own] (bd:α→List Int) (S:List Int):List α→Nat→List Pc
  | [],_=>[]
  | x::l,k=>if own x then ((S.getD k 0).toNat,bd x)::pcsL own bd S l (k+1) else pcsL own bd S l (k+1)
section
variable {α:Type} {own:α→Prop} [DecidablePred own] {bd:α→List Int} {siz:α→Int} {S:List Int}
theorem pcsL_in:∀ {l:List α} {k i:Nat} {x:α},l[i]? = some x→own x→((S.getD (k+i) 0).toNat,bd x) ∈ pcsL own bd S l k
  | [],k,i,x,h,_=>by simp at h
  | y :: l, k, 0, x, h, ho => by
    obtain rfl:y=x:=by simpa using h
    show _ ∈ (if own y then _ else _)
    rw [if_pos ho]
    exact List.mem_cons_self
  | y :: l, k, i + 1, x, h, ho => by
    have ih:=pcsL_in (l:=l) (k:=k+1) (i:=i) (x:=x) (by simpa using h) ho
    rw [show k+1+i=k+(i+1) by omega] at ih
    show _ ∈ (if own y then _ else _)
    split
    · exact List.mem_cons_of_mem _ ih
    · exact ih
theorem prsL_in:∀ {l:List α} {k i:Nat} {x:α},l[i]? = some x→own x→(S.getD (k+i) 0,siz x) ∈ prsL own siz S l k
  | [],k,i,x,h,_=>by simp at h
  | y :: l, k, 0, x, h, ho => by
    obtain rfl:y=x:=by simpa using h
    show _ ∈ (if own y then _ else _)
    rw [if_pos ho]
    exact List.mem_cons_self
  | y :: l, k, i + 1, x, h, ho => by
    have ih:=prsL_in (l:=l) (k:=k+1) (i:=i) (x:=x) (by simpa using h) ho
    rw [show k+1+i=k+(i+1) by omega] at ih
    show _ ∈ (if own y then _ else _)
    split
    · exact List.mem_cons_of_mem _ ih
    · exact ih
theorem prsL_get {R:Int×Int→Int×Int→Prop}:∀ {l:List α} {k i j:Nat} {x y:α},(prsL own siz S l k).Pairwise R→i < j→l[i]? = some x→l[j]? = some y→own x→own y→R (S.getD (k+i) 0,siz x) (S.getD (k+j) 0,siz y)
  | [],k,i,j,x,y,_,_,h,_,_,_=>by simp at h
  | z :: l, k, i, j, x, y, hp, hij, hx, hy, ox, oy => by
    obtain ⟨j,rfl⟩:∃ m,j=m+1:=⟨j - 1,by omega⟩
    have hp:(if own z then (S.getD k 0,siz z)::prsL own siz S l (k+1) else prsL own siz S l (k+1)).Pairwise R:=hp
    have hy':l[j]? = some y:=by simpa using hy
    cases i with
    | zero =>
      obtain rfl:z=x:=by simpa using hx
      rw [if_pos ox] at hp
      have:=(List.pairwise_cons.1 hp).1 _ (prsL_in (k:=k+1) hy' oy)
      rw [show k+1+j=k+(j+1) by omega] at this
      exact this
    | succ i =>
      have ht:(prsL own siz S l (k+1)).Pairwise R:=by
        split at hp
        · exact (List.pairwise_cons.1 hp).2
        · exact hp
      have:=prsL_get ht (show i < j by omega) (by simpa using hx) hy' ox oy
      rw [show k+1+i=k+(i+1) by omega,show k+1+j=k+(j+1) by omega] at this
      exact this
theorem pcsL_map:∀ {l:List α} {k:Nat},(∀ x ∈ l,own x→siz x=(bd x).length)→(∀ i x,l[i]? = some x→own x→0≤S.getD (k+i) 0)→(pcsL own bd S l k).map (fun p=>((p.1:Int),(p.2.length:Int)))=prsL own siz S l k
  | [],k,_,_=>rfl
  | y :: l, k, h1, h2 => by
    have ih:=pcsL_map (l:=l) (k:=k+1) (fun x hx=>h1 x (List.mem_cons_of_mem _ hx)) (fun i x hx ho=>by
      have:=h2 (i+1) x (by simpa using hx) ho
      rw [show k+1+i=k+(i+1) by omega]
      exact this)
    show (if own y then ((S.getD k 0).toNat,bd y)::pcsL own bd S l (k+1) else pcsL own bd S l (k+1)).map _=(if own y then (S.getD k 0,siz y)::prsL own siz S l (k+1) else prsL own siz S l (k+1))
    by_cases ho:own y
    · have h0:0≤S.getD k 0:=h2 0 y rfl ho
      rw [if_pos ho,if_pos ho,List.map_cons,ih,h1 y (by simp) ho,Int.toNat_of_nonneg h0]
    · rw [if_neg ho,if_neg ho,ih]
end
def shN (secs:List dSec.T):Int:=if secs.length=0 then 0 else secs.length+1
section
variable {w big:Bool} {o ab ty ma en fl st:Int} {segs:List dSeg.T} {secs:List dSec.T}
abbrev encH (w big:Bool) (o ab ty ma en fl st:Int) (segs:List dSeg.T) (secs:List dSec.T):List Int:=headB w big o ab ty ma en (planV w segs secs).ph (planV w segs secs).sh fl segs.length (shN secs) st
def encPc (w big:Bool) (o ab ty ma en fl st:Int) (segs:List dSeg.T) (secs:List dSec.T):List Pc :=
  [(0,encH w big o ab ty ma en fl st segs secs),((planV w segs secs).ph.toNat,progsB w big (planV w segs secs).S segs)]++(if secs.length=0 then [] else [((planV w segs secs).sh.toNat,sectsB w big (planV w segs secs).T secs)])++pcsL ownG bodyG (planV w segs secs).S segs 0++pcsL ownC bodyC (planV w segs secs).T secs 0

def encB (w big:Bool) (o ab ty ma en fl st:Int) (segs:List dSeg.T) (secs:List dSec.T):List Int:=lays (List.replicate (planV w segs secs).sz.toNat 0) (encPc w big o ab ty ma en fl st segs secs)
theorem sizG_own (ok:ModelOk w en segs secs st) {s:dSeg.T} (hs:s ∈ segs) (ho:ownG s):sizG s=(bodyG s).length:=by
  have h:=(segC_zero (ok.seg s hs)).2.1
  rw [show s.2.2.2.2.2.2.1.1=(-1:Int) from ho] at h
  exact (place_own h).2
theorem sizC_own (ok:ModelOk w en segs secs st) {s:dSec.T} (hs:s ∈ secs) (ho:ownC s):sizC s=(bodyC s).length:=by
  have h:=(secC_zero (ok.sec s hs)).1
  rw [show s.2.2.2.2.2.2.2.2.2.1.1=(-1:Int) from ho] at h
  exact (place_own h).2
theorem encPc_map (ok:ModelOk w en segs secs st) (po:PlanOk w segs secs):(encPc w big o ab ty ma en fl st segs secs).map (fun p=>((p.1:Int),(p.2.length:Int)))=[(0,hsz w),((planV w segs secs).ph,psz w * segs.length)]++(if secs.length=0 then [] else [((planV w segs secs).sh,ssz w * (secs.length+1))])++prsL ownG sizG (planV w segs secs).S segs 0++prsL ownC sizC (planV w segs secs).T secs 0:=by
  have hb:=po.bytes
  have h0:0≤(planV w segs secs).ph:=(hb ((planV w segs secs).ph,psz w * segs.length) (by simp)).1
  have hG:∀ i x,segs[i]? = some x→ownG x→0≤(planV w segs secs).S.getD (0+i) 0:=fun i x hx ho=>(hb _ (List.mem_append_left _ (List.mem_append_right _ (prsL_in hx ho)))).1
  have hC:∀ i x,secs[i]? = some x→ownC x→0≤(planV w segs secs).T.getD (0+i) 0:=fun i x hx ho=>(hb _ (List.mem_append_right _ (prsL_in hx ho))).1
  unfold encPc
  rw [List.map_append,List.map_append,List.map_append,pcsL_map (fun x hx ho=>sizG_own ok hx ho) hG,pcsL_map (fun x hx ho=>sizC_own ok hx ho) hC]
  congr 2
  congr 1
  · simp only [List.map_cons,List.map_nil]
    rw [headB_len,progsB_len po.lS,Int.toNat_of_nonneg h0]
    rfl
  · by_cases hs:secs.length=0
    · rw [if_pos hs,if_pos hs];rfl
    · rw [if_neg hs,if_neg hs]
      have h1:0≤(planV w segs secs).sh:=(hb ((planV w segs secs).sh,ssz w * (secs.length+1)) (List.mem_append_left _ (List.mem_append_left _ (List.mem_append_right _ (by rw [if_neg hs];simp))))).1
      simp only [List.map_cons,List.map_nil]
      rw [sectsB_len po.lT,Int.toNat_of_nonneg h1]
theorem encPc_in (ok:ModelOk w en segs secs st) (po:PlanOk w segs secs):∀ p ∈ encPc w big o ab ty ma en fl st segs secs,p.1+p.2.length≤(planV w segs secs).sz.toNat:=fun p hp=>by
  have h:=po.bytes ((p.1:Int),(p.2.length:Int)) (by rw [← encPc_map ok po];exact List.mem_map_of_mem (f:=fun p:Pc=>((p.1:Int),(p.2.length:Int))) hp)
  have h:=h.2.2
  have hz:=po.size
  dsimp only at h
  omega
theorem encPc_pw (ok:ModelOk w en segs secs st) (po:PlanOk w segs secs):(encPc w big o ab ty ma en fl st segs secs).Pairwise (fun p q=>∀ k,cov p k→¬ cov q k):=by
  have h:=po.apart
  rw [← encPc_map (big:=big) (o:=o) (ab:=ab) (ty:=ty) (ma:=ma) (fl:=fl) ok po,List.pairwise_map] at h
  refine h.imp fun {p q} hd k h1 h2=>?_
  have h1:p.1≤k∧k < p.1+p.2.length:=h1
  have h2:q.1≤k∧k < q.1+q.2.length:=h2
  unfold dis at hd
  dsimp only at hd
  omega
theorem encB_len (ok:ModelOk w en segs secs st) (po:PlanOk w segs secs):(encB w big o ab ty ma en fl st segs secs).length=(planV w segs secs).sz.toNat:=by
  unfold encB
  rw [lays_len (fun p hp=>by rw [List.length_replicate];exact encPc_in ok po p hp),List.length_replicate]

theorem lays_seg {L:List Pc} {b rest:List Int} {p:Pc} (hL:∀ p ∈ L,p.1+p.2.length≤b.length) (pL:L.Pairwise (fun p q=>∀ k,cov p k→¬ cov q k)) (hp:p ∈ L):((lays b L++rest).drop p.1).take p.2.length=p.2:=by
  have hl:=lays_len hL
  have h0:=hL p hp
  refine ext_D (by rw [List.length_take,List.length_drop,List.length_append];omega) fun k hk=>?_
  rw [List.length_take,List.length_drop,List.length_append] at hk
  rw [getD_takeL (by omega),getD_dropL,getD_appL (by omega),lays_in hL pL hp ⟨by omega,by omega⟩,show p.1+k - p.1=k by omega]
theorem encB_seg (ok:ModelOk w en segs secs st) (po:PlanOk w segs secs) {p:Pc} (rest:List Int) (hp:p ∈ encPc w big o ab ty ma en fl st segs secs):((encB w big o ab ty ma en fl st segs secs++rest).drop p.1).take p.2.length=p.2 :=
  lays_seg (fun p hp=>by rw [List.length_replicate];exact encPc_in ok po p hp) (encPc_pw ok po) hp
theorem seg_split {b c:List Int} {a:Nat} (h:(b.drop a).take c.length=c):b=b.take a++(c++(b.drop a).drop c.length):=by
  conv=>lhs;rw [← List.take_append_drop a b,← List.take_append_drop c.length (b.drop a),h]

theorem rec_gets {α:Type} {P:α→List (Int×Int)} {ns:List Int} {l:List α} {i:Nat} {x:α} (hns:∀ n ∈ ns,wideB n=true) (hP:∀ x,(P x).map (·.2)=ns) (hx:l[i]? = some x) (hok:rowOk (P x)=true) (h0:∀ q ∈ P x,0≤q.1) (pre post:List Int):gets (pre++(recB big P l++post)) big (pre.length+i * sumL ns) ns=(P x).map (·.1):=by
  obtain ⟨hi,rfl⟩:=List.getElem?_eq_some_iff.1 hx
  have hsplit:recB big P l=recB big P (l.take i)++(rowB big (P l[i])++recB big P (l.drop (i+1))):=by
    have e:l=l.take i++(l[i]::l.drop (i+1)):=by rw [← List.drop_eq_getElem_cons hi,List.take_append_drop]
    have e2:recB big P l=recB big P (l.take i++(l[i]::l.drop (i+1))):=congrArg _ e
    rw [e2]
    simp only [recB,List.flatMap_append,List.flatMap_cons]
  have hlen:∀ t:List α,((recB big P t).length:Int)=t.length * sumL ns:=by
    intro t
    induction t with
    | nil=>simp [recB]
    | cons y t ih =>
      have e:((rowB big (P y)).length:Int)=sumL ns:=by
        rw [rowB_sum (P y) (fun q hq=>hns q.2 (by rw [← hP y];exact List.mem_map_of_mem hq)),hP y]
      show (((rowB big (P y)++recB big P t).length:Nat):Int)=_
      rw [List.length_append,List.length_cons]
      push_cast
      rw [e,ih,Int.add_mul,Int.one_mul]
      omega
  have hpre:(pre.length:Int)+i * sumL ns=((pre++recB big P (l.take i)).length:Int):=by
    rw [List.length_append]
    push_cast
    rw [hlen,List.length_take,Nat.min_eq_left (Nat.le_of_lt hi)]
  rw [hpre,hsplit]
  have:=gets_put (big:=big) (P l[i]) (pre++recB big P (l.take i)) (recB big P (l.drop (i+1))++post) hok h0
  rw [hP] at this
  rw [← this]
  simp only [List.append_assoc]
end
end Go.Proofs.Ytcffpnlochillaa.PvW
end

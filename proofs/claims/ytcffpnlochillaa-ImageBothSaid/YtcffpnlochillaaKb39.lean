/- A heap of plain values, walks over it, and functions of the program met by them: no statement of the set is proved in this text. -/
import Derived.Test.YtcffpnlochillaaKb03
import Derived.Test.YtcffpnlochillaaKb30
set_option linter.unusedVariables false
set_option linter.unusedSimpArgs false
set_option maxRecDepth 100000
set_option maxHeartbeats 4000000
section
namespace Go.Proofs.Ytcffpnlochillaa.PvW
open Go.RowKit Go.Proofs.Ytcffpnlochillaa.AbP Go.Proofs.Ytcffpnlochillaa.Num Go.Proofs.Ytcffpnlochillaa.Pv
theorem ext_D {a b:List Int} (hl:a.length=b.length) (h:∀ k,k < a.length→a.getD k 0=b.getD k 0):a=b:=by
  refine List.ext_getElem hl fun k h1 h2=>?_
  have:=h k h1
  rw [List.getD_eq_getElem?_getD,List.getD_eq_getElem?_getD,List.getElem?_eq_getElem h1,List.getElem?_eq_getElem h2] at this
  exact this
theorem getD_appL {a b:List Int} {k:Nat} (h:k < a.length):(a++b).getD k 0=a.getD k 0:=by
  rw [List.getD_eq_getElem?_getD,List.getElem?_append_left h,← List.getD_eq_getElem?_getD]
theorem getD_appR {a b:List Int} {k:Nat} (h:a.length≤k):(a++b).getD k 0=b.getD (k - a.length) 0:=by
  rw [List.getD_eq_getElem?_getD,List.getElem?_append_right h,← List.getD_eq_getElem?_getD]
theorem getD_takeL {a:List Int} {n k:Nat} (h:k < n):(a.take n).getD k 0=a.getD k 0:=by
  rw [List.getD_eq_getElem?_getD,List.getElem?_take,if_pos h,← List.getD_eq_getElem?_getD]
theorem getD_dropL {a:List Int} {n k:Nat}:(a.drop n).getD k 0=a.getD (n+k) 0:=by
  rw [List.getD_eq_getElem?_getD,List.getElem?_drop,← List.getD_eq_getElem?_getD]

def ovl (b:List Int) (a:Nat) (c:List Int):List Int:=b.take a++(c++b.drop (a+c.length))
theorem ovl_len {b c:List Int} {a:Nat} (h:a+c.length≤b.length):(ovl b a c).length=b.length:=by
  unfold ovl
  rw [List.length_append,List.length_append,List.length_take,List.length_drop]
  omega
theorem ovl_get {b c:List Int} {a:Nat} (h:a+c.length≤b.length) (k:Nat):(ovl b a c).getD k 0=if a≤k∧k < a+c.length then c.getD (k - a) 0 else b.getD k 0:=by
  unfold ovl
  have ht:(b.take a).length=a:=by rw [List.length_take];omega
  by_cases h1:k < a
  · rw [getD_appL (by omega),getD_takeL h1,if_neg (by omega)]
  · rw [getD_appR (by omega),ht]
    by_cases h2:k < a+c.length
    · rw [getD_appL (by omega),if_pos ⟨by omega,h2⟩]
    · rw [getD_appR (by omega),getD_dropL,if_neg (by omega),show a+c.length+(k - a - c.length)=k by omega]
theorem ovl_nil {b:List Int} {a:Nat} (h:a≤b.length):ovl b a []=b:=by
  unfold ovl
  rw [List.nil_append,List.length_nil,Nat.add_zero,List.take_append_drop]
abbrev Pc:=Nat×List Int
abbrev cov (p:Pc) (k:Nat):Prop:=p.1≤k∧k < p.1+p.2.length
def lays (b:List Int) (L:List Pc):List Int:=L.foldl (fun b p=>ovl b p.1 p.2) b
theorem lays_len:∀ {L:List Pc} {b:List Int},(∀ p ∈ L,p.1+p.2.length≤b.length)→(lays b L).length=b.length
  | [],b,_=>rfl
  | p :: L, b, h => by
    have h0:=h p (by simp)
    show (lays (ovl b p.1 p.2) L).length=_
    rw [lays_len (fun q hq=>by rw [ovl_len h0];exact h q (List.mem_cons_of_mem _ hq)),ovl_len h0]
theorem lays_out:∀ {L:List Pc} {b:List Int} {k:Nat},(∀ p ∈ L,p.1+p.2.length≤b.length)→(∀ p ∈ L,¬ cov p k)→(lays b L).getD k 0=b.getD k 0
  | [],b,k,_,_=>rfl
  | p :: L, b, k, h, hk => by
    have h0:=h p (by simp)
    show (lays (ovl b p.1 p.2) L).getD k 0=_
    rw [lays_out (fun q hq=>by rw [ovl_len h0];exact h q (List.mem_cons_of_mem _ hq)) (fun q hq=>hk q (List.mem_cons_of_mem _ hq)),ovl_get h0]
    exact if_neg (hk p (by simp))
theorem lays_in:∀ {L:List Pc} {b:List Int} {k:Nat} {p:Pc},(∀ p ∈ L,p.1+p.2.length≤b.length)→L.Pairwise (fun p q=>∀ k,cov p k→¬ cov q k)→p ∈ L→cov p k→(lays b L).getD k 0=p.2.getD (k - p.1) 0
  | [],b,k,p,_,_,hp,_=>by cases hp
  | q :: L, b, k, p, h, hw, hp, hk => by
    have h0:=h q (by simp)
    have h1:∀ r ∈ L,r.1+r.2.length≤(ovl b q.1 q.2).length:=fun r hr=>by rw [ovl_len h0];exact h r (List.mem_cons_of_mem _ hr)
    obtain ⟨w1,w2⟩:=List.pairwise_cons.1 hw
    show (lays (ovl b q.1 q.2) L).getD k 0=_
    rcases List.mem_cons.1 hp with rfl | hp
    · rw [lays_out h1 (fun r hr=>w1 r hr k hk),ovl_get h0]
      exact if_pos hk
    · exact lays_in h1 w2 hp hk

def parts (a:Nat):List (List Int)→List Pc
  | []=>[]
  | c::l=>(a,c)::parts (a+c.length) l
end Go.Proofs.Ytcffpnlochillaa.PvW
end
section
namespace Go.Proofs.Ytcffpnlochillaa.PvW
open Go.RowKit Go.Proofs.Ytcffpnlochillaa.Cd Go.Proofs.Ytcffpnlochillaa.AbP Go.Proofs.Ytcffpnlochillaa.Num Go.Proofs.Ytcffpnlochillaa.Pv
variable {K:PV→List OB→Prop}
section
variable {o a ty ma en po so fl pn sn st:Int}
theorem headP_ok {w:Bool} (hG:HeadN o a ty ma en po so fl pn sn st):rowOk (headP w ty ma en po so fl pn sn st)=headOk w en po so:=by
  obtain ⟨⟨g0,h0⟩,⟨g1,h1⟩,⟨g2,h2⟩,⟨g3,h3⟩,⟨g4,h4⟩,⟨g5,h5⟩,⟨g6,h6⟩,⟨g7,h7⟩,⟨g8,h8⟩,⟨g9,h9⟩,⟨g10,h10⟩⟩:=hG
  have p2:(256:Int) ^ 2=65536:=by decide
  have p4:(256:Int) ^ 4=4294967296:=by decide
  have t2:∀ x:Int,x≤65535→fitsB x 2=true:=fun x h=>fitsn (m:=2) rfl rfl (by omega)
  have t4:∀ x:Int,x≤4294967295→fitsB x 4=true:=fun x h=>fitsn (m:=4) rfl rfl (by omega)
  have q1:=t2 (hsz w) (by cases w <;> decide)
  have q2:=t2 (if decide (0 < pn)=true then hpr w else 0) (by split <;> cases w <;> decide)
  have q3:=t2 (if decide (0 < so)=true then hsc w else 0) (by split <;> cases w <;> decide)
  simp only [headP,headOk,rowOk_app]
  simp only [rowOk,prs,List.map_cons,List.map_nil,List.all_cons,List.all_nil,t2 _ h2,t2 _ h3,t2 _ h8,t2 _ h9,t2 _ h10,t4 _ h7,t4 1 (by decide),q1,q2,q3,Bool.and_true,Bool.true_and,Bool.and_assoc]
end
end Go.Proofs.Ytcffpnlochillaa.PvW
end
section
namespace Go.Proofs.Ytcffpnlochillaa.PvW
open Go.RowKit Go.Proofs.Ytcffpnlochillaa.Cd Go.Proofs.Ytcffpnlochillaa.AbP Go.Proofs.Ytcffpnlochillaa.Num Go.Proofs.Ytcffpnlochillaa.Pv
variable {K:PV→List OB→Prop}
theorem idBad_app (w big:Bool) (o a:Int) (X:List Int):idBad (idB w big o a++X)=none:=by
  have h:idScan (idB w big o a++X) 0 7=none:=by
    cases w <;> cases big <;> simp [idScan,idW]
  unfold idBad
  rw [h]
  simp
section
variable {o a ty ma en po so fl pn sn st:Int}
theorem hrow_len {w big:Bool}:(rowB big (headP w ty ma en po so fl pn sn st)).length+16=(hsz w).toNat:=by
  have hl:∀ (v:Int) (n:Int),wideB n=true→(putSpec v n big).length=n.toNat:=fun v n h=>by rw [putSpec_len,if_pos h]
  cases w
  · simp only [rowB,headP,prs,wd,List.map_cons,List.map_nil,List.cons_append,List.nil_append,↓reduceIte,Bool.false_eq_true,List.flatMap_cons,List.flatMap_nil,List.length_append,hl _ 2 rfl,hl _ 4 rfl,List.length_nil]
    rfl
  · simp only [rowB,headP,prs,wd,List.map_cons,List.map_nil,List.cons_append,List.nil_append,↓reduceIte,List.flatMap_cons,List.flatMap_nil,List.length_append,hl _ 2 rfl,hl _ 4 rfl,hl _ 8 rfl,List.length_nil]
    rfl
theorem headB_len {w big:Bool}:((headB w big o a ty ma en po so fl pn sn st).length:Int)=hsz w:=by
  have h:=hrow_len (w:=w) (big:=big) (ty:=ty) (ma:=ma) (en:=en) (po:=po) (so:=so) (fl:=fl) (pn:=pn) (sn:=sn) (st:=st)
  have e:(headB w big o a ty ma en po so fl pn sn st).length=16+(rowB big (headP w ty ma en po so fl pn sn st)).length:=by rw [List.length_append];rfl
  have h2:52≤hsz w:=by cases w <;> decide
  omega
theorem headP_snd (w:Bool):(headP w ty ma en po so fl pn sn st).map (·.2)=headW w:=rfl
theorem headP_fst (w:Bool):(headP w ty ma en po so fl pn sn st).map (·.1)=[ty,ma,1,en,po,so,fl,hsz w,if decide (0 < pn)=true then hpr w else 0,pn,if decide (0 < so)=true then hsc w else 0,sn,st]:=rfl

theorem head_gets {w big:Bool} (hG:HeadN o a ty ma en po so fl pn sn st) (hok:headOk w en po so=true) (X:List Int) :
    gets (headB w big o a ty ma en po so fl pn sn st++X) big 16 (headW w)=[ty,ma,1,en,po,so,fl,hsz w,if decide (0 < pn)=true then hpr w else 0,pn,if decide (0 < so)=true then hsc w else 0,sn,st]:=by
  obtain ⟨g0,g1,g2,g3,g4,g5,g6,g7,g8,g9,g10⟩:=id hG
  unfold U64 at g4 g5 g6
  have h:=gets_put (big:=big) (headP w ty ma en po so fl pn sn st) (idB w big o a) X (by rw [headP_ok hG];exact hok) (by
    have hq:∀ x ∈ (headP w ty ma en po so fl pn sn st).map (·.1),0≤x:=by
      rw [headP_fst]
      simp only [List.forall_mem_cons]
      refine ⟨g2.1,g3.1,by decide,g4.1,g5.1,g6.1,g7.1,by cases w <;> decide,by split <;> cases w <;> decide,g8.1,by split <;> cases w <;> decide,g9.1,g10.1,fun _ h=>by cases h⟩
    intro q hq'
    exact hq _ (List.mem_map_of_mem hq'))
  rw [headP_snd,headP_fst] at h
  rw [← h]
  show gets ((idB w big o a++_)++X) big 16 _=_
  rw [List.append_assoc]
  rfl
theorem head_4 {w big:Bool} (X:List Int):decide ((headB w big o a ty ma en po so fl pn sn st++X).getD 4 0=2)=w:=by
  show decide ((if w=true then (2:Int) else 1)=2)=w
  cases w <;> rfl
theorem head_5 {w big:Bool} (X:List Int):decide ((headB w big o a ty ma en po so fl pn sn st++X).getD 5 0=2)=big:=by
  show decide ((if big=true then (2:Int) else 1)=2)=big
  cases big <;> rfl
theorem head_back {w big:Bool} (hG:HeadN o a ty ma en po so fl pn sn st) (hok:headOk w en po so=true) (X:List Int):headBad (headB w big o a ty ma en po so fl pn sn st++X)=none:=by
  have hl:=headB_len (w:=w) (big:=big) (o:=o) (a:=a) (ty:=ty) (ma:=ma) (en:=en) (po:=po) (so:=so) (fl:=fl) (pn:=pn) (sn:=sn) (st:=st)
  have h1:idBad (headB w big o a ty ma en po so fl pn sn st++X)=none:=by
    show idBad ((idB w big o a++_)++X)=none
    rw [List.append_assoc]
    exact idBad_app _ _ _ _ _
  unfold headBad
  rw [h1]
  simp only
  rw [head_4,head_5,head_gets hG hok,if_neg (by rw [List.length_append];omega)]
  unfold numBad
  rw [if_neg (by simp),if_neg (by simp),if_neg (by rintro ⟨c1,c2⟩;exact c2 (by show (if decide (0 < pn)=true then hpr w else 0)=_;have:0 < pn:=c1;simp [this])),if_neg (by rintro ⟨c1,c2⟩;exact c2 (by show (if decide (0 < so)=true then hsc w else 0)=_;have:0 < so:=c1;simp [this]))]
theorem headB_B {w big:Bool} (hG:HeadN o a ty ma en po so fl pn sn st):B (headB w big o a ty ma en po so fl pn sn st):=by
  obtain ⟨g0,g1,-⟩:=hG
  refine B_append ?_ (rowB_B _ _)
  have:∀ x ∈ idB w big o a,0≤x∧x≤255:=by
    simp only [List.forall_mem_cons]
    refine ⟨by decide,by decide,by decide,by decide,by split <;> decide,by split <;> decide,by decide,g0,g1,by decide,by decide,by decide,by decide,by decide,by decide,by decide,fun _ h=>by cases h⟩
  exact this
end
end Go.Proofs.Ytcffpnlochillaa.PvW
end

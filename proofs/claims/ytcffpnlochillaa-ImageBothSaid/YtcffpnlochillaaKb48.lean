/- A heap of plain values, walks over it, and functions of the program met by them: no statement of the set is proved in this text. -/
import Derived.Test.YtcffpnlochillaaKb16
import Derived.Test.YtcffpnlochillaaKb44
import Derived.Test.YtcffpnlochillaaKb47
set_option linter.unusedVariables false
set_option linter.unusedSimpArgs false
set_option maxRecDepth 100000
set_option maxHeartbeats 4000000
section
namespace Go.Proofs.Ytcffpnlochillaa.Pv
open Go.RowKit Go.Proofs.Ytcffpnlochillaa.Ab Go.Proofs.Ytcffpnlochillaa.AbP Go.Proofs.Ytcffpnlochillaa.Num
section
variable {P:Program} {Z:Bs} {K:Env→List OB→Prop} {e:Env} {s s':List OB} {cs:List CO} {pr:List Operand} {d:Option Nat} {kp:Bool}
inductive CvA:List OB→List PV→List PV→List OB→Prop where
  | z {s:List OB}:CvA s [] [] s
  | p {s s1:List OB} {p:PV} {l l':List PV} (h:Rf (per3 p=true)) (k:CvA s l l' s1):CvA s (p::l) (p::l') s1
  | g {s s1 s2:List OB} {a a' l l':List PV} (c:Cv s a a' s1) (h:Rf (a'.all per2=true)) (k:CvA s1 l l' s2):CvA s (.agg a::l) (.agg a'::l') s2
theorem CvA.ok {Z:Bs} {h:Hp} {s s1:List OB} {ps ps':List PV} (c:CvA s ps ps' s1):∀ {E:Nat→Bool} {i:Nat→Option Nat} {vs:List Value},SR Z h E i s→PRs ⟨Hp.mask h E,i,s⟩ ps vs →
    ∃ E' i',SR Z h E' i' s1∧Cx.le ⟨Hp.mask h E,i,s⟩ ⟨Hp.mask h E',i',s1⟩∧PRs ⟨Hp.mask h E',i',s1⟩ ps' vs∧ps'.all per3=true:=by
  induction c with
  | z =>
    intro E i vs S A
    exact ⟨E,i,S,.refl _,A,rfl⟩
  | p hp _ ih =>
    intro E i vs S A
    obtain ⟨v,t,rfl,h1,h2⟩:=A.uncons
    obtain ⟨E',i',S',le',A',p'⟩:=ih S h2
    exact ⟨E',i',S',le',.cons (h1.mono le') A',by rw [List.all_cons,hp.o,p'];rfl⟩
  | g c hh _ ih =>
    intro E i vs S A
    obtain ⟨v,t,rfl,h1,h2⟩:=A.uncons
    obtain ⟨b,rfl,h3⟩:=h1.agg_inv
    obtain ⟨E1,i1,S1,le1,A1,-⟩:=c.ok S h3
    obtain ⟨E',i',S',le',A',p'⟩:=ih S1 (h2.mono le1)
    have A2:=A1.mono le'
    refine ⟨E',i',S',le1.trans le',.cons (.agg _ b A2.1 A2.2) A',?_⟩
    rw [List.all_cons,p',Bool.and_true]
    exact hh.o
theorem ca_VA {f:FuncId} {ps ps':List PV} {s1:List OB} (hv:CvA s ps ps' s1) (hk:PCalls P f ps' [] (Aft P Z pr cs K e s1 d)):CaG P Z pr cs K e s d kp f ps:=fun xs ha fr h ⟨E,i,S,R⟩=>by
  obtain ⟨E1,i1,S1,le1,A1,hper⟩:=hv.ok S (R.map ha)
  have A:=perL (X:=⟨Hp.mask h E1,i1,s1⟩) (Y:=⟨Hp.mask h E1,i1,[]⟩) (fun p v q=>per3_PR q (.refl _)) hper A1
  have S0:SR ⟨h,E1,i1,[]⟩ h E1 i1 []:=⟨fun id o h=>by simp at h,fun _ _ _ _ _ h=>by simp at h,rfl,Nat.le_refl _,fun b k hb _=>⟨hb,rfl⟩,fun b ⟨id,o,ho,_⟩=>by simp at ho,.refl _⟩
  refine s_call ((hk h E1 i1 _ S0 A).mono fun v h' ⟨p,t,E',i',⟨k1,k2,k3⟩,T,hp⟩=>?_)
  obtain ⟨S',hkp⟩:=S1.frame T k2
  exact ⟨fun _=>hkp,k3 _ _ ⟨E',_,S1.after S',((R.mono le1).mono S'.le).put (shP_PR k1 hp)⟩⟩
end
end Go.Proofs.Ytcffpnlochillaa.Pv
namespace Go.Proofs.Ytcffpnlochillaa.PvW
open Go.RowKit Go.Proofs.Ytcffpnlochillaa.Cd Go.Proofs.Ytcffpnlochillaa.AbP Go.Proofs.Ytcffpnlochillaa.Num Go.Proofs.Ytcffpnlochillaa.Pv
theorem B_take {l:List Int} (h:B l) (n:Nat):B (l.take n):=fun x hx=>h x (List.mem_of_mem_take hx)
theorem B_drop {l:List Int} (h:B l) (n:Nat):B (l.drop n):=fun x hx=>h x (List.mem_of_mem_drop hx)
theorem lays_B:∀ {L:List Pc} {b:List Int},B b→(∀ p ∈ L,B p.2)→B (lays b L)
  | [],b,hb,_=>hb
  | p::L,b,hb,h=>lays_B (b:=ovl b p.1 p.2) (B_append (B_take hb _) (B_append (h p (by simp)) (B_drop hb _))) (fun q hq=>h q (List.mem_cons_of_mem _ hq))
theorem rep_B (n:Nat):B (List.replicate n 0):=fun x hx=>by
  have:=List.eq_of_mem_replicate hx
  subst this
  exact ⟨by decide,by decide⟩
section
variable {K:PV→List OB→Prop} {w big:Bool} {o ab ty ma en fl st:Int} {segs:List dSeg.T} {secs:List dSec.T}
theorem encB_B (ok:ModelOk w en segs secs st) (hG:SegsN segs) (hN:SecsN secs) (po:PlanOk w segs secs) (hH:HdrN o ab ty ma fl) (he:U64 en):B (encB w big o ab ty ma en fl st segs secs):=by
  obtain ⟨hHN,-⟩:=enc_headN ok po hH he
  refine lays_B (rep_B _) fun p hp=>?_
  unfold encPc at hp
  simp only [List.mem_append] at hp
  rcases hp with ((hp | hp) | hp) | hp
  · rcases List.mem_cons.1 hp with rfl | hp
    · exact headB_B hHN
    · obtain rfl:=List.mem_singleton.1 hp
      exact recB_B _
  · split at hp
    · cases hp
    · obtain rfl:=List.mem_singleton.1 hp
      exact B_append (rep_B _) (recB_B _)
  · obtain ⟨i,x,hx,-,rfl⟩:=pcsL_mem hp
    exact (hG x (List.mem_of_getElem? hx)).bo
  · obtain ⟨i,x,hx,-,rfl⟩:=pcsL_mem hp
    exact (hN x (List.mem_of_getElem? hx)).bo

structure Wr (w:Bool) (o ab ty ma en fl st:Int) (segs:List dSeg.T) (secs:List dSec.T):Prop where
  ok:ModelOk w en segs secs st
  ov:(planV w segs secs).ov=false
  hG:SegsN segs
  hN:SecsN secs
  hGF:SegsF segs
  hNF:SecsF secs
  hH:HdrN o ab ty ma fl
  en:U64 en
theorem Wr.po (W:Wr w o ab ty ma en fl st segs secs):PlanOk w segs secs:=planOk W.ok W.hG W.hN W.ov
theorem Wr.len (W:Wr w o ab ty ma en fl st segs secs):(encB w big o ab ty ma en fl st segs secs).length=(planV w segs secs).sz.toNat∧(encB w big o ab ty ma en fl st segs secs).length≤65536:=by
  have h:=encB_len (big:=big) (o:=o) (ab:=ab) (ty:=ty) (ma:=ma) (fl:=fl) W.ok W.po
  have hz:=W.po.size
  exact ⟨h,by omega⟩
theorem Wr.B (W:Wr w o ab ty ma en fl st segs secs):B (encB w big o ab ty ma en fl st segs secs):=encB_B W.ok W.hG W.hN W.po W.hH W.en
end
theorem segF_of {l:List dSeg.T} (h:∀ x ∈ l,dSeg.good x):SegsF l:=fun x hx=>by
  have hh:=h x hx
  obtain ⟨ty,fl,va,pa,me,al,⟨i,off,sz,own,u⟩,u2⟩:=x
  obtain ⟨k0,k1,_⟩:=hh
  exact ⟨(u32_of k1).1.1,(u32_of k1).2⟩
theorem secF_of {l:List dSec.T} (h:∀ x ∈ l,dSec.good x):SecsF l:=fun x hx=>by
  have hh:=h x hx
  obtain ⟨nm,ty,fl,ad,si,li,sf,al,en,⟨i,off,sz,own,u⟩,u2⟩:=x
  obtain ⟨k0,k1,k2,k3,k4,k5,k6,_⟩:=hh
  exact ⟨(u32_of k6).1.1,(u32_of k6).2⟩
section
variable {w big:Bool} {o ab ty ma en fl st:Int} {segs:List dSeg.T} {secs:List dSec.T}
theorem hdrN_of {w big:Bool} {u1 u2 u3:Unit} {o ab ty ma fl en st:Int} {segs:List dSeg.T} {secs:List dSec.T} (h:((.cons (.st (.cons (.st (.cons .bool (.cons .bool .nil))) (.cons (.int .u8) (.cons (.int .u8) .nil)))) (.cons (.int .u16) (.cons (.int .u16) (.cons (.int .u32) (.cons (.int .u64) (.cons (.sl (.st (.cons (.int .u32) (.cons (.int .u32) (.cons (.int .u64) (.cons (.int .u64) (.cons (.int .u64) (.cons (.int .u64) (.cons (.st (.cons (.int .i64) (.cons (.int .u64) (.cons (.int .u64) (.cons (.sl (.int .u8)) .nil))))) .nil))))))))) (.cons (.sl (.st (.cons (.int .u32) (.cons (.int .u32) (.cons (.int .u64) (.cons (.int .u64) (.cons (.int .u64) (.cons (.int .u32) (.cons (.int .u32) (.cons (.int .u64) (.cons (.int .u64) (.cons (.st (.cons (.int .i64) (.cons (.int .u64) (.cons (.int .u64) (.cons (.sl (.int .u8)) .nil))))) .nil)))))))))))) (.cons (.int .i64) .nil)))))))):Ab.D).good (((w,big,u1),o,ab,u2),ty,ma,fl,en,segs,secs,st,u3)):HdrN o ab ty ma fl:=by
  obtain ⟨⟨_,k0,k1,_⟩,k2,k3,k4,_⟩:=h
  exact ⟨u8_of k0,u8_of k1,⟨(u16_of k2).1.1,(u16_of k2).2⟩,⟨(u16_of k3).1.1,(u16_of k3).2⟩,⟨(u32_of k4).1.1,(u32_of k4).2⟩⟩
end
section
variable {K:PV→List OB→Prop}
theorem ifile_enc {w big:Bool} {o ab ty ma en fl st:Int} {segs:List dSeg.T} {secs:List dSec.T} (W:Wr w o ab ty ma en fl st segs secs) (hk:K (.tup [.agg [.int .u64 en,.sl dRegI (imL segs)],.nilI]) []) :
    PCalls Try.prog 7 [.sl (.int .u8) (encB w big o ab ty ma en fl st segs secs)] [] K:=by
  have po:=W.po
  have hz:=po.size
  have l16:=W.ok.l16
  obtain ⟨h0,h1,h2,h3,h4,h5,h6⟩:=parse_enc (big:=big) W.ok W.hG W.hN W.hGF W.hNF W.hH W.en W.ov [] (by simp;omega)
  have hLo:=loads_enc (big:=big) (o:=o) (ab:=ab) (ty:=ty) (ma:=ma) (fl:=fl) W.ok W.hG W.hGF po []
  have hSg:=segs_enc (big:=big) (o:=o) (ab:=ab) (ty:=ty) (ma:=ma) (fl:=fl) W.ok W.hG po []
  have hEn:=fun (i:Nat) (s:dSeg.T) (hs:segs[i]? = some s)=>load_enc (big:=big) (o:=o) (ab:=ab) (ty:=ty) (ma:=ma) (fl:=fl) W.ok W.hG W.hGF po [] hs
  have hl:=W.len (big:=big)
  have hb:=po.bytes ((planV w segs secs).ph,psz w * segs.length) (by simp)
  rw [List.append_nil] at h0 h1 h2 h3 h4 h5 h6 hLo hSg
  simp only [List.append_nil] at hEn
  have e4:(hdV (encB w big o ab ty ma en fl st segs secs)).getD 4 0=(planV w segs secs).ph:=by rw [h5];rfl
  have e9:(hdV (encB w big o ab ty ma en fl st segs secs)).getD 9 0=(segs.length:Int):=by rw [h5];rfl
  have e3:(hdV (encB w big o ab ty ma en fl st segs secs)).getD 3 0=en:=by rw [h5];rfl
  refine ifile_spec (n:=segs.length) W.B (by omega) h0 e9 l16 ?_ (fun i hi=>?_) ?_
  · rw [e4,h1]
    dsimp only at hb
    rw [Int.mul_comm] at hb
    exact .inr (by omega)
  · rw [e4,h1,h2]
    have hs:segs[i]? = some segs[i]:=List.getElem?_eq_getElem hi
    have hpl:=segG_place W.ok W.hG po hs
    unfold loadE
    rw [hEn i _ hs]
    refine if_neg ?_
    rintro ⟨c1,c2⟩
    have e:withinB ((planV w segs secs).S.getD i 0) (sizG segs[i]) (((encB w big o ab ty ma en fl st segs secs).length:Nat):Int)=true:=by
      simp only [withinB,Bool.and_eq_true,decide_eq_true_eq]
      omega
    rw [show withinB ((planV w segs secs).S.getD i 0) (sizG segs[i]) (((encB w big o ab ty ma en fl st segs secs).length:Nat):Int)=false from c2] at e
    cases e
  · rw [e3,e4,h1,h2,hLo,hSg]
    exact hk
theorem im_in {segs:List dSeg.T} (hG:SegsN segs):∀ r ∈ imL segs,(0:Int)≤r.1∧r.2.2.2.1.length≤1000000:=by
  intro r hr
  obtain ⟨s,hs,h⟩:=List.mem_flatMap.1 hr
  have hN:=hG s hs
  unfold imF at h
  split at h
  · obtain rfl:=List.mem_singleton.1 h
    exact ⟨hN.va.1,hN.ow⟩
  · cases h
abbrev segV:dSeg.T:=((1:Int),(4:Int),(9:Int),(0:Int),(2:Int),(0:Int),((-1:Int),(0:Int),(1:Int),([7]:List Int),PUnit.unit),PUnit.unit)
theorem ifile_nil (hk:K (.tup [.agg [.int .u64 0,.nilS],eCode 4]) []):PCalls Try.prog 7 [.nilS] [] K:=by
  refine PCalls.wkA (.n (.int .u8) .z) ?_
  refine told_callP image_File.told fun Z hZ=>?_
  unfold image_File.c
  have hb:headBad []=some (0,2):=rfl
  refine W1 trivial @DD trivial ?_
  refine hget_spec ⟨fun _ h=>by cases h⟩ ⟨by decide⟩ (fun a c hh=>?_) (fun hh=>by rw [hb] at hh;cases hh)
  refine W1 trivial @DD trivial ?_
  exact hk
theorem up17_spec (hk:K (.bool true) []):PCalls Try.prog 4 [] [] K:=by
  refine told_callP bezantlaw17_up.told fun Z hZ=>?_
  unfold bezantlaw17_up.c
  have h1:atP (imL [segV]) 9=((7:Int),(4:Int),true):=by decide
  have h2:atP (imL [segV]) 10=((0:Int),(4:Int),true):=by decide
  have h3:atP (imL [segV]) 11=((0:Int),(0:Int),false):=by decide
  have hi:∀ r ∈ imL [segV],(0:Int)≤r.1∧r.2.2.2.1.length≤1000000:=by decide
  have hA:=fun (K:PV→List OB→Prop) (a:Int) (ha:0≤a∧a≤18446744073709551615)=>iat_spec (K:=K) (en:=0) (l:=imL [segV]) ha (by decide) hi
  refine W1 trivial @DD trivial ?_
  refine caGh (gh_arr 0 (.int .u8) (l':=([7]:List Int)) ⟨rfl⟩ ⟨rfl⟩ ⟨rfl⟩ ⟨rfl⟩ ⟨rfl⟩) ?_
  refine caGh (Gh.frzW (b:=1) (j:=9) (b':=0) (D':=.int .u8) (l:=([7]:List Int)) rfl rfl rfl rfl) ?_
  refine caGh (gh_arr 1 dSeg (l':=[segV]) ⟨rfl⟩ ⟨rfl⟩ ⟨rfl⟩ ⟨rfl⟩ ⟨rfl⟩) ?_
  refine ca_VA (.g (.p ⟨rfl⟩ <| .p ⟨rfl⟩ <| .p ⟨rfl⟩ <| .p ⟨rfl⟩ <| .p ⟨rfl⟩ <| .p ⟨rfl⟩ <| .p ⟨rfl⟩ <| .p ⟨rfl⟩ <| .a (d:=dSeg) (x:=[segV]) ⟨rfl⟩ ⟨rfl⟩ ⟨rfl⟩ <| .n dSec <| .p ⟨rfl⟩ .z) ⟨rfl⟩ .z) ?_
  refine imI_spec (segs:=[segV]) (secs:=[]) ⟨by decide⟩ (fun s hs=>by rw [List.mem_singleton.1 hs];decide) ?_
  refine W1 trivial @DD trivial ?_
  refine hA _ 9 (by decide) ?_
  rw [h1]
  refine W1 trivial @DD trivial ?_
  refine hA _ 10 (by decide) ?_
  rw [h2]
  refine W1 trivial @DD trivial ?_
  refine hA _ 11 (by decide) ?_
  rw [h3]
  refine W1 trivial @DD trivial ?_
  refine ifile_nil ?_
  refine W1 trivial @DD @code_spec ?_
  exact hk
theorem iboth_core {w big:Bool} {o ab ty ma en fl st a:Int} {segs:List dSeg.T} {secs:List dSec.T} (hG:∀ s ∈ segs,SegG s) (hM:∀ s ∈ secs,SecG s) (hGF:SegsF segs) (hNF:SecsF secs) (hH:HdrN o ab ty ma fl) (he:U64 en) (ha:0≤a∧a≤18446744073709551615) :
    PCalls Try.prog 3 [.agg [.bool w,.bool big,.int .u8 o,.int .u8 ab,.int .u16 ty,.int .u16 ma,.int .u32 fl,.int .u64 en,.sl dSeg segs,.sl dSec secs,.int .i64 st],.int .u64 a] [] fun p _=>p = .bool true:=by
  refine told_callP bezantlaw17_ImageBoth.told fun Z hZ=>?_
  unfold bezantlaw17_ImageBoth.c
  refine W1 trivial @DD trivial ?_
  refine up17_spec ?_
  refine W1 trivial @DD trivial ?_
  refine few_spec (fun s hs=>(hG s hs).2) (fun s hs=>(hM s hs).2) (fun l20 l70 hs1 hs2=>?_) ?_
  rotate_left
  · refine W1 trivial @DD trivial ?_
    rfl
  have hGN:=segsN_of hG hs1
  have hMN:=secsN_of hM hs2
  refine W1 trivial @DD trivial ?_
  refine enc_spec ⟨he⟩ hGN hMN hGF hNF hH (fun h0=>?_) (fun h0 h1=>?_) (fun h0 h1=>?_)
  · refine W1 trivial @DD trivial ?_
    rfl
  · refine W1 trivial @DD trivial ?_
    rfl
  have W:Wr w o ab ty ma en fl st segs secs:=⟨modelOk h0,h1,hGN,hMN,hGF,hNF,hH,he⟩
  have l16:=W.ok.l16
  have hLS:∀ s ∈ segs,s.2.2.2.2.2.2.1.2.2.2.1.length≤1000000:=fun s hs=>(W.hG s hs).ow
  have hI:=im_in W.hG
  have hIl:=im_len segs
  have hIE:=fun (K:PV→List OB→Prop)=>ifile_enc (K:=K) (big:=big) W
  have hAt:=fun (K:PV→List OB→Prop)=>iat_spec (K:=K) (en:=en) (l:=imL segs) ha (by omega) hI
  have hRi:=fun (K:PV→List OB→Prop)=>rimI_spec (K:=K) (en:=en) (l:=imL segs) ⟨by omega⟩ (fun r hr=>(hI r hr).2)
  clear W
  generalize encB w big o ab ty ma en fl st segs secs=E at *
  refine W1 trivial @DD trivial ?_
  refine hIE _ ?_
  refine W1 trivial @DD trivial ?_
  refine imI_spec ⟨by omega⟩ hLS ?_
  refine W1 trivial @DD trivial ?_
  refine hAt _ ?_
  refine W1 trivial @DD trivial ?_
  refine hAt _ ?_
  refine W1 trivial @DD trivial ?_
  refine hRi _ ?_
  generalize atP (imL segs) a=r
  obtain ⟨r1,r2,r3⟩:=r
  cases r3
  · refine W1 trivial @DD trivial ?_
    rfl
  · refine W1 trivial @DD trivial ?_
    rfl
theorem iboth_walk (x0:((.st (.cons (.st (.cons (.st (.cons .bool (.cons .bool .nil))) (.cons (.int .u8) (.cons (.int .u8) .nil)))) (.cons (.int .u16) (.cons (.int .u16) (.cons (.int .u32) (.cons (.int .u64) (.cons (.sl (.st (.cons (.int .u32) (.cons (.int .u32) (.cons (.int .u64) (.cons (.int .u64) (.cons (.int .u64) (.cons (.int .u64) (.cons (.st (.cons (.int .i64) (.cons (.int .u64) (.cons (.int .u64) (.cons (.sl (.int .u8)) .nil))))) .nil))))))))) (.cons (.sl (.st (.cons (.int .u32) (.cons (.int .u32) (.cons (.int .u64) (.cons (.int .u64) (.cons (.int .u64) (.cons (.int .u32) (.cons (.int .u32) (.cons (.int .u64) (.cons (.int .u64) (.cons (.st (.cons (.int .i64) (.cons (.int .u64) (.cons (.int .u64) (.cons (.sl (.int .u8)) .nil))))) .nil)))))))))))) (.cons (.int .i64) .nil))))))))):Ab.D).T) (g0:((.st (.cons (.st (.cons (.st (.cons .bool (.cons .bool .nil))) (.cons (.int .u8) (.cons (.int .u8) .nil)))) (.cons (.int .u16) (.cons (.int .u16) (.cons (.int .u32) (.cons (.int .u64) (.cons (.sl (.st (.cons (.int .u32) (.cons (.int .u32) (.cons (.int .u64) (.cons (.int .u64) (.cons (.int .u64) (.cons (.int .u64) (.cons (.st (.cons (.int .i64) (.cons (.int .u64) (.cons (.int .u64) (.cons (.sl (.int .u8)) .nil))))) .nil))))))))) (.cons (.sl (.st (.cons (.int .u32) (.cons (.int .u32) (.cons (.int .u64) (.cons (.int .u64) (.cons (.int .u64) (.cons (.int .u32) (.cons (.int .u32) (.cons (.int .u64) (.cons (.int .u64) (.cons (.st (.cons (.int .i64) (.cons (.int .u64) (.cons (.int .u64) (.cons (.sl (.int .u8)) .nil))))) .nil)))))))))))) (.cons (.int .i64) .nil))))))))):Ab.D).good x0) (x1:((.int .u64):Ab.D).T) (g1:((.int .u64):Ab.D).good x1) :
    PCalls Try.prog 3 [pvD (.st (.cons (.st (.cons (.st (.cons .bool (.cons .bool .nil))) (.cons (.int .u8) (.cons (.int .u8) .nil)))) (.cons (.int .u16) (.cons (.int .u16) (.cons (.int .u32) (.cons (.int .u64) (.cons (.sl (.st (.cons (.int .u32) (.cons (.int .u32) (.cons (.int .u64) (.cons (.int .u64) (.cons (.int .u64) (.cons (.int .u64) (.cons (.st (.cons (.int .i64) (.cons (.int .u64) (.cons (.int .u64) (.cons (.sl (.int .u8)) .nil))))) .nil))))))))) (.cons (.sl (.st (.cons (.int .u32) (.cons (.int .u32) (.cons (.int .u64) (.cons (.int .u64) (.cons (.int .u64) (.cons (.int .u32) (.cons (.int .u32) (.cons (.int .u64) (.cons (.int .u64) (.cons (.st (.cons (.int .i64) (.cons (.int .u64) (.cons (.int .u64) (.cons (.sl (.int .u8)) .nil))))) .nil)))))))))))) (.cons (.int .i64) .nil))))))))) x0,pvD (.int .u64) x1] [] fun p _=>p = .bool true:=by
  obtain ⟨⟨⟨w,big,_⟩,o,ab,_⟩,ty,ma,fl,en,segs,secs,st,_⟩:=x0
  have hH:=hdrN_of g0
  obtain ⟨_,_,_,_,g4,g5,g6,_⟩:=g0
  exact iboth_core (segG_of g5.2) (secG_of g6.2) (segF_of g5.2) (secF_of g6.2) hH (u64_of g4) (u64_of g1)
end
end Go.Proofs.Ytcffpnlochillaa.PvW
end

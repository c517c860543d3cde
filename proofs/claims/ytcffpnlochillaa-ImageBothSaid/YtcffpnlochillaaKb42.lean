/- A heap of plain values, walks over it, and functions of the program met by them: no statement of the set is proved in this text. -/
import Derived.Test.YtcffpnlochillaaKb41
set_option linter.unusedVariables false
set_option linter.unusedSimpArgs false
set_option maxRecDepth 100000
set_option maxHeartbeats 4000000
section
namespace Go.Proofs.Ytcffpnlochillaa.PvW
open Go.RowKit Go.Proofs.Ytcffpnlochillaa.Cd Go.Proofs.Ytcffpnlochillaa.AbP Go.Proofs.Ytcffpnlochillaa.Num Go.Proofs.Ytcffpnlochillaa.Pv
structure HdrN (o ab ty ma fl:Int):Prop where
  o:0≤o∧o≤255
  ab:0≤ab∧ab≤255
  ty:0≤ty∧ty≤65535
  ma:0≤ma∧ma≤65535
  fl:0≤fl∧fl≤4294967295
section
variable {w big:Bool} {o ab ty ma en fl st:Int} {segs:List dSeg.T} {secs:List dSec.T}
theorem nam_st (ok:ModelOk w en segs secs st):0≤st∧st≤secs.length:=by
  have hn:=ok.nam
  unfold namesC at hn
  by_cases h:st < 0∨(secs.length:Int) < st
  · rw [if_pos h] at hn;cases hn
  · omega
theorem all4 {l:List Int} {p:Int→Bool} (h:l.all p=true):∀ x ∈ l,p x=true:=List.all_eq_true.1 h
theorem segs_fit (ok:ModelOk w en segs secs st) {s:dSeg.T} (hs:s ∈ segs):∀ x ∈ ([s.2.2.1,s.2.2.2.1,s.2.2.2.2.1,s.2.2.2.2.2.1]:List Int),fitW w x=true:=by
  have h:=ok.fits
  unfold fitsM at h
  simp only [Bool.and_eq_true] at h
  exact all4 (List.all_eq_true.1 h.1.2 s hs)
theorem secs_fit (ok:ModelOk w en segs secs st) {s:dSec.T} (hs:s ∈ secs):∀ x ∈ ([s.2.2.1,s.2.2.2.1,s.2.2.2.2.1,s.2.2.2.2.2.2.2.1,s.2.2.2.2.2.2.2.2.1]:List Int),fitW w x=true:=by
  have h:=ok.fits
  unfold fitsM at h
  simp only [Bool.and_eq_true] at h
  exact all4 (List.all_eq_true.1 h.2 s hs)
theorem en_fit (ok:ModelOk w en segs secs st):fitW w en=true:=by
  have h:=ok.fits
  unfold fitsM at h
  simp only [Bool.and_eq_true] at h
  simpa using h.1.1
theorem row_seg (ok:ModelOk w en segs secs st) (hG:SegsN segs) (hGF:SegsF segs) (po:PlanOk w segs secs) {i:Nat} {s:dSeg.T} (hs:segs[i]? = some s) :
    rowOk (progX w (s,(planV w segs secs).S.getD i 0))=true∧(∀ q ∈ progX w (s,(planV w segs secs).S.getD i 0),0≤q.1)∧progG w ((progX w (s,(planV w segs secs).S.getD i 0)).map (·.1))=(s.1,s.2.1,(planV w segs secs).S.getD i 0,s.2.2.1,s.2.2.2.1,s.2.2.2.2.2.2.1.2.2.1,s.2.2.2.2.1,s.2.2.2.2.2.1,PUnit.unit):=by
  have hm:=List.mem_of_getElem? hs
  have hp:=segG_place ok hG po hs
  have hz:=po.size
  have g:=hG s hm
  have f:=segs_fit ok hm
  unfold progX
  refine progG_row ⟨g.ty,hGF s hm,by omega,g.va,g.pa,g.sz,g.me,g.al⟩ (fun e=>?_)
  subst e
  have f1:=fit_narrow (f _ (by simp)) g.va.1
  have f2:=fit_narrow (f s.2.2.2.1 (by simp)) g.pa.1
  have f3:=fit_narrow (f s.2.2.2.2.1 (by simp)) g.me.1
  have f4:=fit_narrow (f s.2.2.2.2.2.1 (by simp)) g.al.1
  exact ⟨by omega,f1,f2,by show sizG s≤_;omega,f3,f4⟩
theorem row_sec (ok:ModelOk w en segs secs st) (hG:SegsN segs) (hN:SecsN secs) (hNF:SecsF secs) (po:PlanOk w segs secs) {i:Nat} {s:dSec.T} (hs:secs[i]? = some s) :
    rowOk (sectX w (s,(planV w segs secs).T.getD i 0))=true∧(∀ q ∈ sectX w (s,(planV w segs secs).T.getD i 0),0≤q.1)∧sectG ((sectX w (s,(planV w segs secs).T.getD i 0)).map (·.1))=(s.1,s.2.1,s.2.2.1,s.2.2.2.1,(planV w segs secs).T.getD i 0,s.2.2.2.2.1,s.2.2.2.2.2.1,s.2.2.2.2.2.2.1,s.2.2.2.2.2.2.2.1,s.2.2.2.2.2.2.2.2.1,PUnit.unit):=by
  have hm:=List.mem_of_getElem? hs
  have hp:=secC_place ok hG hN po hs
  have hz:=po.size
  have g:=hN s hm
  have f:=secs_fit ok hm
  unfold sectX
  refine sectG_row ⟨g.nm,g.ty,g.fl,g.ad,by omega,g.si,g.li,hNF s hm,g.al,g.en⟩ (fun e=>?_)
  subst e
  have f1:=fit_narrow (f s.2.2.1 (by simp)) g.fl.1
  have f2:=fit_narrow (f s.2.2.2.1 (by simp)) g.ad.1
  have f3:=fit_narrow (f s.2.2.2.2.1 (by simp)) g.si.1
  have f4:=fit_narrow (f s.2.2.2.2.2.2.2.1 (by simp)) g.al.1
  have f5:=fit_narrow (f s.2.2.2.2.2.2.2.2.1 (by simp)) g.en.1
  exact ⟨f1,f2,by omega,f3,f4,f5⟩

theorem load_enc (ok:ModelOk w en segs secs st) (hG:SegsN segs) (hGF:SegsF segs) (po:PlanOk w segs secs) (rest:List Int) {i:Nat} {s:dSeg.T} (hs:segs[i]? = some s) :
    loadAt (encB w big o ab ty ma en fl st segs secs++rest) w big (planV w segs secs).ph i=(s.1,s.2.1,(planV w segs secs).S.getD i 0,s.2.2.1,s.2.2.2.1,s.2.2.2.2.2.2.1.2.2.1,s.2.2.2.2.1,s.2.2.2.2.2.1,PUnit.unit):=by
  obtain ⟨r1,r2,r3⟩:=row_seg ok hG hGF po hs
  have hb:=po.bytes ((planV w segs secs).ph,psz w * segs.length) (by simp)
  have hl:=encB_len (big:=big) (o:=o) (ab:=ab) (ty:=ty) (ma:=ma) (fl:=fl) ok po
  have hsp:=seg_split (encB_seg (big:=big) (o:=o) (ab:=ab) (ty:=ty) (ma:=ma) (fl:=fl) ok po rest (p:=((planV w segs secs).ph.toNat,progsB w big (planV w segs secs).S segs)) (by unfold encPc;simp))
  have hpl:=progsB_len (w:=w) (big:=big) po.lS
  unfold loadAt
  have hz:=po.size
  have hw0:0≤psz w * (segs.length:Int):=hb.2.1
  have hb0:0≤(planV w segs secs).ph:=hb.1
  have hb2:(planV w segs secs).ph+psz w * segs.length≤(planV w segs secs).sz:=hb.2.2
  generalize hE:encB w big o ab ty ma en fl st segs secs=E at *
  have htl:(((E++rest).take (planV w segs secs).ph.toNat).length:Int)=(planV w segs secs).ph:=by
    rw [List.length_take,List.length_append]
    omega
  have hg:=rec_gets (big:=big) (P:=progX w) (progW_wide w) (progX_snd w) (zip_at po.lS hs) r1 r2 ((E++rest).take (planV w segs secs).ph.toNat) (((E++rest).drop (planV w segs secs).ph.toNat).drop (progsB w big (planV w segs secs).S segs).length)
  rw [htl,progW_sum] at hg
  have hg':gets (E++rest) big ((planV w segs secs).ph+i * psz w) (progW w)=(progX w (s,(planV w segs secs).S.getD i 0)).map (·.1):=by
    conv=>lhs;rw [hsp]
    exact hg
  rw [hg',r3]
theorem sec_enc (ok:ModelOk w en segs secs st) (hG:SegsN segs) (hN:SecsN secs) (hNF:SecsF secs) (po:PlanOk w segs secs) (rest:List Int) {i:Nat} {s:dSec.T} (hs:secs[i]? = some s) :
    secAt (encB w big o ab ty ma en fl st segs secs++rest) w big (planV w segs secs).sh (i+1)=(s.1,s.2.1,s.2.2.1,s.2.2.2.1,(planV w segs secs).T.getD i 0,s.2.2.2.2.1,s.2.2.2.2.2.1,s.2.2.2.2.2.2.1,s.2.2.2.2.2.2.2.1,s.2.2.2.2.2.2.2.2.1,PUnit.unit):=by
  have hne:¬ secs.length=0:=by have:=(List.getElem?_eq_some_iff.1 hs).1;omega
  obtain ⟨r1,r2,r3⟩:=row_sec ok hG hN hNF po hs
  have hb:=po.bytes ((planV w segs secs).sh,ssz w * (secs.length+1)) (by rw [if_neg hne];simp)
  have hl:=encB_len (big:=big) (o:=o) (ab:=ab) (ty:=ty) (ma:=ma) (fl:=fl) ok po
  have hsp:=seg_split (encB_seg (big:=big) (o:=o) (ab:=ab) (ty:=ty) (ma:=ma) (fl:=fl) ok po rest (p:=((planV w segs secs).sh.toNat,sectsB w big (planV w segs secs).T secs)) (by unfold encPc;rw [if_neg hne];simp))
  have hpl:=sectsB_len (w:=w) (big:=big) po.lT
  unfold secAt
  have hz:=po.size
  have hw0:0≤ssz w * ((secs.length:Int)+1):=hb.2.1
  have hb0:0≤(planV w segs secs).sh:=hb.1
  have hb2:(planV w segs secs).sh+ssz w * (secs.length+1)≤(planV w segs secs).sz:=hb.2.2
  generalize hE:encB w big o ab ty ma en fl st segs secs=E at *
  have hzl:((zrow w).length:Int)=ssz w:=by rw [zrow_len];cases w <;> rfl
  have htl:((((E++rest).take (planV w segs secs).sh.toNat)++zrow w).length:Int)=(planV w segs secs).sh+ssz w:=by
    rw [List.length_append,List.length_take,List.length_append]
    push_cast
    rw [hzl]
    omega
  have hg:=rec_gets (big:=big) (P:=sectX w) (secW_wide w) (sectX_snd w) (zip_at po.lT hs) r1 r2 (((E++rest).take (planV w segs secs).sh.toNat)++zrow w) (((E++rest).drop (planV w segs secs).sh.toNat).drop (sectsB w big (planV w segs secs).T secs).length)
  rw [htl,secW_sum] at hg
  have hg':gets (E++rest) big ((planV w segs secs).sh+((i+1:Nat):Int) * ssz w) (secW w)=(sectX w (s,(planV w segs secs).T.getD i 0)).map (·.1):=by
    have e:(planV w segs secs).sh+((i+1:Nat):Int) * ssz w=(planV w segs secs).sh+ssz w+i * (if w=true then 64 else 40):=by
      push_cast
      rw [Int.add_mul,Int.one_mul]
      show _+(_+ssz w)=_+ssz w+i * ssz w
      omega
    rw [e]
    conv=>lhs;rw [hsp]
    rw [← hg]
    unfold sectsB
    simp only [List.append_assoc]
  rw [hg',r3]
theorem loads_enc (ok:ModelOk w en segs secs st) (hG:SegsN segs) (hGF:SegsF segs) (po:PlanOk w segs secs) (rest:List Int) :
    loadsP (encB w big o ab ty ma en fl st segs secs++rest) w big (planV w segs secs).ph segs.length=LD (planV w segs secs).S segs:=by
  refine List.ext_getElem? fun i=>?_
  unfold loadsP
  by_cases hi:i < segs.length
  · have hs:segs[i]? = some segs[i]:=List.getElem?_eq_getElem hi
    rw [List.getElem?_map,List.getElem?_range hi,LD_at po.lS hs]
    show some _=_
    rw [load_enc ok hG hGF po rest hs]
  · rw [List.getElem?_eq_none (by rw [List.length_map,List.length_range];omega),List.getElem?_eq_none (by rw [LD_len po.lS];omega)]
theorem segs_enc (ok:ModelOk w en segs secs st) (hG:SegsN segs) (po:PlanOk w segs secs) (rest:List Int) :
    segsP (encB w big o ab ty ma en fl st segs secs++rest) (LD (planV w segs secs).S segs)=segs:=by
  refine List.ext_getElem? fun i=>?_
  unfold segsP
  by_cases hi:i < segs.length
  · have hs:segs[i]? = some segs[i]:=List.getElem?_eq_getElem hi
    rw [List.getElem?_map,LD_at po.lS hs,hs]
    show some (segOf _ _ _)=some _
    unfold segOf
    rw [seg_found ok hG po rest hs]
    rfl
  · rw [List.getElem?_eq_none (by rw [List.length_map,LD_len po.lS];omega),List.getElem?_eq_none (by omega)]
theorem secs_enc (ok:ModelOk w en segs secs st) (hG:SegsN segs) (hN:SecsN secs) (hNF:SecsF secs) (po:PlanOk w segs secs) (rest:List Int) :
    secsP (encB w big o ab ty ma en fl st segs secs++rest) w big (planV w segs secs).sh (LD (planV w segs secs).S segs) st secs.length=secs:=by
  refine List.ext_getElem? fun i=>?_
  unfold secsP
  by_cases hi:i < secs.length
  · have hs:secs[i]? = some secs[i]:=List.getElem?_eq_getElem hi
    rw [List.getElem?_map,List.getElem?_range hi,hs]
    show some (secOf _ _ _ _ _)=some _
    rw [sec_enc ok hG hN hNF po rest hs]
    unfold secOf
    rw [sec_found ok hG hN po rest hs]
    rfl
  · rw [List.getElem?_eq_none (by rw [List.length_map,List.length_range];omega),List.getElem?_eq_none (by omega)]
theorem enc_headN (ok:ModelOk w en segs secs st) (po:PlanOk w segs secs) (hH:HdrN o ab ty ma fl) (he:U64 en):HeadN o ab ty ma en (planV w segs secs).ph (planV w segs secs).sh fl segs.length (shN secs) st∧headOk w en (planV w segs secs).ph (planV w segs secs).sh=true∧(secs.length=0→(planV w segs secs).sh=0)∧(¬ secs.length=0→52≤(planV w segs secs).sh)∧0≤(planV w segs secs).ph∧(planV w segs secs).ph+psz w * segs.length≤(planV w segs secs).sz∧(planV w segs secs).sh≤65536:=by
  have hz:=po.size
  have hb:=po.bytes ((planV w segs secs).ph,psz w * segs.length) (by simp)
  have hb0:0≤(planV w segs secs).ph:=hb.1
  have hb1:0≤psz w * (segs.length:Int):=hb.2.1
  have hb2:(planV w segs secs).ph+psz w * segs.length≤(planV w segs secs).sz:=hb.2.2
  have hst:=nam_st ok
  have l16:=ok.l16
  have l64:=ok.l64
  have h0:secs.length=0→(planV w segs secs).sh=0:=fun h=>if_pos h
  have h1:¬ secs.length=0→52≤(planV w segs secs).sh∧(planV w segs secs).sh≤65536:=fun h=>by
    have hs:=po.bytes ((planV w segs secs).sh,ssz w * (secs.length+1)) (by rw [if_neg h];simp)
    have ha:=(List.pairwise_append.1 (List.pairwise_append.1 (List.pairwise_append.1 po.apart).1).1).2.2 (0,hsz w) (by simp) ((planV w segs secs).sh,ssz w * (secs.length+1)) (by rw [if_neg h];simp)
    have hh:52≤hsz w:=by cases w <;> decide
    have hs1:40≤ssz w:=by cases w <;> decide
    have hs2:0 < ssz w * ((secs.length:Int)+1):=Int.mul_pos (by omega) (by omega)
    unfold dis at ha
    dsimp only at hs ha
    omega
  have h2:0≤(planV w segs secs).sh∧(planV w segs secs).sh≤65536:=by
    by_cases h:secs.length=0
    · rw [h0 h];decide
    · have:=h1 h;omega
  have hsn:0≤shN secs∧shN secs≤65:=by unfold shN;split <;> omega
  refine ⟨⟨hH.o,hH.ab,hH.ty,hH.ma,he,⟨hb0,by omega⟩,⟨h2.1,by omega⟩,hH.fl,by omega,by omega,by omega⟩,?_,h0,fun h=>(h1 h).1,hb0,hb2,h2.2⟩
  have f:∀ x:Int,0≤x→x≤65536→fitsB x (wd w)=true:=fun x h1 h2=>fitsW ⟨h1,by omega⟩ (fun _=>by omega)
  unfold headOk
  rw [f _ hb0 (by omega),f _ h2.1 h2.2]
  have hen:=en_fit ok
  unfold fitW at hen
  show (fitsB en (if w=true then 8 else 4) && true && true)=true
  rw [hen];rfl
theorem enc_split (ok:ModelOk w en segs secs st) (po:PlanOk w segs secs) (rest:List Int):∃ X,encB w big o ab ty ma en fl st segs secs++rest=encH w big o ab ty ma en fl st segs secs++X:=by
  have hsp:=seg_split (encB_seg (big:=big) (o:=o) (ab:=ab) (ty:=ty) (ma:=ma) (fl:=fl) ok po rest (p:=(0,encH w big o ab ty ma en fl st segs secs)) (by unfold encPc;simp))
  exact ⟨_,hsp⟩
theorem parse_enc (ok:ModelOk w en segs secs st) (hG:SegsN segs) (hN:SecsN secs) (hGF:SegsF segs) (hNF:SecsF secs) (hH:HdrN o ab ty ma fl) (he:U64 en) (hov:(planV w segs secs).ov=false) (rest:List Int) (hlen:(planV w segs secs).sz+rest.length≤65536) :
    headBad (encB w big o ab ty ma en fl st segs secs++rest)=none∧hdW (encB w big o ab ty ma en fl st segs secs++rest)=w∧hdB (encB w big o ab ty ma en fl st segs secs++rest)=big∧(encB w big o ab ty ma en fl st segs secs++rest).getD 7 0=o∧(encB w big o ab ty ma en fl st segs secs++rest).getD 8 0=ab ∧
    hdV (encB w big o ab ty ma en fl st segs secs++rest)=[ty,ma,1,en,(planV w segs secs).ph,(planV w segs secs).sh,fl,hsz w,if decide ((0:Int) < (segs.length:Int))=true then hpr w else 0,(segs.length:Int),if decide (0 < (planV w segs secs).sh)=true then hsc w else 0,shN secs,st] ∧
    parseP (encB w big o ab ty ma en fl st segs secs++rest) = .ok segs secs st:=by
  have po:=planOk ok hG hN hov
  obtain ⟨hHN,hHO,hs0,hs1,hp0,hp1,hs2⟩:=enc_headN ok po hH he
  have hz:=po.size
  have hl:=encB_len (big:=big) (o:=o) (ab:=ab) (ty:=ty) (ma:=ma) (fl:=fl) ok po
  obtain ⟨X,hX⟩:=enc_split (big:=big) (o:=o) (ab:=ab) (ty:=ty) (ma:=ma) (fl:=fl) ok po rest
  have hLo:=loads_enc (big:=big) (o:=o) (ab:=ab) (ty:=ty) (ma:=ma) (fl:=fl) ok hG hGF po rest
  have hSg:=segs_enc (big:=big) (o:=o) (ab:=ab) (ty:=ty) (ma:=ma) (fl:=fl) ok hG po rest
  have hSc:=secs_enc (big:=big) (o:=o) (ab:=ab) (ty:=ty) (ma:=ma) (fl:=fl) ok hG hN hNF po rest
  have hLE:∀ i,i < segs.length→loadE (encB w big o ab ty ma en fl st segs secs++rest) w big (planV w segs secs).ph i=none:=fun i hi=>by
    have hs:segs[i]? = some segs[i]:=List.getElem?_eq_getElem hi
    have hpl:=segG_place ok hG po hs
    unfold loadE
    rw [load_enc ok hG hGF po rest hs]
    refine if_neg ?_
    rintro ⟨c1,c2⟩
    have e:withinB ((planV w segs secs).S.getD i 0) (sizG segs[i]) (((encB w big o ab ty ma en fl st segs secs++rest).length:Nat):Int)=true:=by
      rw [List.length_append,hl]
      simp only [withinB,Bool.and_eq_true,decide_eq_true_eq]
      omega
    rw [show withinB ((planV w segs secs).S.getD i 0) (sizG segs[i]) (((encB w big o ab ty ma en fl st segs secs++rest).length:Nat):Int)=false from c2] at e
    cases e
  have hCE:∀ i,i < secs.length→secE (encB w big o ab ty ma en fl st segs secs++rest) w big (planV w segs secs).sh (i+1)=none:=fun i hi=>by
    have hs:secs[i]? = some secs[i]:=List.getElem?_eq_getElem hi
    have hpl:=secC_place ok hG hN po hs
    obtain ⟨-,hsz,-⟩:=secC_zero (ok.sec _ (List.getElem_mem hi))
    unfold secE
    rw [sec_enc ok hG hN hNF po rest hs]
    refine if_neg ?_
    rintro ⟨c1,c2⟩
    have hq:secSz ((secs[i].1,secs[i].2.1,secs[i].2.2.1,secs[i].2.2.2.1,(planV w segs secs).T.getD i 0,secs[i].2.2.2.2.1,secs[i].2.2.2.2.2.1,secs[i].2.2.2.2.2.2.1,secs[i].2.2.2.2.2.2.2.1,secs[i].2.2.2.2.2.2.2.2.1,PUnit.unit):dSectM.T)=sizC secs[i]:=hsz.symm
    rw [hq] at c2
    have e:withinB ((planV w segs secs).T.getD i 0) (sizC secs[i]) (((encB w big o ab ty ma en fl st segs secs++rest).length:Nat):Int)=true:=by
      rw [List.length_append,hl]
      simp only [withinB,Bool.and_eq_true,decide_eq_true_eq]
      omega
    rw [show withinB ((planV w segs secs).T.getD i 0) (sizC secs[i]) (((encB w big o ab ty ma en fl st segs secs++rest).length:Nat):Int)=false from c2] at e
    cases e
  have hlb:(((encB w big o ab ty ma en fl st segs secs++rest).length:Nat):Int)=(planV w segs secs).sz+rest.length:=by
    rw [List.length_append,hl]
    push_cast
    omega
  have hbs:¬ secs.length=0→(planV w segs secs).sh+ssz w * (secs.length+1)≤(planV w segs secs).sz:=fun h=>(po.bytes ((planV w segs secs).sh,ssz w * (secs.length+1)) (by rw [if_neg h];simp)).2.2
  have hHB:headBad (encB w big o ab ty ma en fl st segs secs++rest)=none:=by rw [hX];exact head_back hHN hHO X
  have hW:hdW (encB w big o ab ty ma en fl st segs secs++rest)=w:=by rw [hX];exact head_4 X
  have hBg:hdB (encB w big o ab ty ma en fl st segs secs++rest)=big:=by rw [hX];exact head_5 X
  have hV:hdV (encB w big o ab ty ma en fl st segs secs++rest)=[ty,ma,1,en,(planV w segs secs).ph,(planV w segs secs).sh,fl,hsz w,if decide ((0:Int) < (segs.length:Int))=true then hpr w else 0,(segs.length:Int),if decide (0 < (planV w segs secs).sh)=true then hsc w else 0,shN secs,st]:=by
    unfold hdV
    rw [hW,hBg,hX]
    exact head_gets hHN hHO X
  refine ⟨hHB,hW,hBg,by rw [hX];rfl,by rw [hX];rfl,hV,?_⟩
  unfold parseP
  rw [if_neg (by omega),hHB]
  show bodyP _ _ _ _ _ _ _ _ _=_
  rw [hW,hBg,hV]
  show bodyP _ w big en (planV w segs secs).ph (planV w segs secs).sh segs.length (shN secs) st=_
  generalize encB w big o ab ty ma en fl st segs secs++rest=b at *
  have l16:=ok.l16
  have l64:=ok.l64
  have hst:=nam_st ok
  have hpz:32≤psz w∧psz w≤56:=by cases w <;> decide
  have hsz1:40≤ssz w∧ssz w≤64:=by cases w <;> decide
  have hSC:∃ x,sectionsP b w big (planV w segs secs).sh (shN secs) = .ok (x,shN secs):=by
    unfold sectionsP
    by_cases h:secs.length=0
    · rw [if_pos (hs0 h),if_pos (by unfold shN;rw [if_pos h])]
      exact ⟨sect0,by unfold shN;rw [if_pos h]⟩
    · have e:shN secs=secs.length+1:=if_neg h
      have h1:=hs1 h
      have h2:=hbs h
      rw [Int.mul_add,Int.mul_one] at h2
      have h3:0≤ssz w * (secs.length:Int):=Int.mul_nonneg (by omega) (by omega)
      have hw:withinB (planV w segs secs).sh (((secs.length:Int)+1) * ssz w) b.length=true:=by
        simp only [withinB,Bool.and_eq_true,decide_eq_true_eq]
        rw [Int.add_mul,Int.one_mul,Int.mul_comm (secs.length:Int)]
        omega
      rw [if_neg (by omega),if_pos (by omega)]
      dsimp only
      rw [if_neg (show ¬ shN secs=0 by omega),if_neg (by omega),e,if_pos hw]
      exact ⟨_,rfl⟩
  obtain ⟨x,hx⟩:=hSC
  have hPG:programsP b w (planV w segs secs).ph (planV w segs secs).sh segs.length st x = .ok ((segs.length:Int),st):=by
    unfold programsP
    rw [if_neg (by omega)]
    dsimp only
    rw [if_neg (show ¬ (segs.length:Int)=65535 by omega),if_neg (by omega)]
    have hw:withinB (planV w segs secs).ph ((segs.length:Int) * psz w) b.length=true:=by
      simp only [withinB,Bool.and_eq_true,decide_eq_true_eq]
      rw [Int.mul_comm (segs.length:Int)]
      have h3:0≤psz w * (segs.length:Int):=Int.mul_nonneg (by omega) (by omega)
      omega
    rw [if_neg (by rw [hw];simp),if_neg (by omega),if_neg (by omega)]
  unfold bodyP
  rw [hx]
  dsimp only
  rw [hPG]
  dsimp only
  rw [Int.toNat_natCast,firstE_none hLE]
  dsimp only
  have hsn:(shN secs - 1).toNat=secs.length:=by unfold shN;split <;> omega
  rw [hsn,firstE_none hCE]
  dsimp only
  rw [hLo,hSg,hSc]
  unfold lastP
  rw [if_pos (wrong_ok ok),if_neg (by rw [hov];simp)]
end
end Go.Proofs.Ytcffpnlochillaa.PvW
end

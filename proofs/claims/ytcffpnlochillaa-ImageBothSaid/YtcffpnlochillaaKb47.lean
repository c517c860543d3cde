/- A heap of plain values, walks over it, and functions of the program met by them: no statement of the set is proved in this text. -/
import Derived.Test.YtcffpnlochillaaKb46
set_option linter.unusedVariables false
set_option linter.unusedSimpArgs false
set_option maxRecDepth 100000
set_option maxHeartbeats 4000000
section
namespace Go.Proofs.Ytcffpnlochillaa.PvW
open Go.RowKit Go.Proofs.Ytcffpnlochillaa.Cd Go.Proofs.Ytcffpnlochillaa.AbP Go.Proofs.Ytcffpnlochillaa.Num Go.Proofs.Ytcffpnlochillaa.Pv
section
variable {K:PV→List OB→Prop} {w big:Bool} {o ab ty ma en fl st:Int} {segs:List dSeg.T} {secs:List dSec.T}
theorem enc_spec (he:Om (0≤en∧en≤18446744073709551615)) (hG:SegsN segs) (hN:SecsN secs) (hGF:SegsF segs) (hNF:SecsF secs) (hH:HdrN o ab ty ma fl)
    (hk0:wrongC w en segs secs st≠0→K (.tup [.nilS,eCode (wrongC w en segs secs st)]) [])
    (hk1:wrongC w en segs secs st=0→(planV w segs secs).ov=true→K (.tup [.nilS,eCode 8]) [])
    (hk2:wrongC w en segs secs st=0→(planV w segs secs).ov=false→K (.tup [.sl (.int .u8) (encB w big o ab ty ma en fl st segs secs),.nilI]) []) :
    PCalls Try.prog 6 [.agg [.bool w,.bool big,.int .u8 o,.int .u8 ab,.int .u16 ty,.int .u16 ma,.int .u32 fl,.int .u64 en,.sl dSeg segs,.sl dSec secs,.int .i64 st]] [] K:=by
  have he:=he.o
  refine told_callP file_Encode.told fun Z hZ=>?_
  unfold file_Encode.c
  refine W1 trivial @DD trivial ?_
  refine plan_spec ⟨he⟩ ⟨hG⟩ ⟨hN⟩ (fun h0=>?_) (fun h0 h1=>?_) (fun h0 h1=>?_)
  · have:=hk0 h0
    refine W1 trivial @DD trivial ?_
    exact this
  · have:=hk1 h0 h1
    refine W1 trivial @DD trivial ?_
    exact this
  have hk:=hk2 h0 h1
  clear hk0 hk1 hk2
  have ok:=modelOk h0
  have po:=planOk ok hG hN h1
  obtain ⟨hHN,hHO,hs0,hs1,hp0,hp1,hs2⟩:=enc_headN ok po hH he
  have hst:=nam_st ok
  have l16:=ok.l16
  have l64:=ok.l64
  have hz:=po.size
  have hl:=encB_len (big:=big) (o:=o) (ab:=ab) (ty:=ty) (ma:=ma) (fl:=fl) ok po
  rw [← encL_eq ok hG hN po] at hk
  have hHl:=headB_len (w:=w) (big:=big) (o:=o) (a:=ab) (ty:=ty) (ma:=ma) (en:=en) (po:=(planV w segs secs).ph) (so:=(planV w segs secs).sh) (fl:=fl) (pn:=segs.length) (sn:=shN secs) (st:=st)
  have hhz:52≤hsz w∧hsz w≤64:=by cases w <;> decide
  have hhs:hsz w≤(planV w segs secs).sz:=by
    have:=(po.bytes (0,hsz w) (by simp)).2.2
    dsimp only at this
    omega
  have hPl:=progsB_len (w:=w) (big:=big) (S:=(planV w segs secs).S) po.lS
  have hPE:(planV w segs secs).ph.toNat+(progsB w big (planV w segs secs).S segs).length≤(planV w segs secs).sz.toNat:=by omega
  have hB:∀ sb,sb=(if secs.length=0 then [] else sectsB w big (planV w segs secs).T secs)→(secs.length=0∧sb=[])∨(¬ secs.length=0∧0 < sb.length∧(planV w segs secs).sh.toNat+sb.length≤(planV w segs secs).sz.toNat∧0≤(planV w segs secs).sh):=fun sb hsb=>by
    by_cases h:secs.length=0
    · rw [if_pos h] at hsb
      exact .inl ⟨h,hsb⟩
    · rw [if_neg h] at hsb
      have h2:=po.bytes ((planV w segs secs).sh,ssz w * (secs.length+1)) (by rw [if_neg h];simp)
      have h3:=sectsB_len (w:=w) (big:=big) po.lT
      have h4:40≤ssz w:=by cases w <;> decide
      have h5:0 < ssz w * ((secs.length:Int)+1):=Int.mul_pos (by omega) (by omega)
      rw [← hsb] at h3
      dsimp only at h2
      exact .inr ⟨h,by omega,by omega,h2.1⟩
  have fG:∀ {i:Nat} {s:dSeg.T},segs[i]? = some s→((planV w segs secs).S.getD i 0).toNat+(bodyG s).length≤(planV w segs secs).sz.toNat∧0≤(planV w segs secs).S.getD i 0:=fun {i s} hs=>segB_place ok hG po hs
  have fC:∀ {i:Nat} {s:dSec.T},secs[i]? = some s→((planV w segs secs).T.getD i 0).toNat+(bodyC s).length≤(planV w segs secs).sz.toNat∧0≤(planV w segs secs).T.getD i 0:=fun {i s} hs=>secB_place ok hG hN po hs
  have lS:=po.lS
  have lT:=po.lT
  show Aft _ _ _ _ _ _ _ _ (.tup [.agg [.int .u64 (planV w segs secs).ph,.int .u64 (planV w segs secs).sh,.int .u64 (planV w segs secs).sz,.sl (.int .u64) (planV w segs secs).S,.sl (.int .u64) (planV w segs secs).T],.nilI]) _
  refine W1 trivial @DD trivial ?_
  refine fheader_spec ⟨by omega⟩ ?_
  refine W1 trivial @DD trivial ?_
  refine hput_spec ⟨hHN⟩ (fun _=>?_) (fun h=>absurd h (by rw [hHO];simp))
  unfold encL encH at hk
  generalize hHe:headB w big o ab ty ma en (planV w segs secs).ph (planV w segs secs).sh fl segs.length (shN secs) st=H at *
  have hHz:H.length≤(planV w segs secs).sz.toNat:=by omega
  clear hHe
  refine W1 trivial @DD trivial ?_
  refine ftables_spec ok hG hN hGF hNF po rfl rfl (fun sb hsb=>?_)
  have hBs:=hB sb hsb
  clear hB
  have hk:K (.tup [.sl (.int .u8) (lays (List.replicate (planV w segs secs).sz.toNat 0) ([(0,H),((planV w segs secs).ph.toNat,progsB w big (planV w segs secs).S segs)]++pcsG (planV w segs secs).S segs++pcsC (planV w segs secs).T secs++(if secs.length=0 then [] else [((planV w segs secs).sh.toNat,sb)]))),.nilI]) []:=by
    by_cases h:secs.length=0
    · rw [if_pos h] at hk ⊢
      exact hk
    · rw [if_neg h] at hk ⊢
      rw [if_neg h] at hsb
      rw [hsb]
      exact hk
  clear hsb hHN hHO hs0 hs1 hp1 hs2 hl hHl hhs hPl ok po h0 h1
  generalize progsB w big (planV w segs secs).S segs=PB at *
  generalize (planV w segs secs).ph=ph at *
  generalize (planV w segs secs).sh=sh at *
  generalize (planV w segs secs).sz=sz at *
  generalize (planV w segs secs).S=S at *
  generalize (planV w segs secs).T=T at *
  have hrl:(List.replicate sz.toNat (0:Int)).length=sz.toNat:=List.length_replicate
  refine W1 trivial @DD trivial ?_
  have e0:ovl (List.replicate sz.toNat 0) 0 H=H++List.drop H.length (List.replicate sz.toNat 0):=by
    unfold ovl
    rw [Nat.zero_add]
    rfl
  have hX1:(H++List.drop H.length (List.replicate sz.toNat (0:Int))).length=sz.toNat:=by rw [← e0,ovl_len (by omega),hrl]
  have hX2:(ovl (H++List.drop H.length (List.replicate sz.toNat 0)) ph.toNat PB).length=sz.toNat:=by rw [ovl_len (by omega),hX1]
  have hkE:lays (List.replicate sz.toNat 0) ([(0,H),(ph.toNat,PB)]++pcsG S segs++pcsC T secs++(if secs.length=0 then [] else [(sh.toNat,sb)]))=lays (lays (lays (ovl (H++List.drop H.length (List.replicate sz.toNat 0)) ph.toNat PB) (pcsG S segs)) (pcsC T secs)) (if secs.length=0 then [] else [(sh.toNat,sb)]):=by
    rw [lays_app,lays_app,lays_app,← e0]
    rfl
  rw [hkE] at hk
  clear hkE e0
  refine ps_cut (fun e s=>s=[.var [.bool w,.bool big,.int .u8 o,.int .u8 ab,.int .u16 ty,.int .u16 ma,.int .u32 fl,.int .u64 en,.sl dSeg segs,.sl dSec secs,.int .i64 st],.var [.int .u64 ph,.int .u64 sh,.int .u64 sz,.sl (.int .u64) S,.sl (.int .u64) T],.arr (.int .u8) H,.arr (.int .u8) PB,.arr (.int .u8) sb,.arr (.int .u8) (ovl (H++List.drop H.length (List.replicate sz.toNat 0)) ph.toNat PB)]∧e 1 = .ptr 0 0∧e 4 = .ptr 1 0∧e 8 = .osl 4 sb.length∧e 9 = .osl 5 sz.toNat) (fun h=>?_) (fun h=>?_) ?_
  · refine W1 trivial @DD trivial ?_
    exact ⟨_,_,Gh.sel [0,1,2,3,4,5] (by decide) (hz0 hZ),rfl,by exact lk trivial,by exact lk trivial,by exact lk trivial,by exact lk trivial⟩
  · have hn:PB=[]:=List.eq_nil_of_length_eq_zero (by have:=of_decide_eq_false h;omega)
    rw [hn,ovl_nil (by omega)]
    refine W1 trivial @DD trivial ?_
    exact ⟨_,_,Gh.sel [0,1,2,3,4,5] (by decide) (hz0 hZ),rfl,by exact lk trivial,by exact lk trivial,by exact lk trivial,by exact lk trivial⟩
  generalize ovl (H++List.drop H.length (List.replicate sz.toNat 0)) ph.toNat PB=X at *
  clear hX1 hrl
  rintro e s ⟨rfl,e1,e4,e8,e9⟩
  have lG:∀ i,(lays X ((pcsG S segs).take i)).length=sz.toNat:=fun i=>by
    rw [lays_len,hX2]
    intro p hp
    obtain ⟨j,hj⟩:=List.getElem?_of_mem (List.mem_of_mem_take hp)
    have hlt:=(List.getElem?_eq_some_iff.1 hj).1
    rw [pcsG_len lS] at hlt
    have hs:segs[j]? = some segs[j]:=List.getElem?_eq_getElem hlt
    rw [pcsG_at lS hs] at hj
    rw [hX2,← Option.some.inj hj]
    exact (fG hs).1
  refine W1 (And.intro @e1 (And.intro @e4 (And.intro @e8 @e9))) @DD trivial ?_
  refine w_lpG (fun q e s=>∃ i:Nat,q+i=segs.length∧s=[.var [.bool w,.bool big,.int .u8 o,.int .u8 ab,.int .u16 ty,.int .u16 ma,.int .u32 fl,.int .u64 en,.sl dSeg segs,.sl dSec secs,.int .i64 st],.var [.int .u64 ph,.int .u64 sh,.int .u64 sz,.sl (.int .u64) S,.sl (.int .u64) T],.arr (.int .u8) H,.arr (.int .u8) PB,.arr (.int .u8) sb,.arr (.int .u8) (lays X ((pcsG S segs).take i))]∧e 1 = .ptr 0 0∧e 4 = .ptr 1 0∧e 8 = .osl 4 sb.length∧e 9 = .osl 5 sz.toNat∧e 58 = .sl dSeg segs∧e 59 = .int .i64 segs.length∧e 60 = .int .i64 i) segs.length ?_ ?_
  · exact ⟨0,rfl,rfl,by exact lk @e1,by exact lk @e4,by exact lk @e8,by exact lk @e9,by exact lk trivial,by exact lk trivial,by exact lk trivial⟩
  clear e1 e4 e8 e9
  rintro q e s ⟨i,hi,rfl,e1,e4,e8,e9,e58,e59,e60⟩
  by_cases hq:i < segs.length
  · obtain ⟨x,hx⟩:∃ x,segs[i]? = some x:=⟨segs[i],List.getElem?_eq_getElem hq⟩
    have hf:=fG hx
    have hsn:=lays_snoc (b:=X) (pcsG_at lS hx)
    have hll:=lG i
    generalize lays X ((pcsG S segs).take i)=L at *
    obtain ⟨sty,sfl,sva,spa,sme,sal,⟨si,so,sz',sown,u⟩,u2⟩:=x
    have hf:(S.getD i 0).toNat+sown.length≤sz.toNat∧0≤S.getD i 0:=hf
    refine W1 (And.intro @e1 (And.intro @e4 (And.intro @e8 (And.intro @e9 (And.intro @e58 (And.intro @e59 @e60)))))) @DD trivial ?_
    exact ⟨q - 1,by omega,_,_,Gh.sel [0,1,2,3,4,5] (by decide) (hz0 hZ),i+1,by omega,by rw [hsn];rfl,by exact lk @e1,by exact lk @e4,by exact lk @e8,by exact lk @e9,by exact lk @e58,by exact lk @e59,by exact lk @e60⟩
  obtain rfl:i=segs.length:=by omega
  have hY:=lG segs.length
  rw [List.take_of_length_le (by rw [pcsG_len lS];omega)] at hY ⊢
  clear lG fG
  generalize lays X (pcsG S segs)=Y at *
  clear hX2
  have lC:∀ i,(lays Y ((pcsC T secs).take i)).length=sz.toNat:=fun i=>by
    rw [lays_len,hY]
    intro p hp
    obtain ⟨j,hj⟩:=List.getElem?_of_mem (List.mem_of_mem_take hp)
    have hlt:=(List.getElem?_eq_some_iff.1 hj).1
    rw [pcsC_len lT] at hlt
    have hs:secs[j]? = some secs[j]:=List.getElem?_eq_getElem hlt
    rw [pcsC_at lT hs] at hj
    rw [hY,← Option.some.inj hj]
    exact (fC hs).1
  refine W1 (And.intro @e1 (And.intro @e4 (And.intro @e8 (And.intro @e9 (And.intro @e58 (And.intro @e59 @e60)))))) @DD trivial ?_
  refine w_lpG (fun q e s=>∃ i:Nat,q+i=secs.length∧s=[.var [.bool w,.bool big,.int .u8 o,.int .u8 ab,.int .u16 ty,.int .u16 ma,.int .u32 fl,.int .u64 en,.sl dSeg segs,.sl dSec secs,.int .i64 st],.var [.int .u64 ph,.int .u64 sh,.int .u64 sz,.sl (.int .u64) S,.sl (.int .u64) T],.arr (.int .u8) H,.arr (.int .u8) PB,.arr (.int .u8) sb,.arr (.int .u8) (lays Y ((pcsC T secs).take i))]∧e 1 = .ptr 0 0∧e 4 = .ptr 1 0∧e 8 = .osl 4 sb.length∧e 9 = .osl 5 sz.toNat∧e 78 = .sl dSec secs∧e 79 = .int .i64 secs.length∧e 80 = .int .i64 i) secs.length ?_ ?_
  · exact ⟨0,rfl,rfl,by exact lk @e1,by exact lk @e4,by exact lk @e8,by exact lk @e9,by exact lk trivial,by exact lk trivial,by exact lk trivial⟩
  clear e1 e4 e8 e9 e58 e59 e60
  rintro q e s ⟨i,hi,rfl,e1,e4,e8,e9,e78,e79,e80⟩
  by_cases hq:i < secs.length
  · obtain ⟨x,hx⟩:∃ x,secs[i]? = some x:=⟨secs[i],List.getElem?_eq_getElem hq⟩
    have hf:=fC hx
    have hsn:=lays_snoc (b:=Y) (pcsC_at lT hx)
    have hll:=lC i
    generalize lays Y ((pcsC T secs).take i)=L at *
    obtain ⟨nm,sty,sfl,sad,ssi,sli,ssf,sal,sen,⟨si,so,sz',sown,u⟩,u2⟩:=x
    have hf:(T.getD i 0).toNat+sown.length≤sz.toNat∧0≤T.getD i 0:=hf
    refine W1 (And.intro @e1 (And.intro @e4 (And.intro @e8 (And.intro @e9 (And.intro @e78 (And.intro @e79 @e80)))))) @DD trivial ?_
    exact ⟨q - 1,by omega,_,_,Gh.sel [0,1,2,3,4,5] (by decide) (hz0 hZ),i+1,by omega,by rw [hsn];rfl,by exact lk @e1,by exact lk @e4,by exact lk @e8,by exact lk @e9,by exact lk @e78,by exact lk @e79,by exact lk @e80⟩
  obtain rfl:i=secs.length:=by omega
  have hZ2:=lC secs.length
  rw [List.take_of_length_le (by rw [pcsC_len lT];omega)] at hZ2 ⊢
  clear lC fC
  generalize lays Y (pcsC T secs)=V at *
  clear hY
  rcases hBs with ⟨hn,hsn⟩ | ⟨hn,hb0,hb1,hb2⟩
  · rw [if_pos hn] at hk
    have hsl:sb.length=0:=by rw [hsn];rfl
    have hk:K (.tup [.sl (.int .u8) V,.nilI]) []:=hk
    refine Wn1 (And.intro @e1 (And.intro @e4 (And.intro @e8 (And.intro @e9 (And.intro @e78 (And.intro @e79 @e80)))))) @DD trivial ?_
    apply x_frz 2;(repeat any_goals first | exact mp_z | apply mp_s | exact rs_z | apply rs_t | apply rs_n | apply rs_c);(repeat any_goals first | (apply Lk.i;(simp only [↓LL,↓reduceIte,Nat.reduceEqDiff];(try rfl);done)) | (apply Rf.i;first | rfl | assumption) | (apply Vl.i;((try simp (disch:=omega) only [VV,↓reduceIte,peqI,encP]);(try rfl);done)) | (apply Am.i;assumption) | (apply Pu.i;((try simp only [↓reduceIte,UU,RR,Nat.reduceAdd,Nat.reduceEqDiff,cellsP,putP,fillQ,flatQ,shP,sh1,encP]);(try rfl);done)) | (apply Om.i;((try simp only [MM]);(try omega);done)) | (apply Vw.i;exact VwA));(all_goals fail_if_success apply Mk.i)
    refine W1 trivial trivial trivial ?_
    exact hk
  · rw [if_neg hn] at hk
    have hk:K (.tup [.sl (.int .u8) (List.take sh.toNat V++(sb++List.drop (sh.toNat+sb.length) V)),.nilI]) []:=hk
    refine Wn1 (And.intro @e1 (And.intro @e4 (And.intro @e8 (And.intro @e9 (And.intro @e78 (And.intro @e79 @e80)))))) @DD trivial ?_
    apply x_frz 2;(repeat any_goals first | exact mp_z | apply mp_s | exact rs_z | apply rs_t | apply rs_n | apply rs_c);(repeat any_goals first | (apply Lk.i;(simp only [↓LL,↓reduceIte,Nat.reduceEqDiff];(try rfl);done)) | (apply Rf.i;first | rfl | assumption) | (apply Vl.i;((try simp (disch:=omega) only [VV,↓reduceIte,peqI,encP]);(try rfl);done)) | (apply Am.i;assumption) | (apply Pu.i;((try simp only [↓reduceIte,UU,RR,Nat.reduceAdd,Nat.reduceEqDiff,cellsP,putP,fillQ,flatQ,shP,sh1,encP]);(try rfl);done)) | (apply Om.i;((try simp only [MM]);(try omega);done)) | (apply Vw.i;exact VwA));(all_goals fail_if_success apply Mk.i)
    refine W1 trivial trivial trivial ?_
    exact hk
end
end Go.Proofs.Ytcffpnlochillaa.PvW
end

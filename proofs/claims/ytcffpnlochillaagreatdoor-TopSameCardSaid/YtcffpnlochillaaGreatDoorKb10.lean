/- A heap of plain values, walks over it, and functions of the program met by them: no statement of the set is proved in this text. -/
import Derived.Test.YtcffpnlochillaaGreatDoorKb09
set_option linter.unusedVariables false
set_option linter.unusedSimpArgs false
set_option maxRecDepth 100000
set_option maxHeartbeats 4000000
section
namespace Go.Proofs.YtcffpnlochillaaGreatDoor.PvW
open Go.RowKit Go.Proofs.YtcffpnlochillaaGreatDoor.Cd Go.Proofs.YtcffpnlochillaaGreatDoor.AbP Go.Proofs.YtcffpnlochillaaGreatDoor.Num Go.Proofs.YtcffpnlochillaaGreatDoor.Pv
def fitW (w:Bool) (v:Int):Bool:=fitsB v (if w=true then 8 else 4)
section
variable {K:PV→List OB→Prop} {w big:Bool} {o ab ty ma fl en st:Int} {segs:List dSeg.T} {secs:List dSec.T}
theorem mword_spec (hk:K (.int .i64 (if w=true then 8 else 4)) []):PCalls Tryz.prog 162 [.agg [.bool w,.bool big]] [] K:=by
  refine told_callP model_word.told fun Z hZ=>?_
  unfold model_word.c
  cases w
  · refine W1 trivial @DD trivial ?_
    exact hk
  · refine W1 trivial @DD trivial ?_
    exact hk
theorem fit1_spec {v:Int} (hv:Om (0≤v∧v≤18446744073709551615)) (hk:K (.bool (!fitW w v)) [.var [.bool w,.bool big]]):PCalls Tryz.prog 161 [.int .u64 v,.ptr 0 0] [.var [.bool w,.bool big]] K:=by
  have hv:=hv.o
  refine told_call model_fit_1.told fun Z hZ=>?_
  unfold model_fit_1.c
  unfold fitW at hk
  refine W1 trivial @DD (And.intro @mword_spec @fits_spec) ?_
  exact ⟨_,rfl,hk⟩
theorem fit1_ok {v:Int} (hf:fitW w v=true) (hv:Om (0≤v∧v≤18446744073709551615)) (hk:K (.bool false) [.var [.bool w,.bool big]]):PCalls Tryz.prog 161 [.int .u64 v,.ptr 0 0] [.var [.bool w,.bool big]] K:=fit1_spec hv (by rw [hf];exact hk)
theorem fit1_no {v:Int} (hf:fitW w v=false) (hv:Om (0≤v∧v≤18446744073709551615)) (hk:K (.bool true) [.var [.bool w,.bool big]]):PCalls Tryz.prog 161 [.int .u64 v,.ptr 0 0] [.var [.bool w,.bool big]] K:=fit1_spec hv (by rw [hf];exact hk)
theorem findex_spec {l:List Int} (hl:Om (l.length≤1000000)) (hN:∀ x ∈ l,0≤x∧x≤18446744073709551615) (hk1:l.all (fitW w)=true→K (.int .i64 (-1)) [.var [.bool w,.bool big]]) (hk0:¬ l.all (fitW w)=true→∀ i:Nat,K (.int .i64 i) [.var [.bool w,.bool big]]) :
    PCalls Tryz.prog 170 [.sl (.int .u64) l,.fn 161 [] [.ptr 0 0]] [.var [.bool w,.bool big]] K:=by
  have hl:=hl.o
  refine told_call slices_IndexFunc_uint64_uint64.told fun Z hZ=>?_
  unfold slices_IndexFunc_uint64_uint64.c
  refine W1 trivial @DD trivial ?_
  refine w_lp (fun q e s=>s=[.var [.bool w,.bool big]]∧∃ i:Nat,q+i=l.length∧(l.take i).all (fitW w)=true∧e 0 = .sl (.int .u64) l∧e 1 = .fn 161 [] [.ptr 0 0]∧e 7 = .int .i64 l.length∧e 8 = .int .i64 i) l.length ?_ ?_
  · exact ⟨rfl,0,rfl,rfl,by exact lk trivial,by exact lk trivial,by exact lk trivial,by exact lk trivial⟩
  rintro q e s ⟨rfl,i,hi,hall,e0,e1,e7,e8⟩
  by_cases hq:i < l.length
  · obtain ⟨x,hx⟩:∃ x,l[i]? = some x:=⟨l[i],List.getElem?_eq_getElem hq⟩
    have hx0:=hN x (List.mem_of_getElem? hx)
    have hgd:l.getD i 0=x:=by rw [List.getD_eq_getElem?_getD,hx];rfl
    refine W1 (And.intro @e0 (And.intro @e1 (And.intro @e7 @e8))) @DD trivial ?_
    rw [hgd]
    cases hf:fitW w x with
    | true =>
      refine cf_F ⟨rfl⟩ (fit1_ok hf ⟨hx0⟩ ?_)
      have ha:=all_takeS hx hall hf
      refine W1 (And.intro @e0 (And.intro @e1 (And.intro @e7 @e8))) @DD trivial ?_
      exact ⟨q - 1,by omega,rfl,i+1,by omega,ha,by exact lk @e0,by exact lk @e1,by exact lk @e7,by exact lk @e8⟩
    | false =>
      refine cf_F ⟨rfl⟩ (fit1_no hf ⟨hx0⟩ ?_)
      have:=hk0 (all_noS hx hf) i
      refine W1 (And.intro @e0 (And.intro @e1 (And.intro @e7 @e8))) @DD trivial ?_
      exact ⟨_,rfl,this⟩
  · obtain rfl:i=l.length:=by omega
    rw [List.take_length] at hall
    have:=hk1 hall
    refine W1 (And.intro @e0 (And.intro @e1 (And.intro @e7 @e8))) @DD trivial ?_
    exact ⟨_,rfl,this⟩
theorem fcont_spec {l:List Int} (hl:Om (l.length≤1000000)) (hN:∀ x ∈ l,0≤x∧x≤18446744073709551615) (hk:K (.bool (!l.all (fitW w))) [.var [.bool w,.bool big]]) :
    PCalls Tryz.prog 160 [.sl (.int .u64) l,.fn 161 [] [.ptr 0 0]] [.var [.bool w,.bool big]] K:=by
  have hl:=hl.o
  refine told_call slices_ContainsFunc_uint64_uint64.told fun Z hZ=>?_
  unfold slices_ContainsFunc_uint64_uint64.c
  refine W1 trivial @DD trivial ?_
  refine ca_F ⟨rfl⟩ (findex_spec ⟨hl⟩ hN (fun h=>?_) (fun h i=>?_))
  · rw [h] at hk
    refine W1 trivial @DD trivial ?_
    exact ⟨_,rfl,hk⟩
  · rw [Bool.eq_false_iff.2 h] at hk
    refine W1 trivial @DD trivial ?_
    exact ⟨_,rfl,hk⟩
theorem fit_spec {l:List Int} (hl:Om (l.length≤1000000)) (hN:∀ x ∈ l,0≤x∧x≤18446744073709551615) (hk:K (.bool (l.all (fitW w))) []) :
    PCalls Tryz.prog 142 [.agg [.bool w,.bool big],.sl (.int .u64) l] [] K:=by
  have hl:=hl.o
  refine told_callP model_fit.told fun Z hZ=>?_
  unfold model_fit.c
  refine W1 trivial @DD trivial ?_
  refine ca_F ⟨rfl⟩ (fcont_spec ⟨hl⟩ hN ?_)
  cases h:l.all (fitW w) with
  | true =>
    rw [h] at hk
    refine W1 trivial @DD trivial ?_
    exact hk
  | false =>
    rw [h] at hk
    refine W1 trivial @DD trivial ?_
    exact hk
end
end Go.Proofs.YtcffpnlochillaaGreatDoor.PvW
end
section
namespace Go.Proofs.YtcffpnlochillaaGreatDoor.PvW
open Go.RowKit Go.Proofs.YtcffpnlochillaaGreatDoor.Cd Go.Proofs.YtcffpnlochillaaGreatDoor.AbP Go.Proofs.YtcffpnlochillaaGreatDoor.Num Go.Proofs.YtcffpnlochillaaGreatDoor.Pv
def segFit (w:Bool) (s:dSeg.T):Bool:=([s.2.2.1,s.2.2.2.1,s.2.2.2.2.1,s.2.2.2.2.2.1]:List Int).all (fitW w)
def secFit (w:Bool) (s:dSec.T):Bool:=([s.2.2.1,s.2.2.2.1,s.2.2.2.2.1,s.2.2.2.2.2.2.2.1,s.2.2.2.2.2.2.2.2.1]:List Int).all (fitW w)
def fitsM (w:Bool) (en:Int) (segs:List dSeg.T) (secs:List dSec.T):Bool:=([en]:List Int).all (fitW w) && segs.all (segFit w) && secs.all (secFit w)
abbrev SegsN (segs:List dSeg.T):Prop:=∀ s ∈ segs,SegN s.1 s.2.2.1 s.2.2.2.1 s.2.2.2.2.1 s.2.2.2.2.2.1 s.2.2.2.2.2.2.1.1 s.2.2.2.2.2.2.1.2.1 s.2.2.2.2.2.2.1.2.2.1 s.2.2.2.2.2.2.1.2.2.2.1
section
variable {K:PV→List OB→Prop} {w big:Bool} {o ab ty ma fl en st:Int} {segs:List dSeg.T} {secs:List dSec.T}
theorem fit_ok {l:List Int} (h:Am (l.all (fitW w)=true)) (hl:Om (l.length≤1000000)) (hN:Am (∀ x ∈ l,0≤x∧x≤18446744073709551615)) (hk:K (.bool true) []):PCalls Tryz.prog 142 [.agg [.bool w,.bool big],.sl (.int .u64) l] [] K:=fit_spec hl hN.o (by rw [h.o];exact hk)
theorem fit_no {l:List Int} (h:Am (l.all (fitW w)=false)) (hl:Om (l.length≤1000000)) (hN:Am (∀ x ∈ l,0≤x∧x≤18446744073709551615)) (hk:K (.bool false) []):PCalls Tryz.prog 142 [.agg [.bool w,.bool big],.sl (.int .u64) l] [] K:=fit_spec hl hN.o (by rw [h.o];exact hk)
theorem mfits_spec (hl:Om (segs.length≤1000000∧secs.length≤1000000)) (he:Om (0≤en∧en≤18446744073709551615)) (hG:Am (SegsN segs)) (hN:Am (SecsN secs)) (hk:K (.bool (fitsM w en segs secs)) []) :
    PCalls Tryz.prog 105 [.agg [.bool w,.bool big,.int .u8 o,.int .u8 ab,.int .u16 ty,.int .u16 ma,.int .u32 fl,.int .u64 en,.sl dSeg segs,.sl dSec secs,.int .i64 st]] [] K:=by
  have hl:=hl.o
  have he:=he.o
  have hN:=hN.o
  have hG:=hG.o
  refine told_callP model_fits.told fun Z hZ=>?_
  unfold model_fits.c
  unfold fitsM at hk
  have hN1:∀ x ∈ [en],0≤x∧x≤18446744073709551615:=by simpa only [List.mem_singleton,forall_eq] using he
  cases h1:([en]:List Int).all (fitW w) with
  | false =>
    rw [h1,Bool.false_and,Bool.false_and] at hk
    refine W1 trivial @DD @fit_no ?_
    exact hk
  | true =>
  rw [h1,Bool.true_and] at hk
  refine W1 trivial @DD @fit_ok ?_
  refine w_lpG (fun q e s=>∃ i:Nat,q+i=segs.length∧s=[.var [.bool w,.bool big,.int .u8 o,.int .u8 ab,.int .u16 ty,.int .u16 ma,.int .u32 fl,.int .u64 en,.sl dSeg segs,.sl dSec secs,.int .i64 st],.var [.bool w,.bool big],.dead]∧(segs.take i).all (segFit w)=true∧e 1 = .ptr 0 0∧e 3 = .ptr 1 0∧e 18 = .sl dSeg segs∧e 19 = .int .i64 segs.length∧e 20 = .int .i64 i) segs.length ?_ ?_
  · exact ⟨0,rfl,rfl,rfl,by exact lk trivial,by exact lk trivial,by exact lk trivial,by exact lk trivial,by exact lk trivial⟩
  rintro q e s ⟨i,hi,rfl,hall,e1,e3,e18,e19,e20⟩
  by_cases hq:i < segs.length
  · obtain ⟨x,hx⟩:∃ x,segs[i]? = some x:=⟨segs[i],List.getElem?_eq_getElem hq⟩
    have hx0:=hG x (List.mem_of_getElem? hx)
    have hat:=fun h=>all_takeS (p:=segFit w) hx hall h
    have han:=fun h=>all_noS (p:=segFit w) hx h
    obtain ⟨sty,sfl,sva,spa,sme,sal,⟨si,so,sz,sown,u⟩,u2⟩:=x
    obtain ⟨nty,nva,npa,nme,nal,noff,nsz,now,nbo⟩:=hx0
    have hN4:∀ x ∈ ([sva,spa,sme,sal]:List Int),0≤x∧x≤18446744073709551615:=by
      simp only [List.forall_mem_cons]
      exact ⟨nva,npa,nme,nal,fun _ h=>by cases h⟩
    cases h2:([sva,spa,sme,sal]:List Int).all (fitW w) with
    | false =>
      have hk:K (.bool false) []:=by rwa [Bool.eq_false_iff.2 (han h2),Bool.false_and] at hk
      refine W1 (And.intro @e1 (And.intro @e3 (And.intro @e18 (And.intro @e19 @e20)))) @DD @fit_no ?_
      exact hk
    | true =>
      have ha:=hat h2
      refine W1 (And.intro @e1 (And.intro @e3 (And.intro @e18 (And.intro @e19 @e20)))) @DD @fit_ok ?_
      exact ⟨q - 1,by omega,_,_,Gh.sel [0,1,2] (by decide) (hz0 hZ),i+1,by omega,rfl,ha,by exact lk @e1,by exact lk @e3,by exact lk @e18,by exact lk @e19,by exact lk @e20⟩
  obtain rfl:i=segs.length:=by omega
  rw [List.take_length] at hall
  rw [hall,Bool.true_and] at hk
  refine W1 (And.intro @e1 (And.intro @e3 (And.intro @e18 (And.intro @e19 @e20)))) @DD trivial ?_
  refine w_lpG (fun q e s=>∃ i:Nat,q+i=secs.length∧s=[.var [.bool w,.bool big,.int .u8 o,.int .u8 ab,.int .u16 ty,.int .u16 ma,.int .u32 fl,.int .u64 en,.sl dSeg segs,.sl dSec secs,.int .i64 st],.var [.bool w,.bool big],.dead]∧(secs.take i).all (secFit w)=true∧e 1 = .ptr 0 0∧e 3 = .ptr 1 0∧e 38 = .sl dSec secs∧e 39 = .int .i64 secs.length∧e 40 = .int .i64 i) secs.length ?_ ?_
  · exact ⟨0,rfl,rfl,rfl,by exact lk @e1,by exact lk @e3,by exact lk trivial,by exact lk trivial,by exact lk trivial⟩
  rintro q e s ⟨i,hi,rfl,hall,e1,e3,e38,e39,e40⟩
  by_cases hq:i < secs.length
  · obtain ⟨x,hx⟩:∃ x,secs[i]? = some x:=⟨secs[i],List.getElem?_eq_getElem hq⟩
    have hx0:=hN x (List.mem_of_getElem? hx)
    have hat:=fun h=>all_takeS (p:=secFit w) hx hall h
    have han:=fun h=>all_noS (p:=secFit w) hx h
    obtain ⟨nm,sty,sfl,sad,ssi,sli,ssf,sal,sen,⟨si,so,sz,sown,u⟩,u2⟩:=x
    obtain ⟨nnm,nty,nfl,nad,nsi,nli,nal,nen,noff,nsz,now,nbo⟩:=hx0
    have hN5:∀ x ∈ ([sfl,sad,ssi,sal,sen]:List Int),0≤x∧x≤18446744073709551615:=by
      simp only [List.forall_mem_cons]
      exact ⟨nfl,nad,nsi,nal,nen,fun _ h=>by cases h⟩
    cases h2:([sfl,sad,ssi,sal,sen]:List Int).all (fitW w) with
    | false =>
      have hk:K (.bool false) []:=by rwa [Bool.eq_false_iff.2 (han h2)] at hk
      refine W1 (And.intro @e1 (And.intro @e3 (And.intro @e38 (And.intro @e39 @e40)))) @DD @fit_no ?_
      exact hk
    | true =>
      have ha:=hat h2
      refine W1 (And.intro @e1 (And.intro @e3 (And.intro @e38 (And.intro @e39 @e40)))) @DD @fit_ok ?_
      exact ⟨q - 1,by omega,_,_,Gh.sel [0,1,2] (by decide) (hz0 hZ),i+1,by omega,rfl,ha,by exact lk @e1,by exact lk @e3,by exact lk @e38,by exact lk @e39,by exact lk @e40⟩
  obtain rfl:i=secs.length:=by omega
  rw [List.take_length] at hall
  rw [hall] at hk
  refine W1 (And.intro @e1 (And.intro @e3 (And.intro @e38 (And.intro @e39 @e40)))) @DD trivial ?_
  exact hk
end
end Go.Proofs.YtcffpnlochillaaGreatDoor.PvW
end

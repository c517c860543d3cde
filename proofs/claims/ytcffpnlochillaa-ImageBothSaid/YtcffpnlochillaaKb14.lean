/- A heap of plain values, walks over it, and functions of the program met by them: no statement of the set is proved in this text. -/
import Derived.Test.YtcffpnlochillaaKb13
set_option linter.unusedVariables false
set_option linter.unusedSimpArgs false
set_option maxRecDepth 100000
set_option maxHeartbeats 4000000
section
namespace Go.Proofs.Ytcffpnlochillaa.PvW
open Go.RowKit Go.Proofs.Ytcffpnlochillaa.Cd Go.Proofs.Ytcffpnlochillaa.AbP Go.Proofs.Ytcffpnlochillaa.Num Go.Proofs.Ytcffpnlochillaa.Pv
def segFit (w:Bool) (s:dSeg.T):Bool:=([s.2.2.1,s.2.2.2.1,s.2.2.2.2.1,s.2.2.2.2.2.1]:List Int).all (fitW w)
def secFit (w:Bool) (s:dSec.T):Bool:=([s.2.2.1,s.2.2.2.1,s.2.2.2.2.1,s.2.2.2.2.2.2.2.1,s.2.2.2.2.2.2.2.2.1]:List Int).all (fitW w)
def fitsM (w:Bool) (en:Int) (segs:List dSeg.T) (secs:List dSec.T):Bool:=([en]:List Int).all (fitW w) && segs.all (segFit w) && secs.all (secFit w)
abbrev SegsN (segs:List dSeg.T):Prop:=∀ s ∈ segs,SegN s.1 s.2.2.1 s.2.2.2.1 s.2.2.2.2.1 s.2.2.2.2.2.1 s.2.2.2.2.2.2.1.1 s.2.2.2.2.2.2.1.2.1 s.2.2.2.2.2.2.1.2.2.1 s.2.2.2.2.2.2.1.2.2.2.1
section
variable {K:PV→List OB→Prop} {w big:Bool} {o ab ty ma fl en st:Int} {segs:List dSeg.T} {secs:List dSec.T}
theorem fit_ok {l:List Int} (h:Am (l.all (fitW w)=true)) (hl:Om (l.length≤1000000)) (hN:Am (∀ x ∈ l,0≤x∧x≤18446744073709551615)) (hk:K (.bool true) []):PCalls Try.prog 51 [.agg [.bool w,.bool big],.sl (.int .u64) l] [] K:=fit_spec hl hN.o (by rw [h.o];exact hk)
theorem fit_no {l:List Int} (h:Am (l.all (fitW w)=false)) (hl:Om (l.length≤1000000)) (hN:Am (∀ x ∈ l,0≤x∧x≤18446744073709551615)) (hk:K (.bool false) []):PCalls Try.prog 51 [.agg [.bool w,.bool big],.sl (.int .u64) l] [] K:=fit_spec hl hN.o (by rw [h.o];exact hk)
theorem mfits_spec (hl:Om (segs.length≤1000000∧secs.length≤1000000)) (he:Om (0≤en∧en≤18446744073709551615)) (hG:Am (SegsN segs)) (hN:Am (SecsN secs)) (hk:K (.bool (fitsM w en segs secs)) []) :
    PCalls Try.prog 46 [.agg [.bool w,.bool big,.int .u8 o,.int .u8 ab,.int .u16 ty,.int .u16 ma,.int .u32 fl,.int .u64 en,.sl dSeg segs,.sl dSec secs,.int .i64 st]] [] K:=by
  have hl:=hl.o
  have he:=he.o
  have hN:=hN.o
  have hG:=hG.o
  refine told_callP model_fits.told fun Z hZ=>?_
  unfold model_fits.c
  unfold fitsM at hk
  have hN1:∀ x ∈ [en],0≤x∧x≤18446744073709551615:=by simpa only [List.mem_singleton,forall_eq] using he
  cases h1:([en]:List Int).all (fitW w) with
  | false =>
    rw [h1,Bool.false_and,Bool.false_and] at hk
    refine W1 trivial @DD @fit_no ?_
    exact hk
  | true =>
  rw [h1,Bool.true_and] at hk
  refine W1 trivial @DD @fit_ok ?_
  refine w_lpG (fun q e s=>∃ i:Nat,q+i=segs.length∧s=[.var [.bool w,.bool big,.int .u8 o,.int .u8 ab,.int .u16 ty,.int .u16 ma,.int .u32 fl,.int .u64 en,.sl dSeg segs,.sl dSec secs,.int .i64 st],.var [.bool w,.bool big],.dead]∧(segs.take i).all (segFit w)=true∧e 1 = .ptr 0 0∧e 3 = .ptr 1 0∧e 18 = .sl dSeg segs∧e 19 = .int .i64 segs.length∧e 20 = .int .i64 i) segs.length ?_ ?_
  · exact ⟨0,rfl,rfl,rfl,by exact lk trivial,by exact lk trivial,by exact lk trivial,by exact lk trivial,by exact lk trivial⟩
  rintro q e s ⟨i,hi,rfl,hall,e1,e3,e18,e19,e20⟩
  by_cases hq:i < segs.length
  · obtain ⟨x,hx⟩:∃ x,segs[i]? = some x:=⟨segs[i],List.getElem?_eq_getElem hq⟩
    have hx0:=hG x (List.mem_of_getElem? hx)
    have hat:=fun h=>all_takeS (p:=segFit w) hx hall h
    have han:=fun h=>all_noS (p:=segFit w) hx h
    obtain ⟨sty,sfl,sva,spa,sme,sal,⟨si,so,sz,sown,u⟩,u2⟩:=x
    obtain ⟨nty,nva,npa,nme,nal,noff,nsz,now,nbo⟩:=hx0
    have hN4:∀ x ∈ ([sva,spa,sme,sal]:List Int),0≤x∧x≤18446744073709551615:=by
      simp only [List.forall_mem_cons]
      exact ⟨nva,npa,nme,nal,fun _ h=>by cases h⟩
    cases h2:([sva,spa,sme,sal]:List Int).all (fitW w) with
    | false =>
      have hk:K (.bool false) []:=by rwa [Bool.eq_false_iff.2 (han h2),Bool.false_and] at hk
      refine W1 (And.intro @e1 (And.intro @e3 (And.intro @e18 (And.intro @e19 @e20)))) @DD @fit_no ?_
      exact hk
    | true =>
      have ha:=hat h2
      refine W1 (And.intro @e1 (And.intro @e3 (And.intro @e18 (And.intro @e19 @e20)))) @DD @fit_ok ?_
      exact ⟨q - 1,by omega,_,_,Gh.sel [0,1,2] (by decide) (hz0 hZ),i+1,by omega,rfl,ha,by exact lk @e1,by exact lk @e3,by exact lk @e18,by exact lk @e19,by exact lk @e20⟩
  obtain rfl:i=segs.length:=by omega
  rw [List.take_length] at hall
  rw [hall,Bool.true_and] at hk
  refine W1 (And.intro @e1 (And.intro @e3 (And.intro @e18 (And.intro @e19 @e20)))) @DD trivial ?_
  refine w_lpG (fun q e s=>∃ i:Nat,q+i=secs.length∧s=[.var [.bool w,.bool big,.int .u8 o,.int .u8 ab,.int .u16 ty,.int .u16 ma,.int .u32 fl,.int .u64 en,.sl dSeg segs,.sl dSec secs,.int .i64 st],.var [.bool w,.bool big],.dead]∧(secs.take i).all (secFit w)=true∧e 1 = .ptr 0 0∧e 3 = .ptr 1 0∧e 38 = .sl dSec secs∧e 39 = .int .i64 secs.length∧e 40 = .int .i64 i) secs.length ?_ ?_
  · exact ⟨0,rfl,rfl,rfl,by exact lk @e1,by exact lk @e3,by exact lk trivial,by exact lk trivial,by exact lk trivial⟩
  rintro q e s ⟨i,hi,rfl,hall,e1,e3,e38,e39,e40⟩
  by_cases hq:i < secs.length
  · obtain ⟨x,hx⟩:∃ x,secs[i]? = some x:=⟨secs[i],List.getElem?_eq_getElem hq⟩
    have hx0:=hN x (List.mem_of_getElem? hx)
    have hat:=fun h=>all_takeS (p:=secFit w) hx hall h
    have han:=fun h=>all_noS (p:=secFit w) hx h
    obtain ⟨nm,sty,sfl,sad,ssi,sli,ssf,sal,sen,⟨si,so,sz,sown,u⟩,u2⟩:=x
    obtain ⟨nnm,nty,nfl,nad,nsi,nli,nal,nen,noff,nsz,now,nbo⟩:=hx0
    have hN5:∀ x ∈ ([sfl,sad,ssi,sal,sen]:List Int),0≤x∧x≤18446744073709551615:=by
      simp only [List.forall_mem_cons]
      exact ⟨nfl,nad,nsi,nal,nen,fun _ h=>by cases h⟩
    cases h2:([sfl,sad,ssi,sal,sen]:List Int).all (fitW w) with
    | false =>
      have hk:K (.bool false) []:=by rwa [Bool.eq_false_iff.2 (han h2)] at hk
      refine W1 (And.intro @e1 (And.intro @e3 (And.intro @e38 (And.intro @e39 @e40)))) @DD @fit_no ?_
      exact hk
    | true =>
      have ha:=hat h2
      refine W1 (And.intro @e1 (And.intro @e3 (And.intro @e38 (And.intro @e39 @e40)))) @DD @fit_ok ?_
      exact ⟨q - 1,by omega,_,_,Gh.sel [0,1,2] (by decide) (hz0 hZ),i+1,by omega,rfl,ha,by exact lk @e1,by exact lk @e3,by exact lk @e38,by exact lk @e39,by exact lk @e40⟩
  obtain rfl:i=secs.length:=by omega
  rw [List.take_length] at hall
  rw [hall] at hk
  refine W1 (And.intro @e1 (And.intro @e3 (And.intro @e38 (And.intro @e39 @e40)))) @DD trivial ?_
  exact hk
end
end Go.Proofs.Ytcffpnlochillaa.PvW
end

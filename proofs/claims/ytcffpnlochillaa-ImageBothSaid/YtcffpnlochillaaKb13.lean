/- A heap of plain values, walks over it, and functions of the program met by them: no statement of the set is proved in this text. -/
import Derived.Test.YtcffpnlochillaaKb12
set_option linter.unusedVariables false
set_option linter.unusedSimpArgs false
set_option maxRecDepth 100000
set_option maxHeartbeats 4000000
section
namespace Go.Proofs.Ytcffpnlochillaa.PvW
open Go.RowKit Go.Proofs.Ytcffpnlochillaa.Cd Go.Proofs.Ytcffpnlochillaa.AbP Go.Proofs.Ytcffpnlochillaa.Num Go.Proofs.Ytcffpnlochillaa.Pv
def fitW (w:Bool) (v:Int):Bool:=fitsB v (if w=true then 8 else 4)
section
variable {K:PV→List OB→Prop} {w big:Bool} {o ab ty ma fl en st:Int} {segs:List dSeg.T} {secs:List dSec.T}
theorem mword_spec (hk:K (.int .i64 (if w=true then 8 else 4)) []):PCalls Try.prog 57 [.agg [.bool w,.bool big]] [] K:=by
  refine told_callP model_word.told fun Z hZ=>?_
  unfold model_word.c
  cases w
  · refine W1 trivial @DD trivial ?_
    exact hk
  · refine W1 trivial @DD trivial ?_
    exact hk
theorem fit1_spec {v:Int} (hv:Om (0≤v∧v≤18446744073709551615)) (hk:K (.bool (!fitW w v)) [.var [.bool w,.bool big]]):PCalls Try.prog 56 [.int .u64 v,.ptr 0 0] [.var [.bool w,.bool big]] K:=by
  have hv:=hv.o
  refine told_call model_fit_1.told fun Z hZ=>?_
  unfold model_fit_1.c
  unfold fitW at hk
  refine W1 trivial @DD (And.intro @mword_spec @fits_spec) ?_
  exact ⟨_,rfl,hk⟩
theorem fit1_ok {v:Int} (hf:fitW w v=true) (hv:Om (0≤v∧v≤18446744073709551615)) (hk:K (.bool false) [.var [.bool w,.bool big]]):PCalls Try.prog 56 [.int .u64 v,.ptr 0 0] [.var [.bool w,.bool big]] K:=fit1_spec hv (by rw [hf];exact hk)
theorem fit1_no {v:Int} (hf:fitW w v=false) (hv:Om (0≤v∧v≤18446744073709551615)) (hk:K (.bool true) [.var [.bool w,.bool big]]):PCalls Try.prog 56 [.int .u64 v,.ptr 0 0] [.var [.bool w,.bool big]] K:=fit1_spec hv (by rw [hf];exact hk)
theorem findex_spec {l:List Int} (hl:Om (l.length≤1000000)) (hN:∀ x ∈ l,0≤x∧x≤18446744073709551615) (hk1:l.all (fitW w)=true→K (.int .i64 (-1)) [.var [.bool w,.bool big]]) (hk0:¬ l.all (fitW w)=true→∀ i:Nat,K (.int .i64 i) [.var [.bool w,.bool big]]) :
    PCalls Try.prog 59 [.sl (.int .u64) l,.fn 56 [] [.ptr 0 0]] [.var [.bool w,.bool big]] K:=by
  have hl:=hl.o
  refine told_call slices_IndexFunc_uint64_uint64.told fun Z hZ=>?_
  unfold slices_IndexFunc_uint64_uint64.c
  refine W1 trivial @DD trivial ?_
  refine w_lp (fun q e s=>s=[.var [.bool w,.bool big]]∧∃ i:Nat,q+i=l.length∧(l.take i).all (fitW w)=true∧e 0 = .sl (.int .u64) l∧e 1 = .fn 56 [] [.ptr 0 0]∧e 7 = .int .i64 l.length∧e 8 = .int .i64 i) l.length ?_ ?_
  · exact ⟨rfl,0,rfl,rfl,by exact lk trivial,by exact lk trivial,by exact lk trivial,by exact lk trivial⟩
  rintro q e s ⟨rfl,i,hi,hall,e0,e1,e7,e8⟩
  by_cases hq:i < l.length
  · obtain ⟨x,hx⟩:∃ x,l[i]? = some x:=⟨l[i],List.getElem?_eq_getElem hq⟩
    have hx0:=hN x (List.mem_of_getElem? hx)
    have hgd:l.getD i 0=x:=by rw [List.getD_eq_getElem?_getD,hx];rfl
    refine W1 (And.intro @e0 (And.intro @e1 (And.intro @e7 @e8))) @DD trivial ?_
    rw [hgd]
    cases hf:fitW w x with
    | true =>
      refine cf_F ⟨rfl⟩ (fit1_ok hf ⟨hx0⟩ ?_)
      have ha:=all_takeS hx hall hf
      refine W1 (And.intro @e0 (And.intro @e1 (And.intro @e7 @e8))) @DD trivial ?_
      exact ⟨q - 1,by omega,rfl,i+1,by omega,ha,by exact lk @e0,by exact lk @e1,by exact lk @e7,by exact lk @e8⟩
    | false =>
      refine cf_F ⟨rfl⟩ (fit1_no hf ⟨hx0⟩ ?_)
      have:=hk0 (all_noS hx hf) i
      refine W1 (And.intro @e0 (And.intro @e1 (And.intro @e7 @e8))) @DD trivial ?_
      exact ⟨_,rfl,this⟩
  · obtain rfl:i=l.length:=by omega
    rw [List.take_length] at hall
    have:=hk1 hall
    refine W1 (And.intro @e0 (And.intro @e1 (And.intro @e7 @e8))) @DD trivial ?_
    exact ⟨_,rfl,this⟩
theorem fcont_spec {l:List Int} (hl:Om (l.length≤1000000)) (hN:∀ x ∈ l,0≤x∧x≤18446744073709551615) (hk:K (.bool (!l.all (fitW w))) [.var [.bool w,.bool big]]) :
    PCalls Try.prog 55 [.sl (.int .u64) l,.fn 56 [] [.ptr 0 0]] [.var [.bool w,.bool big]] K:=by
  have hl:=hl.o
  refine told_call slices_ContainsFunc_uint64_uint64.told fun Z hZ=>?_
  unfold slices_ContainsFunc_uint64_uint64.c
  refine W1 trivial @DD trivial ?_
  refine ca_F ⟨rfl⟩ (findex_spec ⟨hl⟩ hN (fun h=>?_) (fun h i=>?_))
  · rw [h] at hk
    refine W1 trivial @DD trivial ?_
    exact ⟨_,rfl,hk⟩
  · rw [Bool.eq_false_iff.2 h] at hk
    refine W1 trivial @DD trivial ?_
    exact ⟨_,rfl,hk⟩
theorem fit_spec {l:List Int} (hl:Om (l.length≤1000000)) (hN:∀ x ∈ l,0≤x∧x≤18446744073709551615) (hk:K (.bool (l.all (fitW w))) []) :
    PCalls Try.prog 51 [.agg [.bool w,.bool big],.sl (.int .u64) l] [] K:=by
  have hl:=hl.o
  refine told_callP model_fit.told fun Z hZ=>?_
  unfold model_fit.c
  refine W1 trivial @DD trivial ?_
  refine ca_F ⟨rfl⟩ (fcont_spec ⟨hl⟩ hN ?_)
  cases h:l.all (fitW w) with
  | true =>
    rw [h] at hk
    refine W1 trivial @DD trivial ?_
    exact hk
  | false =>
    rw [h] at hk
    refine W1 trivial @DD trivial ?_
    exact hk
end
end Go.Proofs.Ytcffpnlochillaa.PvW
end

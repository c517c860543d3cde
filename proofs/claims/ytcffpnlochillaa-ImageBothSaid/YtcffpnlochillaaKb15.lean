/- A heap of plain values, walks over it, and functions of the program met by them: no statement of the set is proved in this text. -/
import Derived.Test.YtcffpnlochillaaKb14
set_option linter.unusedVariables false
set_option linter.unusedSimpArgs false
set_option maxRecDepth 100000
set_option maxHeartbeats 4000000
section
namespace Go.Proofs.Ytcffpnlochillaa.PvW
open Go.RowKit Go.Proofs.Ytcffpnlochillaa.Cd Go.Proofs.Ytcffpnlochillaa.AbP Go.Proofs.Ytcffpnlochillaa.Num Go.Proofs.Ytcffpnlochillaa.Pv
def firstC {α:Type} (f:α→Int):List α→Int
  | []=>0
  | x::l=>if f x≠0 then f x else firstC f l
theorem first_no {α:Type} {f:α→Int}:∀ (l:List α) (i:Nat) (x:α),(∀ y ∈ l.take i,f y=0)→l[i]? = some x→f x≠0→firstC f l=f x
  | [],i,x,_,h,_=>by simp at h
  | y :: l, 0, x, _, h, hx => by
    obtain rfl:y=x:=by simpa using h
    show (if f y≠0 then f y else _)=_
    rw [if_pos hx]
  | y :: l, i + 1, x, ha, h, hx => by
    have h0:f y=0:=ha y (by simp)
    show (if f y≠0 then f y else firstC f l)=_
    rw [if_neg (fun h=>h h0)]
    exact first_no l i x (fun z hz=>ha z (by simp [hz])) (by simpa using h) hx
theorem first_ok {α:Type} {f:α→Int}:∀ (l:List α),(∀ y ∈ l,f y=0)→firstC f l=0
  | [],_=>rfl
  | y :: l, h => by
    have h0:f y=0:=h y (by simp)
    show (if f y≠0 then f y else firstC f l)=_
    rw [if_neg (fun h=>h h0)]
    exact first_ok l (fun z hz=>h z (by simp [hz]))
def segCx (w:Bool) (segs:List dSeg.T) (s:dSeg.T):Int:=segC w segs s.1 s.2.2.1 s.2.2.2.2.1 s.2.2.2.2.2.1 s.2.2.2.2.2.2.1.1 s.2.2.2.2.2.2.1.2.1 s.2.2.2.2.2.2.1.2.2.1 s.2.2.2.2.2.2.1.2.2.2.1
def secCx (segs:List dSeg.T) (n:Nat) (s:dSec.T):Int:=secC segs n s.2.1 s.2.2.2.2.1 s.2.2.2.2.2.1 s.2.2.2.2.2.2.2.2.2.1.1 s.2.2.2.2.2.2.2.2.2.1.2.1 s.2.2.2.2.2.2.2.2.2.1.2.2.1 s.2.2.2.2.2.2.2.2.2.1.2.2.2.1
def loadsL:List dSeg.T→List dSpan.T
  | []=>[]
  | s::l=>if @Eq Int s.1 1 then (s.2.2.1,s.2.2.2.2.1,())::loadsL l else loadsL l
theorem loads_app:∀ (a b:List dSeg.T),loadsL (a++b)=loadsL a++loadsL b
  | [],b=>rfl
  | s :: l, b => by
    show (if @Eq Int s.1 1 then _::loadsL (l++b) else loadsL (l++b))=(if @Eq Int s.1 1 then _::loadsL l else loadsL l)++loadsL b
    rw [loads_app l b]
    split <;> rfl
theorem loads_len:∀ (l:List dSeg.T),(loadsL l).length≤l.length
  | []=>Nat.le_refl 0
  | s :: l => by
    have ih:=loads_len l
    show (if @Eq Int s.1 1 then _::loadsL l else loadsL l).length≤_
    split
    · simp only [List.length_cons];omega
    · simp only [List.length_cons];omega
theorem loads_N:∀ (l:List dSeg.T),SegsN l→∀ x ∈ loadsL l,SpanN x.1 x.2.1
  | [],_,x,hx=>by cases hx
  | s :: l, h, x, hx => by
    have ih:=loads_N l (fun y hy=>h y (List.mem_cons_of_mem _ hy))
    have hs:=h s (by simp)
    have hx:x ∈ (if @Eq Int s.1 1 then (s.2.2.1,s.2.2.2.2.1,())::loadsL l else loadsL l):=hx
    split at hx
    · rcases List.mem_cons.1 hx with rfl | hx
      · exact ⟨hs.va,hs.me⟩
      · exact ih x hx
    · exact ih x hx
open Classical in

noncomputable def wrongC (w:Bool) (en:Int) (segs:List dSeg.T) (secs:List dSec.T) (st:Int):Int :=
  if 16 < segs.length∨64 < secs.length then 8
  else if fitsM w en segs secs=false then 1
  else if firstC (segCx w segs) segs≠0 then firstC (segCx w segs) segs
  else if ¬ RisingP (loadsL segs) then 7
  else if firstC (secCx segs secs.length) secs≠0 then firstC (secCx segs secs.length) secs
  else namesC secs st
section
variable {K:PV→List OB→Prop} {w big:Bool} {o ab ty ma fl en st:Int} {segs:List dSeg.T} {secs:List dSec.T}
theorem mfits_ok (h:Am (fitsM w en segs secs=true)) (hl:Om (segs.length≤1000000∧secs.length≤1000000)) (he:Om (0≤en∧en≤18446744073709551615)) (hG:Am (SegsN segs)) (hN:Am (SecsN secs)) (hk:K (.bool true) []):PCalls Try.prog 46 [.agg [.bool w,.bool big,.int .u8 o,.int .u8 ab,.int .u16 ty,.int .u16 ma,.int .u32 fl,.int .u64 en,.sl dSeg segs,.sl dSec secs,.int .i64 st]] [] K:=mfits_spec hl he hG hN (by rw [h.o];exact hk)
theorem mfits_no (h:Am (fitsM w en segs secs=false)) (hl:Om (segs.length≤1000000∧secs.length≤1000000)) (he:Om (0≤en∧en≤18446744073709551615)) (hG:Am (SegsN segs)) (hN:Am (SecsN secs)) (hk:K (.bool false) []):PCalls Try.prog 46 [.agg [.bool w,.bool big,.int .u8 o,.int .u8 ab,.int .u16 ty,.int .u16 ma,.int .u32 fl,.int .u64 en,.sl dSeg segs,.sl dSec secs,.int .i64 st]] [] K:=mfits_spec hl he hG hN (by rw [h.o];exact hk)
theorem wrong_spec (he:Om (0≤en∧en≤18446744073709551615)) (hG:Am (SegsN segs)) (hN:Am (SecsN secs)) (hk:K (.int .i64 (wrongC w en segs secs st)) []) :
    PCalls Try.prog 39 [.agg [.bool w,.bool big,.int .u8 o,.int .u8 ab,.int .u16 ty,.int .u16 ma,.int .u32 fl,.int .u64 en,.sl dSeg segs,.sl dSec secs,.int .i64 st]] [] K:=by
  have he:=he.o
  have hN:=hN.o
  have hG:=hG.o
  refine told_callP model_wrong.told fun Z hZ=>?_
  unfold model_wrong.c
  unfold wrongC at hk
  by_cases h1:16 < (segs.length:Int)
  · rw [if_pos (.inl (by omega))] at hk
    refine W1 trivial @DD trivial ?_
    exact hk
  by_cases h2:64 < (secs.length:Int)
  · rw [if_pos (.inr (by omega))] at hk
    refine W1 trivial @DD trivial ?_
    exact hk
  rw [if_neg (by omega)] at hk
  cases h3:fitsM w en segs secs with
  | false =>
    rw [if_pos h3] at hk
    refine W1 trivial @DD @mfits_no ?_
    exact hk
  | true =>
  rw [if_neg (by rw [h3];decide)] at hk
  have hL:∀ s ∈ segs,s.2.2.2.2.2.2.1.2.2.2.1.length≤1000000:=fun s hs=>(hG s hs).ow
  refine W1 trivial @DD (And.intro @mfits_ok (@xVirt 3 dSpan)) ?_
  refine w_lpG (fun q e s=>∃ i:Nat,q+i=segs.length∧s=[.var [.bool w,.bool big,.int .u8 o,.int .u8 ab,.int .u16 ty,.int .u16 ma,.int .u32 fl,.int .u64 en,.sl dSeg segs,.sl dSec secs,.int .i64 st],.arr dSpan (loadsL (segs.take i))]∧(∀ y ∈ segs.take i,segCx w segs y=0)∧e 1 = .ptr 0 0∧e 3 = .osl 1 (loadsL (segs.take i)).length∧e 24 = .sl dSeg segs∧e 25 = .int .i64 segs.length∧e 26 = .int .i64 i) segs.length ?_ ?_
  · exact ⟨0,rfl,rfl,fun y hy=>(by cases hy),by exact lk trivial,by exact lk trivial,by exact lk trivial,by exact lk trivial,by exact lk trivial⟩
  rintro q e s ⟨i,hi,rfl,hall,e1,e3,e24,e25,e26⟩
  by_cases hq:i < segs.length
  · obtain ⟨x,hx⟩:∃ x,segs[i]? = some x:=⟨segs[i],List.getElem?_eq_getElem hq⟩
    have hx0:=hG x (List.mem_of_getElem? hx)
    have htk:segs.take (i+1)=segs.take i++[x]:=by rw [List.take_add_one,hx];rfl
    have hat:segCx w segs x=0→∀ y ∈ segs.take (i+1),segCx w segs y=0:=fun h y hy=>by
      rw [htk] at hy
      rcases List.mem_append.1 hy with hy | hy
      · exact hall y hy
      · obtain rfl:=List.mem_singleton.1 hy;exact h
    have han:segCx w segs x≠0→firstC (segCx w segs) segs=segCx w segs x:=fun h=>first_no segs i x hall hx h
    have hll:=loads_len (segs.take i)
    rw [List.length_take] at hll
    have hld:loadsL (segs.take (i+1))=loadsL (segs.take i)++loadsL [x]:=by rw [htk,loads_app]
    obtain ⟨sty,sfl,sva,spa,sme,sal,⟨si,so,sz,sown,u⟩,u2⟩:=x
    have hat:segC w segs sty sva sme sal si so sz sown=0→∀ y ∈ segs.take (i+1),segCx w segs y=0:=hat
    have han:segC w segs sty sva sme sal si so sz sown≠0→firstC (segCx w segs) segs=segC w segs sty sva sme sal si so sz sown:=han
    have hx0:SegN sty sva spa sme sal si so sz sown:=hx0
    have hnt:=hx0.ty
    by_cases h4:segC w segs sty sva sme sal si so sz sown=0
    · have ha:=hat h4
      by_cases h5:@Eq Int sty 1
      · have hl5:loadsL [(sty,sfl,sva,spa,sme,sal,(si,so,sz,sown,u),u2)]=[(sva,sme,())]:=by
          show (if @Eq Int sty 1 then _ else _)=_
          rw [if_pos h5];rfl
        rw [hl5] at hld
        refine W1 (And.intro @e1 (And.intro @e3 (And.intro @e24 (And.intro @e25 @e26)))) @DD trivial ?_
        refine seg_spec ⟨hx0⟩ ⟨by omega⟩ hL ?_
        refine W1 (And.intro @e1 (And.intro @e3 (And.intro @e24 (And.intro @e25 @e26)))) (And.intro @DD @h4) (@oArr 3 dSpan) ?_
        exact ⟨q - 1,by omega,_,_,Gh.sel [0,1] (by decide) (hz0 hZ),i+1,by omega,by rw [hld];rfl,ha,by exact lk @e1,by rw [hld,List.length_append];exact lk @e3,by exact lk @e24,by exact lk @e25,by exact lk @e26⟩
      · have hl5:loadsL [(sty,sfl,sva,spa,sme,sal,(si,so,sz,sown,u),u2)]=[]:=by
          show (if @Eq Int sty 1 then _ else _)=_
          rw [if_neg h5];rfl
        rw [hl5,List.append_nil] at hld
        refine W1 (And.intro @e1 (And.intro @e3 (And.intro @e24 (And.intro @e25 @e26)))) @DD trivial ?_
        refine seg_spec ⟨hx0⟩ ⟨by omega⟩ hL ?_
        refine W1 (And.intro @e1 (And.intro @e3 (And.intro @e24 (And.intro @e25 @e26)))) (And.intro @DD @h4) trivial ?_
        exact ⟨q - 1,by omega,_,_,Gh.sel [0,1] (by decide) (hz0 hZ),i+1,by omega,by rw [hld];rfl,ha,by exact lk @e1,by rw [hld];exact lk @e3,by exact lk @e24,by exact lk @e25,by exact lk @e26⟩
    · have hf:=han h4
      rw [hf,if_pos h4] at hk
      refine W1 (And.intro @e1 (And.intro @e3 (And.intro @e24 (And.intro @e25 @e26)))) @DD trivial ?_
      refine seg_spec ⟨hx0⟩ ⟨by omega⟩ hL ?_
      refine W1 (And.intro @e1 (And.intro @e3 (And.intro @e24 (And.intro @e25 @e26)))) (And.intro @DD @h4) trivial ?_
      exact hk
  obtain rfl:i=segs.length:=by omega
  rw [List.take_length] at hall e3 ⊢
  rw [first_ok segs hall,if_neg (fun h=>h rfl)] at hk
  have hll:=loads_len segs
  have hln:=loads_N segs hG
  refine Wp1 (And.intro @e1 (And.intro @e3 (And.intro @e24 (And.intro @e25 @e26)))) @DD (And.intro (@oFrz 48) @trivial) ?_
  refine rising_spec ⟨by omega⟩ hln (fun hr=>?_) (fun hr=>?_)
  rotate_left
  · rw [if_pos hr] at hk
    refine W1 trivial @DD trivial ?_
    exact hk
  rw [if_neg (fun h=>h hr)] at hk
  refine W1 (And.intro @e1 (And.intro @e3 (And.intro @e24 (And.intro @e25 @e26)))) @DD trivial ?_
  refine w_lpG (fun q e s=>∃ i:Nat,q+i=secs.length∧s=[.var [.bool w,.bool big,.int .u8 o,.int .u8 ab,.int .u16 ty,.int .u16 ma,.int .u32 fl,.int .u64 en,.sl dSeg segs,.sl dSec secs,.int .i64 st],.dead]∧(∀ y ∈ secs.take i,secCx segs secs.length y=0)∧e 1 = .ptr 0 0∧e 52 = .sl dSec secs∧e 53 = .int .i64 secs.length∧e 54 = .int .i64 i) secs.length ?_ ?_
  · exact ⟨0,rfl,rfl,fun y hy=>(by cases hy),by exact lk @e1,by exact lk trivial,by exact lk trivial,by exact lk trivial⟩
  rintro q e s ⟨i,hi,rfl,hall,e1,e52,e53,e54⟩
  by_cases hq:i < secs.length
  · obtain ⟨x,hx⟩:∃ x,secs[i]? = some x:=⟨secs[i],List.getElem?_eq_getElem hq⟩
    have hx0:=hN x (List.mem_of_getElem? hx)
    have htk:secs.take (i+1)=secs.take i++[x]:=by rw [List.take_add_one,hx];rfl
    have hat:secCx segs secs.length x=0→∀ y ∈ secs.take (i+1),secCx segs secs.length y=0:=fun h y hy=>by
      rw [htk] at hy
      rcases List.mem_append.1 hy with hy | hy
      · exact hall y hy
      · obtain rfl:=List.mem_singleton.1 hy;exact h
    have han:secCx segs secs.length x≠0→firstC (secCx segs secs.length) secs=secCx segs secs.length x:=fun h=>first_no secs i x hall hx h
    obtain ⟨nm,sty,sfl,sad,ssi,sli,ssf,sal,sen,⟨si,so,sz,sown,u⟩,u2⟩:=x
    have hat:secC segs secs.length sty ssi sli si so sz sown=0→∀ y ∈ secs.take (i+1),secCx segs secs.length y=0:=hat
    have han:secC segs secs.length sty ssi sli si so sz sown≠0→firstC (secCx segs secs.length) secs=secC segs secs.length sty ssi sli si so sz sown:=han
    have hx0:SecN nm sty sfl sad ssi sli sal sen si so sz sown:=hx0
    refine W1 (And.intro @e1 (And.intro @e52 (And.intro @e53 @e54))) @DD trivial ?_
    refine sec_spec ⟨hx0⟩ ⟨⟨by omega,by omega⟩⟩ hL ?_
    by_cases h4:secC segs secs.length sty ssi sli si so sz sown=0
    · have ha:=hat h4
      refine W1 (And.intro @e1 (And.intro @e52 (And.intro @e53 @e54))) (And.intro @DD @h4) trivial ?_
      exact ⟨q - 1,by omega,_,_,Gh.sel [0,1] (by decide) (hz0 hZ),i+1,by omega,rfl,ha,by exact lk @e1,by exact lk @e52,by exact lk @e53,by exact lk @e54⟩
    · have hf:=han h4
      rw [hf,if_pos h4] at hk
      refine W1 (And.intro @e1 (And.intro @e52 (And.intro @e53 @e54))) (And.intro @DD @h4) trivial ?_
      exact hk
  obtain rfl:i=secs.length:=by omega
  rw [List.take_length] at hall
  rw [first_ok secs hall,if_neg (fun h=>h rfl)] at hk
  refine W1 (And.intro @e1 (And.intro @e52 (And.intro @e53 @e54))) @DD trivial ?_
  refine names_spec ⟨by omega⟩ ⟨hN⟩ ?_
  refine W1 (And.intro @e1 (And.intro @e52 (And.intro @e53 @e54))) @DD trivial ?_
  exact hk
end
end Go.Proofs.Ytcffpnlochillaa.PvW
end

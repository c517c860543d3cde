/- A heap of plain values, walks over it, and functions of the program met by them: no statement of the set is proved in this text. -/
import Derived.Test.YtcffpnlochillaaKb08
import Derived.Test.YtcffpnlochillaaKb09
set_option linter.unusedVariables false
set_option linter.unusedSimpArgs false
set_option maxRecDepth 100000
set_option maxHeartbeats 4000000
section
namespace Go.Proofs.Ytcffpnlochillaa.PvW
open Go.RowKit Go.Proofs.Ytcffpnlochillaa.Cd Go.Proofs.Ytcffpnlochillaa.AbP Go.Proofs.Ytcffpnlochillaa.Num Go.Proofs.Ytcffpnlochillaa.Pv
abbrev dSpan:Ab.D:=(.st (.cons (.int .u64) (.cons (.int .u64) .nil)))
structure SpanN (f s:Int):Prop where
  f:0≤f∧f≤18446744073709551615
  s:0≤s∧s≤18446744073709551615

def lastB (f s:Int):Int:=if 18446744073709551615 - f < s - 1 then 18446744073709551615 else f+s - 1
def badP (f s g:Int):Prop:=g < f∨(0 < s∧g≤lastB f s)
def RisingP (l:List dSpan.T):Prop:=∀ (i:Nat) (x y:dSpan.T),l[i]? = some x→l[i+1]? = some y→¬ badP x.1 x.2.1 y.1
section
variable {K:PV→List OB→Prop} {w big:Bool} {o ab ty ma fl en st:Int} {segs:List dSeg.T} {secs:List dSec.T}
theorem last_spec {f s:Int} (hf:Om (0≤f∧f≤18446744073709551615)) (hs:Om (1≤s∧s≤18446744073709551615)) (hk:K (.int .u64 (lastB f s)) []):PCalls Try.prog 53 [.agg [.int .u64 f,.int .u64 s]] [] K:=by
  have hf:=hf.o
  have hs:=hs.o
  refine told_callP span_Span_last.told fun Z hZ=>?_
  unfold span_Span_last.c
  unfold lastB at hk
  by_cases h1:18446744073709551615 - f < s - 1
  · rw [if_pos h1] at hk
    refine W1 trivial @DD trivial ?_
    exact hk
  · rw [if_neg h1] at hk
    have hw:IntKind.wrap .u64 (IntKind.wrap .u64 (f+s) - 1)=f+s - 1:=by
      rw [wU64,wU64]
      omega
    rw [← hw] at hk
    refine W1 trivial @DD trivial ?_
    exact hk
theorem rising_spec {l:List dSpan.T} (hl:Om (l.length≤1000000)) (hN:∀ x ∈ l,SpanN x.1 x.2.1) (hk1:RisingP l→K (.bool true) []) (hk0:¬ RisingP l→K (.bool false) []) :
    PCalls Try.prog 48 [.sl dSpan l] [] K:=by
  have hl:=hl.o
  refine told_callP span_Rising.told fun Z hZ=>?_
  unfold span_Rising.c
  refine W1 trivial @DD trivial ?_
  refine w_lpG (fun q e s=>∃ i:Nat,q+i=l.length∧s=[]∧(∀ (k:Nat) (x y:dSpan.T),k < i→l[k]? = some x→l[k+1]? = some y→¬ badP x.1 x.2.1 y.1)∧e 0 = .sl dSpan l∧e 3 = .int .i64 ((i:Int)+1)) l.length ?_ ?_
  · exact ⟨0,rfl,rfl,fun k x y h=>absurd h (Nat.not_lt_zero k),by exact lk trivial,by exact lk trivial⟩
  rintro q e s ⟨i,hi,rfl,hall,e0,e3⟩
  by_cases hq:i+1 < l.length
  · obtain ⟨x,hx⟩:∃ x,l[i]? = some x:=⟨l[i],List.getElem?_eq_getElem (by omega)⟩
    obtain ⟨y,hy⟩:∃ y,l[i+1]? = some y:=⟨l[i+1],List.getElem?_eq_getElem hq⟩
    have nx:=hN x (List.mem_of_getElem? hx)
    have ny:=hN y (List.mem_of_getElem? hy)
    have hbad:badP x.1 x.2.1 y.1→¬ RisingP l:=fun h1 h2=>h2 i x y hx hy h1
    have hgood:¬ badP x.1 x.2.1 y.1→∀ (k:Nat) (x y:dSpan.T),k < i+1→l[k]? = some x→l[k+1]? = some y→¬ badP x.1 x.2.1 y.1:=fun h1 k x' y' hk hx' hy'=>by
      by_cases hki:k < i
      · exact hall k x' y' hki hx' hy'
      · obtain rfl:k=i:=by omega
        rw [hx] at hx';rw [hy] at hy'
        obtain rfl:=Option.some.inj hx'
        obtain rfl:=Option.some.inj hy'
        exact h1
    obtain ⟨xf,xs,u⟩:=x
    obtain ⟨yf,ys,u2⟩:=y
    obtain ⟨xf,rfl⟩:∃ v:Int,v=xf:=⟨xf,rfl⟩
    obtain ⟨xs,rfl⟩:∃ v:Int,v=xs:=⟨xs,rfl⟩
    obtain ⟨yf,rfl⟩:∃ v:Int,v=yf:=⟨yf,rfl⟩
    dsimp only at nx ny hbad hgood
    obtain ⟨nf,ns⟩:=nx
    obtain ⟨mf,ms⟩:=ny
    unfold badP at hbad hgood
    have hy':l[((i:Int)+1).toNat]? = some (yf,ys,u2):=hy
    have hi1:(i:Int)+1 - 1=i:=by omega
    have hi2:((i:Int)+1).toNat=i+1:=by omega
    by_cases h1:@LT.lt Int _ yf xf
    · have:=hk0 (hbad (.inl h1))
      refine W1 (And.intro @e0 @e3) (And.intro @DD (And.intro @hi1 @hi2)) trivial ?_
      exact this
    by_cases h2:@LT.lt Int _ 0 xs
    · have hlb : -1≤lastB xf xs∧lastB xf xs≤18446744073709551615:=by unfold lastB;split <;> omega
      by_cases h3:@LE.le Int _ yf (lastB xf xs)
      · have:=hk0 (hbad (.inr ⟨h2,h3⟩))
        refine W1 (And.intro @e0 @e3) (And.intro @DD (And.intro @hi1 @hi2)) @last_spec ?_
        exact this
      · have hg:=hgood (fun h=>h.elim h1 fun h=>h3 h.2)
        refine W1 (And.intro @e0 @e3) (And.intro @DD (And.intro @hi1 @hi2)) @last_spec ?_
        exact ⟨q - 1,by omega,_,_,Gh.sel [] (by decide) (hz0 hZ),i+1,by omega,rfl,hg,by exact lk @e0,by exact lk @e3⟩
    · have hg:=hgood (fun h=>h.elim h1 fun h=>h2 h.1)
      refine W1 (And.intro @e0 @e3) (And.intro @DD (And.intro @hi1 @hi2)) @last_spec ?_
      exact ⟨q - 1,by omega,_,_,Gh.sel [] (by decide) (hz0 hZ),i+1,by omega,rfl,hg,by exact lk @e0,by exact lk @e3⟩
  · have:=hk1 (fun k x y hx hy=>hall k x y (by have:=(List.getElem?_eq_some_iff.1 hy).1;omega) hx hy)
    refine W1 (And.intro @e0 @e3) @DD trivial ?_
    exact this
end
end Go.Proofs.Ytcffpnlochillaa.PvW
end

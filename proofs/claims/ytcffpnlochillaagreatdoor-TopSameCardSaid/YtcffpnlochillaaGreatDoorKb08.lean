/- A heap of plain values, walks over it, and functions of the program met by them: no statement of the set is proved in this text. -/
import Derived.Test.YtcffpnlochillaaGreatDoorKb07
set_option linter.unusedVariables false
set_option linter.unusedSimpArgs false
set_option maxRecDepth 100000
set_option maxHeartbeats 4000000
section
namespace Go.Proofs.YtcffpnlochillaaGreatDoor.PvW
open Go.RowKit Go.Proofs.YtcffpnlochillaaGreatDoor.AbP Go.Proofs.YtcffpnlochillaaGreatDoor.Num Go.Proofs.YtcffpnlochillaaGreatDoor.Pv
theorem fits_cases {v n:Int} (h:fitsB v n=true):∃ m:Nat,n=(m:Int)∧1≤m∧m≤8∧wideB n=true∧v < 256 ^ m:=by
  unfold fitsB at h
  rw [Bool.and_eq_true] at h
  obtain ⟨m,rfl,h1,h2⟩:=wide_nat h.1
  refine ⟨m,rfl,h1,h2,h.1,?_⟩
  have:=h.2
  simpa using this
theorem putSpec_nat {v:Int} {m:Nat} {big:Bool} (hw:wideB (m:Int)=true):putSpec v m big=enc m big v:=by
  unfold putSpec
  rw [if_pos hw]
  rfl

theorem gets_put {big:Bool}:∀ (p:List (Int×Int)) (pre post:List Int),rowOk p=true→(∀ q ∈ p,0≤q.1)→gets (pre++(rowB big p++post)) big pre.length (p.map (·.2))=p.map (·.1)
  | [],pre,post,_,_=>rfl
  | (v, n) :: p, pre, post, hok, h0 => by
    have hok':fitsB v n=true∧rowOk p=true:=by
      simp only [rowOk,List.all_cons,Bool.and_eq_true] at hok
      exact hok
    obtain ⟨m,rfl,h1,h2,hw,hv⟩:=fits_cases hok'.1
    have hrow:rowB big ((v,(m:Int))::p)=enc m big v++rowB big p:=by
      show putSpec v m big++rowB big p=_
      rw [putSpec_nat hw]
    have hel:(enc m big v).length=m:=enc_length _ _ _
    show (getSpec _ _ _ _).1::gets _ big _ (p.map (·.2))=v::p.map (·.1)
    rw [hrow]
    congr 1
    · unfold getSpec
      rw [if_pos ⟨hw,by simp only [List.length_append,hel];omega⟩]
      show num big _=v
      have:((pre++(enc m big v++rowB big p++post)).drop ((pre.length:Int)).toNat).take ((m:Int)).toNat=enc m big v:=by
        rw [Int.toNat_natCast,Int.toNat_natCast,List.drop_left,List.append_assoc]
        exact List.take_left' hel
      rw [this,num_enc]
      exact Int.emod_eq_of_lt (h0 (v,(m:Int)) (by simp)) hv
    · have:=gets_put (big:=big) p (pre++enc m big v) post hok'.2 (fun q hq=>h0 q (by simp [hq]))
      rw [← this]
      simp only [List.length_append,hel,List.append_assoc]
      rfl

theorem B_append {a b:List Int} (ha:B a) (hb:B b):B (a++b):=by
  intro x hx
  rcases List.mem_append.1 hx with h | h
  · exact ha x h
  · exact hb x h
end Go.Proofs.YtcffpnlochillaaGreatDoor.PvW
end
section
namespace Go.Proofs.YtcffpnlochillaaGreatDoor.PvW
open Go.RowKit Go.Proofs.YtcffpnlochillaaGreatDoor.AbP Go.Proofs.YtcffpnlochillaaGreatDoor.Num Go.Proofs.YtcffpnlochillaaGreatDoor.Pv
section
variable {α:Type} {big:Bool} {P:α→List (Int×Int)} {l:List α} {i:Nat} {x:α} {ns:List Int} {dec:List Int→α} {b:List Int} {k:Nat}
def recB (big:Bool) (P:α→List (Int×Int)) (l:List α):List Int:=l.flatMap fun x=>rowB big (P x)
theorem recB_len {n:Nat} (hl:∀ x,(rowB big (P x)).length=n):∀ l:List α,(recB big P l).length=l.length * n
  | []=>by simp [recB]
  | x :: l => by
    have:=recB_len hl l
    show (rowB big (P x)++recB big P l).length=_
    rw [List.length_append,this,hl,List.length_cons,Nat.succ_mul,Nat.add_comm]
theorem recB_take (h:l[i]? = some x):recB big P (l.take (i+1))=recB big P (l.take i)++rowB big (P x):=by
  rw [List.take_add_one,h]
  simp [recB]
theorem recB_B (l:List α):B (recB big P l):=by
  intro x hx
  obtain ⟨y,_,hy⟩:=List.mem_flatMap.1 hx
  exact rowB_B big (P y) x hy
theorem rowB_sum:∀ p:List (Int×Int),(∀ q ∈ p,wideB q.2=true)→((rowB big p).length:Int)=sumL (p.map (·.2))
  | [],_=>rfl
  | (v, n) :: p, h => by
    have ih:=rowB_sum p (fun q hq=>h q (by simp [hq]))
    have hw:=h (v,n) (by simp)
    obtain ⟨m,rfl,_,_⟩:=wide_nat hw
    show (((putSpec v (m:Int) big++rowB big p).length:Nat):Int)=(m:Int)+sumL (p.map (·.2))
    rw [List.length_append,putSpec_nat hw,enc_length,← ih]
    omega
end
end Go.Proofs.YtcffpnlochillaaGreatDoor.PvW
end
section
namespace Go.Proofs.YtcffpnlochillaaGreatDoor.PvW
open Go.RowKit Go.Proofs.YtcffpnlochillaaGreatDoor.Ab Go.Proofs.YtcffpnlochillaaGreatDoor.AbP Go.Proofs.YtcffpnlochillaaGreatDoor.Num Go.Proofs.YtcffpnlochillaaGreatDoor.Pv
theorem fitsn {x n:Int} {m:Nat} (hn:n.toNat=m) (hw:wideB n=true) (h0:x < 256 ^ m):fitsB x n=true:=by
  unfold fitsB
  rw [hw,Bool.true_and,hn]
  exact decide_eq_true h0
theorem drop_zero {α:Type} (l:List α):l.drop 0=l:=rfl
theorem ps_no {p:Prop} {dp:Decidable p} {A B:Prop} (h:¬ p) (hk:B):psel (.bool (@decide p dp)) A B:=by
  rw [decide_eq_false h]
  exact hk
theorem ps_yes {p:Prop} {dp:Decidable p} {A B:Prop} (h:p) (hk:A):psel (.bool (@decide p dp)) A B:=by
  rw [decide_eq_true h]
  exact hk

theorem wU32 (n:Int):IntKind.u32.wrap n=n % 4294967296:=by simp [IntKind.wrap,IntKind.signed,IntKind.bits]
theorem wU64 (n:Int):IntKind.u64.wrap n=n % 18446744073709551616:=by simp [IntKind.wrap,IntKind.signed,IntKind.bits]
theorem wI64 (n:Int):IntKind.i64.wrap n=(n+9223372036854775808) % 18446744073709551616 - 9223372036854775808:=by simp [IntKind.wrap,IntKind.signed,IntKind.bits];omega
theorem getSpec_range {b:List Int} (hB:B b) {a n:Int} {big:Bool} (m:Int) (hm:m=256 ^ n.toNat - 1):0≤(getSpec b a n big).1∧(getSpec b a n big).1≤m:=by
  unfold getSpec
  split
  · rename_i h
    have hs:B ((b.drop a.toNat).take n.toNat):=seg_B hB _ _
    have hr:=num_range (big:=big) hs
    have hl:((b.drop a.toNat).take n.toNat).length≤n.toNat:=by rw [List.length_take];exact Nat.min_le_left _ _
    have:=pow_mono hl
    exact ⟨hr.1,by omega⟩
  · have:=pow_pos n.toNat
    exact ⟨Int.le_refl _,by show (0:Int)≤m;omega⟩
theorem range4 {b:List Int} (hB:B b) (a:Int) (big:Bool):0≤(getSpec b a 4 big).1∧(getSpec b a 4 big).1≤4294967295:=getSpec_range hB _ (by decide)
theorem range2 {b:List Int} (hB:B b) (a:Int) (big:Bool):0≤(getSpec b a 2 big).1∧(getSpec b a 2 big).1≤65535:=getSpec_range hB _ (by decide)
section
variable {P:Program} {Z:Bs} {K:Env→List OB→Prop} {e:Env} {s s':List OB} {cs:List CO} {pr:List Operand} {d:Option Nat} {b n j es:Nat} {c:List PV} {g:Int}
end
end Go.Proofs.YtcffpnlochillaaGreatDoor.PvW
end
section
namespace Go.Proofs.YtcffpnlochillaaGreatDoor.PvW
open Go.RowKit Go.Proofs.YtcffpnlochillaaGreatDoor.Cd Go.Proofs.YtcffpnlochillaaGreatDoor.AbP Go.Proofs.YtcffpnlochillaaGreatDoor.Num Go.Proofs.YtcffpnlochillaaGreatDoor.Pv
abbrev dSpan:Ab.D:=(.st (.cons (.int .u64) (.cons (.int .u64) .nil)))
structure SpanN (f s:Int):Prop where
  f:0≤f∧f≤18446744073709551615
  s:0≤s∧s≤18446744073709551615

def lastB (f s:Int):Int:=if 18446744073709551615 - f < s - 1 then 18446744073709551615 else f+s - 1
def badP (f s g:Int):Prop:=g < f∨(0 < s∧g≤lastB f s)
def RisingP (l:List dSpan.T):Prop:=∀ (i:Nat) (x y:dSpan.T),l[i]? = some x→l[i+1]? = some y→¬ badP x.1 x.2.1 y.1
section
variable {K:PV→List OB→Prop} {w big:Bool} {o ab ty ma fl en st:Int} {segs:List dSeg.T} {secs:List dSec.T}
theorem last_spec {f s:Int} (hf:Om (0≤f∧f≤18446744073709551615)) (hs:Om (1≤s∧s≤18446744073709551615)) (hk:K (.int .u64 (lastB f s)) []):PCalls Tryz.prog 144 [.agg [.int .u64 f,.int .u64 s]] [] K:=by
  have hf:=hf.o
  have hs:=hs.o
  refine told_callP span_Span_last.told fun Z hZ=>?_
  unfold span_Span_last.c
  unfold lastB at hk
  by_cases h1:18446744073709551615 - f < s - 1
  · rw [if_pos h1] at hk
    refine W1 trivial @DD trivial ?_
    exact hk
  · rw [if_neg h1] at hk
    have hw:IntKind.wrap .u64 (IntKind.wrap .u64 (f+s) - 1)=f+s - 1:=by
      rw [wU64,wU64]
      omega
    rw [← hw] at hk
    refine W1 trivial @DD trivial ?_
    exact hk
theorem rising_spec {l:List dSpan.T} (hl:Om (l.length≤1000000)) (hN:∀ x ∈ l,SpanN x.1 x.2.1) (hk1:RisingP l→K (.bool true) []) (hk0:¬ RisingP l→K (.bool false) []) :
    PCalls Tryz.prog 107 [.sl dSpan l] [] K:=by
  have hl:=hl.o
  refine told_callP span_Rising.told fun Z hZ=>?_
  unfold span_Rising.c
  refine W1 trivial @DD trivial ?_
  refine w_lpG (fun q e s=>∃ i:Nat,q+i=l.length∧s=[]∧(∀ (k:Nat) (x y:dSpan.T),k < i→l[k]? = some x→l[k+1]? = some y→¬ badP x.1 x.2.1 y.1)∧e 0 = .sl dSpan l∧e 3 = .int .i64 ((i:Int)+1)) l.length ?_ ?_
  · exact ⟨0,rfl,rfl,fun k x y h=>absurd h (Nat.not_lt_zero k),by exact lk trivial,by exact lk trivial⟩
  rintro q e s ⟨i,hi,rfl,hall,e0,e3⟩
  by_cases hq:i+1 < l.length
  · obtain ⟨x,hx⟩:∃ x,l[i]? = some x:=⟨l[i],List.getElem?_eq_getElem (by omega)⟩
    obtain ⟨y,hy⟩:∃ y,l[i+1]? = some y:=⟨l[i+1],List.getElem?_eq_getElem hq⟩
    have nx:=hN x (List.mem_of_getElem? hx)
    have ny:=hN y (List.mem_of_getElem? hy)
    have hbad:badP x.1 x.2.1 y.1→¬ RisingP l:=fun h1 h2=>h2 i x y hx hy h1
    have hgood:¬ badP x.1 x.2.1 y.1→∀ (k:Nat) (x y:dSpan.T),k < i+1→l[k]? = some x→l[k+1]? = some y→¬ badP x.1 x.2.1 y.1:=fun h1 k x' y' hk hx' hy'=>by
      by_cases hki:k < i
      · exact hall k x' y' hki hx' hy'
      · obtain rfl:k=i:=by omega
        rw [hx] at hx';rw [hy] at hy'
        obtain rfl:=Option.some.inj hx'
        obtain rfl:=Option.some.inj hy'
        exact h1
    obtain ⟨xf,xs,u⟩:=x
    obtain ⟨yf,ys,u2⟩:=y
    obtain ⟨xf,rfl⟩:∃ v:Int,v=xf:=⟨xf,rfl⟩
    obtain ⟨xs,rfl⟩:∃ v:Int,v=xs:=⟨xs,rfl⟩
    obtain ⟨yf,rfl⟩:∃ v:Int,v=yf:=⟨yf,rfl⟩
    dsimp only at nx ny hbad hgood
    obtain ⟨nf,ns⟩:=nx
    obtain ⟨mf,ms⟩:=ny
    unfold badP at hbad hgood
    have hy':l[((i:Int)+1).toNat]? = some (yf,ys,u2):=hy
    have hi1:(i:Int)+1 - 1=i:=by omega
    have hi2:((i:Int)+1).toNat=i+1:=by omega
    by_cases h1:@LT.lt Int _ yf xf
    · have:=hk0 (hbad (.inl h1))
      refine W1 (And.intro @e0 @e3) (And.intro @DD (And.intro @hi1 @hi2)) trivial ?_
      exact this
    by_cases h2:@LT.lt Int _ 0 xs
    · have hlb : -1≤lastB xf xs∧lastB xf xs≤18446744073709551615:=by unfold lastB;split <;> omega
      by_cases h3:@LE.le Int _ yf (lastB xf xs)
      · have:=hk0 (hbad (.inr ⟨h2,h3⟩))
        refine W1 (And.intro @e0 @e3) (And.intro @DD (And.intro @hi1 @hi2)) @last_spec ?_
        exact this
      · have hg:=hgood (fun h=>h.elim h1 fun h=>h3 h.2)
        refine W1 (And.intro @e0 @e3) (And.intro @DD (And.intro @hi1 @hi2)) @last_spec ?_
        exact ⟨q - 1,by omega,_,_,Gh.sel [] (by decide) (hz0 hZ),i+1,by omega,rfl,hg,by exact lk @e0,by exact lk @e3⟩
    · have hg:=hgood (fun h=>h.elim h1 fun h=>h2 h.1)
      refine W1 (And.intro @e0 @e3) (And.intro @DD (And.intro @hi1 @hi2)) @last_spec ?_
      exact ⟨q - 1,by omega,_,_,Gh.sel [] (by decide) (hz0 hZ),i+1,by omega,rfl,hg,by exact lk @e0,by exact lk @e3⟩
  · have:=hk1 (fun k x y hx hy=>hall k x y (by have:=(List.getElem?_eq_some_iff.1 hy).1;omega) hx hy)
    refine W1 (And.intro @e0 @e3) @DD trivial ?_
    exact this
end
end Go.Proofs.YtcffpnlochillaaGreatDoor.PvW
end

/- A heap of plain values, walks over it, and functions of the program met by them: no statement of the set is proved in this text. -/
import Derived.Test.YtcffpnlochillaaKb08
set_option linter.unusedVariables false
set_option linter.unusedSimpArgs false
set_option maxRecDepth 100000
set_option maxHeartbeats 4000000
section
namespace Go.Proofs.Ytcffpnlochillaa.PvW
open Go.RowKit Go.Proofs.Ytcffpnlochillaa.Cd Go.Proofs.Ytcffpnlochillaa.AbP Go.Proofs.Ytcffpnlochillaa.Num Go.Proofs.Ytcffpnlochillaa.Pv
variable {K:PV→List OB→Prop}
abbrev eCode (c:Int):PV:=.ifc 70 (.int .i64 c)
theorem cmpC:Ab.cmpInt Try.prog 70=true:=by kernel_rfl
theorem eqC (a b:Int) (c:Bool):peqI Try.prog false c (eCode a) (eCode b)=some (a == b):=by
  simp [peqI,cmpC,Ab.nb]
theorem code_spec {c:Int} (h:Om (1≤c∧c≤12)) (hk:K (.int .i64 c) []):PCalls Try.prog 11 [eCode c] [] K:=by
  refine told_callP bezantlaw00_Code.told fun Z hZ=>?_
  unfold bezantlaw00_Code.c
  obtain ⟨h1,h2⟩:=h.o
  refine W1 trivial trivial trivial ?_
  refine w_lp (fun q e s=>s=[]∧∃ i:Int,q=(c - i).toNat∧1≤i∧i≤c∧e 0=eCode c∧e 3 = .int .i64 i) (c - 1).toNat ?_ ?_
  · exact ⟨rfl,1,rfl,by omega,h1,by exact lk trivial,by exact lk trivial⟩
  rintro q e s ⟨rfl,i,rfl,hi1,hi2,e0,e3⟩
  by_cases hq:i=c
  · subst hq
    refine W1 (And.intro @e0 @e3) (And.intro @DD @eqC) trivial ?_
    exact hk
  · have hb:(c == i)=false:=by simp;omega
    refine W1 (And.intro @e0 @e3) (And.intro @DD (And.intro @eqC @hb)) trivial ?_
    exact ⟨_,by omega,rfl,i+1,rfl,by omega,by omega,by exact lk @e0,by exact lk @e3⟩
end Go.Proofs.Ytcffpnlochillaa.PvW
end
section
namespace Go.Proofs.Ytcffpnlochillaa.PvW
open Go.RowKit Go.Proofs.Ytcffpnlochillaa.AbP Go.Proofs.Ytcffpnlochillaa.Num Go.Proofs.Ytcffpnlochillaa.Pv
theorem fits_cases {v n:Int} (h:fitsB v n=true):∃ m:Nat,n=(m:Int)∧1≤m∧m≤8∧wideB n=true∧v < 256 ^ m:=by
  unfold fitsB at h
  rw [Bool.and_eq_true] at h
  obtain ⟨m,rfl,h1,h2⟩:=wide_nat h.1
  refine ⟨m,rfl,h1,h2,h.1,?_⟩
  have:=h.2
  simpa using this
theorem putSpec_nat {v:Int} {m:Nat} {big:Bool} (hw:wideB (m:Int)=true):putSpec v m big=enc m big v:=by
  unfold putSpec
  rw [if_pos hw]
  rfl

theorem gets_put {big:Bool}:∀ (p:List (Int×Int)) (pre post:List Int),rowOk p=true→(∀ q ∈ p,0≤q.1)→gets (pre++(rowB big p++post)) big pre.length (p.map (·.2))=p.map (·.1)
  | [],pre,post,_,_=>rfl
  | (v, n) :: p, pre, post, hok, h0 => by
    have hok':fitsB v n=true∧rowOk p=true:=by
      simp only [rowOk,List.all_cons,Bool.and_eq_true] at hok
      exact hok
    obtain ⟨m,rfl,h1,h2,hw,hv⟩:=fits_cases hok'.1
    have hrow:rowB big ((v,(m:Int))::p)=enc m big v++rowB big p:=by
      show putSpec v m big++rowB big p=_
      rw [putSpec_nat hw]
    have hel:(enc m big v).length=m:=enc_length _ _ _
    show (getSpec _ _ _ _).1::gets _ big _ (p.map (·.2))=v::p.map (·.1)
    rw [hrow]
    congr 1
    · unfold getSpec
      rw [if_pos ⟨hw,by simp only [List.length_append,hel];omega⟩]
      show num big _=v
      have:((pre++(enc m big v++rowB big p++post)).drop ((pre.length:Int)).toNat).take ((m:Int)).toNat=enc m big v:=by
        rw [Int.toNat_natCast,Int.toNat_natCast,List.drop_left,List.append_assoc]
        exact List.take_left' hel
      rw [this,num_enc]
      exact Int.emod_eq_of_lt (h0 (v,(m:Int)) (by simp)) hv
    · have:=gets_put (big:=big) p (pre++enc m big v) post hok'.2 (fun q hq=>h0 q (by simp [hq]))
      rw [← this]
      simp only [List.length_append,hel,List.append_assoc]
      rfl

theorem B_append {a b:List Int} (ha:B a) (hb:B b):B (a++b):=by
  intro x hx
  rcases List.mem_append.1 hx with h | h
  · exact ha x h
  · exact hb x h
end Go.Proofs.Ytcffpnlochillaa.PvW
end
section
namespace Go.Proofs.Ytcffpnlochillaa.PvW
open Go.RowKit Go.Proofs.Ytcffpnlochillaa.AbP Go.Proofs.Ytcffpnlochillaa.Num Go.Proofs.Ytcffpnlochillaa.Pv
section
variable {α:Type} {big:Bool} {P:α→List (Int×Int)} {l:List α} {i:Nat} {x:α} {ns:List Int} {dec:List Int→α} {b:List Int} {k:Nat}
def recB (big:Bool) (P:α→List (Int×Int)) (l:List α):List Int:=l.flatMap fun x=>rowB big (P x)
theorem recB_len {n:Nat} (hl:∀ x,(rowB big (P x)).length=n):∀ l:List α,(recB big P l).length=l.length * n
  | []=>by simp [recB]
  | x :: l => by
    have:=recB_len hl l
    show (rowB big (P x)++recB big P l).length=_
    rw [List.length_append,this,hl,List.length_cons,Nat.succ_mul,Nat.add_comm]
theorem recB_take (h:l[i]? = some x):recB big P (l.take (i+1))=recB big P (l.take i)++rowB big (P x):=by
  rw [List.take_add_one,h]
  simp [recB]
theorem recB_B (l:List α):B (recB big P l):=by
  intro x hx
  obtain ⟨y,_,hy⟩:=List.mem_flatMap.1 hx
  exact rowB_B big (P y) x hy
theorem rowB_sum:∀ p:List (Int×Int),(∀ q ∈ p,wideB q.2=true)→((rowB big p).length:Int)=sumL (p.map (·.2))
  | [],_=>rfl
  | (v, n) :: p, h => by
    have ih:=rowB_sum p (fun q hq=>h q (by simp [hq]))
    have hw:=h (v,n) (by simp)
    obtain ⟨m,rfl,_,_⟩:=wide_nat hw
    show (((putSpec v (m:Int) big++rowB big p).length:Nat):Int)=(m:Int)+sumL (p.map (·.2))
    rw [List.length_append,putSpec_nat hw,enc_length,← ih]
    omega
end
end Go.Proofs.Ytcffpnlochillaa.PvW
end
section
namespace Go.Proofs.Ytcffpnlochillaa.PvW
open Go.RowKit Go.Proofs.Ytcffpnlochillaa.Ab Go.Proofs.Ytcffpnlochillaa.AbP Go.Proofs.Ytcffpnlochillaa.Num Go.Proofs.Ytcffpnlochillaa.Pv
theorem fitsn {x n:Int} {m:Nat} (hn:n.toNat=m) (hw:wideB n=true) (h0:x < 256 ^ m):fitsB x n=true:=by
  unfold fitsB
  rw [hw,Bool.true_and,hn]
  exact decide_eq_true h0
theorem drop_zero {α:Type} (l:List α):l.drop 0=l:=rfl
theorem ps_no {p:Prop} {dp:Decidable p} {A B:Prop} (h:¬ p) (hk:B):psel (.bool (@decide p dp)) A B:=by
  rw [decide_eq_false h]
  exact hk
theorem ps_yes {p:Prop} {dp:Decidable p} {A B:Prop} (h:p) (hk:A):psel (.bool (@decide p dp)) A B:=by
  rw [decide_eq_true h]
  exact hk

theorem wU32 (n:Int):IntKind.u32.wrap n=n % 4294967296:=by simp [IntKind.wrap,IntKind.signed,IntKind.bits]
theorem wU64 (n:Int):IntKind.u64.wrap n=n % 18446744073709551616:=by simp [IntKind.wrap,IntKind.signed,IntKind.bits]
theorem wI64 (n:Int):IntKind.i64.wrap n=(n+9223372036854775808) % 18446744073709551616 - 9223372036854775808:=by simp [IntKind.wrap,IntKind.signed,IntKind.bits];omega
theorem getSpec_range {b:List Int} (hB:B b) {a n:Int} {big:Bool} (m:Int) (hm:m=256 ^ n.toNat - 1):0≤(getSpec b a n big).1∧(getSpec b a n big).1≤m:=by
  unfold getSpec
  split
  · rename_i h
    have hs:B ((b.drop a.toNat).take n.toNat):=seg_B hB _ _
    have hr:=num_range (big:=big) hs
    have hl:((b.drop a.toNat).take n.toNat).length≤n.toNat:=by rw [List.length_take];exact Nat.min_le_left _ _
    have:=pow_mono hl
    exact ⟨hr.1,by omega⟩
  · have:=pow_pos n.toNat
    exact ⟨Int.le_refl _,by show (0:Int)≤m;omega⟩
theorem range4 {b:List Int} (hB:B b) (a:Int) (big:Bool):0≤(getSpec b a 4 big).1∧(getSpec b a 4 big).1≤4294967295:=getSpec_range hB _ (by decide)
theorem range2 {b:List Int} (hB:B b) (a:Int) (big:Bool):0≤(getSpec b a 2 big).1∧(getSpec b a 2 big).1≤65535:=getSpec_range hB _ (by decide)
section
variable {P:Program} {Z:Bs} {K:Env→List OB→Prop} {e:Env} {s s':List OB} {cs:List CO} {pr:List Operand} {d:Option Nat} {b n j es:Nat} {c:List PV} {g:Int}
end
end Go.Proofs.Ytcffpnlochillaa.PvW
end

/- A heap of plain values, walks over it, and functions of the program met by them: no statement of the set is proved in this text. -/
import Derived.Test.YtcffpnlochillaaGreatDoorKb11
set_option linter.unusedVariables false
set_option linter.unusedSimpArgs false
set_option maxRecDepth 100000
set_option maxHeartbeats 4000000
section
namespace Go.Proofs.YtcffpnlochillaaGreatDoor.PvW
open Go.RowKit Go.Proofs.YtcffpnlochillaaGreatDoor.Cd Go.Proofs.YtcffpnlochillaaGreatDoor.AbP Go.Proofs.YtcffpnlochillaaGreatDoor.Num Go.Proofs.YtcffpnlochillaaGreatDoor.Pv
section
variable {K:PV→List OB→Prop} {w big:Bool} {o ab ty ma fl en st:Int} {segs:List dSeg.T} {secs:List dSec.T}
theorem few_spec (hL:∀ s ∈ segs,s.2.2.2.2.2.2.1.2.2.2.1.length≤281474976710656) (hM:∀ s ∈ secs,s.2.2.2.2.2.2.2.2.2.1.2.2.2.1.length≤281474976710656)
    (hk1:segs.length≤20→secs.length≤70→(∀ s ∈ segs,s.2.2.2.2.2.2.1.2.2.2.1.length≤100000)→(∀ s ∈ secs,s.2.2.2.2.2.2.2.2.2.1.2.2.2.1.length≤100000)→K (.int .i64 1) []) (hk0:K (.int .i64 0) []) :
    PCalls Tryz.prog 12 [.agg [.bool w,.bool big,.int .u8 o,.int .u8 ab,.int .u16 ty,.int .u16 ma,.int .u32 fl,.int .u64 en,.sl dSeg segs,.sl dSec secs,.int .i64 st]] [] K:=by
  refine told_callP bezantlaw00_Few.told fun Z hZ=>?_
  unfold bezantlaw00_Few.c
  by_cases h1:20 < (segs.length:Int)
  · refine W1 trivial @DD trivial ?_
    exact hk0
  by_cases h2:70 < (secs.length:Int)
  · refine W1 trivial @DD trivial ?_
    exact hk0
  refine W1 trivial @DD trivial ?_
  refine w_lp (fun q e s=>s=[.var [.bool w,.bool big,.int .u8 o,.int .u8 ab,.int .u16 ty,.int .u16 ma,.int .u32 fl,.int .u64 en,.sl dSeg segs,.sl dSec secs,.int .i64 st]]∧∃ i t:Nat,q+i=segs.length∧t≤i * 281474976710656∧(∀ y ∈ segs.take i,y.2.2.2.2.2.2.1.2.2.2.1.length≤t)∧e 1 = .ptr 0 0∧e 3 = .int .i64 t∧e 4 = .int .i64 i) segs.length ?_ ?_
  · exact ⟨rfl,0,0,rfl,by decide,fun y hy=>(by cases hy),by exact lk trivial,by exact lk trivial,by exact lk trivial⟩
  rintro q e s ⟨rfl,i,t,hi,ht,hall,e1,e3,e4⟩
  by_cases hq:i < segs.length
  · obtain ⟨x,hx⟩:∃ x,segs[i]? = some x:=⟨segs[i],List.getElem?_eq_getElem hq⟩
    have hx0:=hL x (List.mem_of_getElem? hx)
    have htk:segs.take (i+1)=segs.take i++[x]:=by rw [List.take_add_one,hx];rfl
    have hat:∀ y ∈ segs.take (i+1),y.2.2.2.2.2.2.1.2.2.2.1.length≤t+x.2.2.2.2.2.2.1.2.2.2.1.length:=fun y hy=>by
      rw [htk] at hy
      rcases List.mem_append.1 hy with hy | hy
      · exact Nat.le_trans (hall y hy) (Nat.le_add_right _ _)
      · obtain rfl:=List.mem_singleton.1 hy;exact Nat.le_add_left _ _
    obtain ⟨sty,sfl,sva,spa,sme,sal,⟨si,so,sz,sown,u⟩,u2⟩:=x
    dsimp only at hx0 hat
    refine W1 (And.intro @e1 (And.intro @e3 @e4)) @DD trivial ?_
    exact ⟨q - 1,by omega,rfl,i+1,t+sown.length,by omega,by omega,hat,by exact lk @e1,by exact lk @e3,by exact lk @e4⟩
  obtain rfl:i=segs.length:=by omega
  rw [List.take_length] at hall
  refine W1 (And.intro @e1 (And.intro @e3 @e4)) @DD trivial ?_
  obtain ⟨B0,hB0⟩:∃ B0:Nat,B0=20 * 281474976710656:=⟨_,rfl⟩
  have ht0:t≤B0+0 * 281474976710656:=by omega
  refine w_lp (fun q e s=>s=[.var [.bool w,.bool big,.int .u8 o,.int .u8 ab,.int .u16 ty,.int .u16 ma,.int .u32 fl,.int .u64 en,.sl dSeg segs,.sl dSec secs,.int .i64 st]]∧∃ i t:Nat,q+i=secs.length∧t≤B0+i * 281474976710656∧(∀ y ∈ segs,y.2.2.2.2.2.2.1.2.2.2.1.length≤t)∧(∀ y ∈ secs.take i,y.2.2.2.2.2.2.2.2.2.1.2.2.2.1.length≤t)∧e 1 = .ptr 0 0∧e 3 = .int .i64 t∧e 5 = .int .i64 i) secs.length ?_ ?_
  · exact ⟨rfl,0,t,rfl,ht0,hall,fun y hy=>(by cases hy),by exact lk @e1,by exact lk @e3,by exact lk trivial⟩
  clear e1 e3 e4 ht ht0 hall
  rintro q e s ⟨rfl,i,t,hi,ht,hseg,hall,e1,e3,e5⟩
  by_cases hq:i < secs.length
  · obtain ⟨x,hx⟩:∃ x,secs[i]? = some x:=⟨secs[i],List.getElem?_eq_getElem hq⟩
    have hx0:=hM x (List.mem_of_getElem? hx)
    have htk:secs.take (i+1)=secs.take i++[x]:=by rw [List.take_add_one,hx];rfl
    have hat:∀ y ∈ secs.take (i+1),y.2.2.2.2.2.2.2.2.2.1.2.2.2.1.length≤t+x.2.2.2.2.2.2.2.2.2.1.2.2.2.1.length:=fun y hy=>by
      rw [htk] at hy
      rcases List.mem_append.1 hy with hy | hy
      · exact Nat.le_trans (hall y hy) (Nat.le_add_right _ _)
      · obtain rfl:=List.mem_singleton.1 hy;exact Nat.le_add_left _ _
    obtain ⟨nm,sty,sfl,sad,ssi,sli,ssf,sal,sen,⟨si,so,sz,sown,u⟩,u2⟩:=x
    dsimp only at hx0 hat
    refine W1 (And.intro @e1 (And.intro @e3 @e5)) @DD trivial ?_
    exact ⟨q - 1,by omega,rfl,i+1,t+sown.length,by omega,by omega,fun y hy=>Nat.le_trans (hseg y hy) (Nat.le_add_right _ _),hat,by exact lk @e1,by exact lk @e3,by exact lk @e5⟩
  obtain rfl:i=secs.length:=by omega
  rw [List.take_length] at hall
  by_cases h3:100000 < (t:Int)
  · refine W1 (And.intro @e1 (And.intro @e3 @e5)) @DD trivial ?_
    exact hk0
  · have:=hk1 (by omega) (by omega) (fun y hy=>Nat.le_trans (hseg y hy) (by omega)) (fun y hy=>Nat.le_trans (hall y hy) (by omega))
    refine W1 (And.intro @e1 (And.intro @e3 @e5)) @DD trivial ?_
    exact this
end
end Go.Proofs.YtcffpnlochillaaGreatDoor.PvW
end
section
namespace Go.Proofs.YtcffpnlochillaaGreatDoor.PvW
open Go.RowKit Go.Proofs.YtcffpnlochillaaGreatDoor.Cd Go.Proofs.YtcffpnlochillaaGreatDoor.AbP Go.Proofs.YtcffpnlochillaaGreatDoor.Num Go.Proofs.YtcffpnlochillaaGreatDoor.Pv
abbrev dIdentM:Ab.D:=(.cons (.st (.cons .bool (.cons .bool .nil))) (.cons (.int .u8) (.cons (.int .u8) .nil)))
theorem identM_same (w big:Bool) (o ab:Int):EqS Tryz.prog 25 [.bool w,.bool big,.int .u8 o,.int .u8 ab] [.bool w,.bool big,.int .u8 o,.int .u8 ab] true :=
  EqS.same dIdentM (by decide) (by kernel_rfl) (by kernel_rfl) (by decide) ((w,big,()),o,ab,()) rfl
section
variable {K:PV→List OB→Prop} {w big:Bool} {o ab ty ma fl en st:Int} {segs:List dSeg.T} {secs:List dSec.T}
theorem bequal_spec {l:List Int} (hl:Om (l.length≤1000000)) (hk:K (.bool true) []):PCalls Tryz.prog 110 [.sl (.int .u8) l,.sl (.int .u8) l] [] K:=by
  refine told_callP bytes_Equal.told fun Z hZ=>?_
  unfold bytes_Equal.c
  have hbs:∀ s:List UInt8,(s == s)=true:=fun s=>beq_self_eq_true s
  refine W1 trivial (And.intro @DD @hbs) trivial ?_
  exact hk
theorem mat_spec {i off sz:Int} {own:List Int} (hl:Om (own.length≤1000000)) (hk:K (.bool true) []):PCalls Tryz.prog 49 [.agg [.int .i64 i,.int .u64 off,.int .u64 sz,.sl (.int .u8) own],.agg [.int .i64 i,.int .u64 off,.int .u64 sz,.sl (.int .u8) own]] [] K:=by
  have hl:=hl.o
  refine told_callP model_at.told fun Z hZ=>?_
  unfold model_at.c
  refine W1 trivial @DD @bequal_spec ?_
  exact hk
theorem sameG_spec {ty fl va pa me al i off sz:Int} {own:List Int} (hl:Om (own.length≤1000000)) (hk:K (.bool true) []):PCalls Tryz.prog 48 [.agg [.int .u32 ty,.int .u32 fl,.int .u64 va,.int .u64 pa,.int .u64 me,.int .u64 al,.int .i64 i,.int .u64 off,.int .u64 sz,.sl (.int .u8) own],.agg [.int .u32 ty,.int .u32 fl,.int .u64 va,.int .u64 pa,.int .u64 me,.int .u64 al,.int .i64 i,.int .u64 off,.int .u64 sz,.sl (.int .u8) own]] [] K:=by
  have hl:=hl.o
  refine told_callP model_Same_1.told fun Z hZ=>?_
  unfold model_Same_1.c
  refine W1 trivial @DD @mat_spec ?_
  exact hk
theorem sameC_spec {nm ty fl ad si li sf al en i off sz:Int} {own:List Int} (hl:Om (own.length≤1000000)) (hk:K (.bool true) []):PCalls Tryz.prog 50 [.agg [.int .u32 nm,.int .u32 ty,.int .u64 fl,.int .u64 ad,.int .u64 si,.int .u32 li,.int .u32 sf,.int .u64 al,.int .u64 en,.int .i64 i,.int .u64 off,.int .u64 sz,.sl (.int .u8) own],.agg [.int .u32 nm,.int .u32 ty,.int .u64 fl,.int .u64 ad,.int .u64 si,.int .u32 li,.int .u32 sf,.int .u64 al,.int .u64 en,.int .i64 i,.int .u64 off,.int .u64 sz,.sl (.int .u8) own]] [] K:=by
  have hl:=hl.o
  refine told_callP model_Same_2.told fun Z hZ=>?_
  unfold model_Same_2.c
  refine W1 trivial @DD @mat_spec ?_
  exact hk
theorem eqfG_spec (hl:Om (segs.length≤1000000)) (hL:∀ s ∈ segs,s.2.2.2.2.2.2.1.2.2.2.1.length≤1000000) (hk:K (.bool true) []) :
    PCalls Tryz.prog 51 [.sl dSeg segs,.sl dSeg segs,.fn 48 [] []] [] K:=by
  have hl:=hl.o
  refine told_callP slices_EqualFunc_api_Seg_api_Seg_api_Seg_api_Seg.told fun Z hZ=>?_
  unfold slices_EqualFunc_api_Seg_api_Seg_api_Seg_api_Seg.c
  refine W1 trivial @DD trivial ?_
  refine w_lpG (fun q e s=>∃ i:Nat,q+i=segs.length∧s=[]∧e 0 = .sl dSeg segs∧e 1 = .sl dSeg segs∧e 2 = .fn 48 [] []∧e 15 = .sl dSeg segs∧e 16 = .int .i64 segs.length∧e 17 = .int .i64 i) segs.length ?_ ?_
  · exact ⟨0,rfl,rfl,by exact lk trivial,by exact lk trivial,by exact lk trivial,by exact lk trivial,by exact lk trivial,by exact lk trivial⟩
  rintro q e s ⟨i,hi,rfl,e0,e1,e2,e15,e16,e17⟩
  by_cases hq:i < segs.length
  · obtain ⟨x,hx⟩:∃ x,segs[i]? = some x:=⟨segs[i],List.getElem?_eq_getElem hq⟩
    have hx0:=hL x (List.mem_of_getElem? hx)
    obtain ⟨sty,sfl,sva,spa,sme,sal,⟨si,so,sz,sown,u⟩,u2⟩:=x
    dsimp only at hx0
    refine W1 (And.intro @e0 (And.intro @e1 (And.intro @e2 (And.intro @e15 (And.intro @e16 @e17))))) @DD trivial ?_
    refine sameG_spec ⟨hx0⟩ ?_
    refine W1 (And.intro @e0 (And.intro @e1 (And.intro @e2 (And.intro @e15 (And.intro @e16 @e17))))) @DD trivial ?_
    exact ⟨q - 1,by omega,_,_,Gh.sel [] (by decide) (hz0 hZ),i+1,by omega,rfl,by exact lk @e0,by exact lk @e1,by exact lk @e2,by exact lk @e15,by exact lk @e16,by exact lk @e17⟩
  · refine W1 (And.intro @e0 (And.intro @e1 (And.intro @e2 (And.intro @e15 (And.intro @e16 @e17))))) @DD trivial ?_
    exact hk
theorem eqfC_spec (hl:Om (secs.length≤1000000)) (hL:∀ s ∈ secs,s.2.2.2.2.2.2.2.2.2.1.2.2.2.1.length≤1000000) (hk:K (.bool true) []) :
    PCalls Tryz.prog 52 [.sl dSec secs,.sl dSec secs,.fn 50 [] []] [] K:=by
  have hl:=hl.o
  refine told_callP slices_EqualFunc_api_Sec_api_Sec_api_Sec_api_Sec.told fun Z hZ=>?_
  unfold slices_EqualFunc_api_Sec_api_Sec_api_Sec_api_Sec.c
  refine W1 trivial @DD trivial ?_
  refine w_lpG (fun q e s=>∃ i:Nat,q+i=secs.length∧s=[]∧e 0 = .sl dSec secs∧e 1 = .sl dSec secs∧e 2 = .fn 50 [] []∧e 15 = .sl dSec secs∧e 16 = .int .i64 secs.length∧e 17 = .int .i64 i) secs.length ?_ ?_
  · exact ⟨0,rfl,rfl,by exact lk trivial,by exact lk trivial,by exact lk trivial,by exact lk trivial,by exact lk trivial,by exact lk trivial⟩
  rintro q e s ⟨i,hi,rfl,e0,e1,e2,e15,e16,e17⟩
  by_cases hq:i < secs.length
  · obtain ⟨x,hx⟩:∃ x,secs[i]? = some x:=⟨secs[i],List.getElem?_eq_getElem hq⟩
    have hx0:=hL x (List.mem_of_getElem? hx)
    obtain ⟨nm,sty,sfl,sad,ssi,sli,ssf,sal,sen,⟨si,so,sz,sown,u⟩,u2⟩:=x
    dsimp only at hx0
    refine W1 (And.intro @e0 (And.intro @e1 (And.intro @e2 (And.intro @e15 (And.intro @e16 @e17))))) @DD trivial ?_
    refine sameC_spec ⟨hx0⟩ ?_
    refine W1 (And.intro @e0 (And.intro @e1 (And.intro @e2 (And.intro @e15 (And.intro @e16 @e17))))) @DD trivial ?_
    exact ⟨q - 1,by omega,_,_,Gh.sel [] (by decide) (hz0 hZ),i+1,by omega,rfl,by exact lk @e0,by exact lk @e1,by exact lk @e2,by exact lk @e15,by exact lk @e16,by exact lk @e17⟩
  · refine W1 (And.intro @e0 (And.intro @e1 (And.intro @e2 (And.intro @e15 (And.intro @e16 @e17))))) @DD trivial ?_
    exact hk

theorem same_spec (hl:Om (segs.length≤1000000∧secs.length≤1000000)) (hL:∀ s ∈ segs,s.2.2.2.2.2.2.1.2.2.2.1.length≤1000000) (hM:∀ s ∈ secs,s.2.2.2.2.2.2.2.2.2.1.2.2.2.1.length≤1000000) (hk:K (.bool true) []) :
    PCalls Tryz.prog 18 [.agg [.bool w,.bool big,.int .u8 o,.int .u8 ab,.int .u16 ty,.int .u16 ma,.int .u32 fl,.int .u64 en,.sl dSeg segs,.sl dSec secs,.int .i64 st],.agg [.bool w,.bool big,.int .u8 o,.int .u8 ab,.int .u16 ty,.int .u16 ma,.int .u32 fl,.int .u64 en,.sl dSeg segs,.sl dSec secs,.int .i64 st]] [] K:=by
  have hl:=hl.o
  have hq:=identM_same w big o ab
  refine told_callP model_Same.told fun Z hZ=>?_
  unfold model_Same.c
  refine W1 trivial @DD trivial ?_
  refine eqfG_spec ⟨hl.1⟩ hL ?_
  refine W1 trivial @DD trivial ?_
  refine eqfC_spec ⟨hl.2⟩ hM ?_
  refine W1 trivial @DD trivial ?_
  exact hk
end
end Go.Proofs.YtcffpnlochillaaGreatDoor.PvW
end
section
namespace Go.Proofs.YtcffpnlochillaaGreatDoor.PvW
open Go.RowKit Go.Proofs.YtcffpnlochillaaGreatDoor.Cd Go.Proofs.YtcffpnlochillaaGreatDoor.AbP Go.Proofs.YtcffpnlochillaaGreatDoor.Num Go.Proofs.YtcffpnlochillaaGreatDoor.Pv
inductive WkA:List PV→List PV→Prop
  | z:WkA [] []
  | c (p:PV) {a b:List PV} (h:WkA a b):WkA (p::a) (p::b)
  | n (D':Ab.D) {a b:List PV} (h:WkA a b):WkA (.nilS::a) (.sl D' []::b)
  | g {l l' a b:List PV} (h0:WkA l l') (h:WkA a b):WkA (.agg l::a) (.agg l'::b)
theorem WkA.ok {X:Cx} {a b:List PV} (h:WkA a b):∀ {us:List Value},PRs X a us→PRs X b us:=by
  induction h with
  | z=>exact fun h=>h
  | c p h ih =>
    intro us hu
    obtain ⟨v,t,rfl,h1,h2⟩:=hu.uncons
    exact .cons h1 (ih h2)
  | n D' h ih =>
    intro us hu
    obtain ⟨v,t,rfl,h1,h2⟩:=hu.uncons
    rw [h1.nilS_inv]
    exact .cons (.sl D' [] _ (Is_nilS _ D')) (ih h2)
  | g h0 h ih0 ih =>
    intro us hu
    obtain ⟨v,t,rfl,h1,h2⟩:=hu.uncons
    obtain ⟨a',rfl,h3⟩:=h1.agg_inv
    have h4:=ih0 h3
    exact .cons (.agg _ a' h4.1 h4.2) (ih h2)
theorem PCalls.wkA {P:Program} {g:FuncId} {a b:List PV} {s:List OB} {K:PV→List OB→Prop} (h:WkA a b) (hk:PCalls P g b s K):PCalls P g a s K:=fun hp E i vs S A=>hk hp E i vs S (h.ok A)
theorem WkA.mdi (w big:Bool) (o ab ty ma fl en st:Int):WkA [.bool w,.bool big,.int .u8 o,.int .u8 ab,.int .u16 ty,.int .u16 ma,.int .u32 fl,.int .u64 en,.nilS,.nilS,.int .i64 st] [.bool w,.bool big,.int .u8 o,.int .u8 ab,.int .u16 ty,.int .u16 ma,.int .u32 fl,.int .u64 en,.sl dSeg [],.sl dSec [],.int .i64 st] :=
  .c _ (.c _ (.c _ (.c _ (.c _ (.c _ (.c _ (.c _ (.n dSeg (.n dSec (.c _ .z))))))))))
theorem first_zero {α:Type} {f:α→Int}:∀ (l:List α),firstC f l=0→∀ x ∈ l,f x=0
  | [],_,x,hx=>by cases hx
  | y :: l, h, x, hx => by
    have h:(if f y≠0 then f y else firstC f l)=0:=h
    by_cases h0:f y=0
    · rw [if_neg (fun h=>h h0)] at h
      rcases List.mem_cons.1 hx with rfl | hx
      · exact h0
      · exact first_zero l h x hx
    · rw [if_pos h0] at h
      exact absurd h h0
structure ModelOk (w:Bool) (en:Int) (segs:List dSeg.T) (secs:List dSec.T) (st:Int):Prop where
  l16:segs.length≤16
  l64:secs.length≤64
  fits:fitsM w en segs secs=true
  seg:∀ s ∈ segs,segCx w segs s=0
  ris:RisingP (loadsL segs)
  sec:∀ s ∈ secs,secCx segs secs.length s=0
  nam:namesC secs st=0
theorem modelOk {w:Bool} {en st:Int} {segs:List dSeg.T} {secs:List dSec.T} (h:wrongC w en segs secs st=0):ModelOk w en segs secs st:=by
  unfold wrongC at h
  by_cases h1:16 < segs.length∨64 < secs.length
  · rw [if_pos h1] at h;cases h
  rw [if_neg h1] at h
  by_cases h2:fitsM w en segs secs=false
  · rw [if_pos h2] at h;cases h
  rw [if_neg h2] at h
  by_cases h3:firstC (segCx w segs) segs=0
  rotate_left
  · rw [if_pos h3] at h;exact absurd h h3
  rw [if_neg (fun h=>h h3)] at h
  by_cases h4:RisingP (loadsL segs)
  rotate_left
  · rw [if_pos h4] at h;cases h
  rw [if_neg (fun h=>h h4)] at h
  by_cases h5:firstC (secCx segs secs.length) secs=0
  rotate_left
  · rw [if_pos h5] at h;exact absurd h h5
  rw [if_neg (fun h=>h h5)] at h
  exact ⟨by omega,by omega,by revert h2;cases fitsM w en segs secs <;> simp,first_zero _ h3,h4,first_zero _ h5,h⟩
theorem segC_zero {w:Bool} {segs:List dSeg.T} {ty va me al i off sz:Int} {own:List Int} (h:segC w segs ty va me al i off sz own=0) :
    andI al ((al - 1) % 18446744073709551616)=0∧placeOk segs i off sz own=true∧(ty=1→i = -1∧sz≤me∧¬ (roomB w va < me∧(roomB w va≠0∨va≠0))):=by
  unfold segC at h
  by_cases h1:andI al ((al - 1) % 18446744073709551616)=0
  rotate_left
  · rw [if_pos h1] at h;cases h
  rw [if_neg (fun h=>h h1)] at h
  by_cases h2:placeOk segs i off sz own=false∨(ty=1∧i≠-1)
  · rw [if_pos h2] at h;cases h
  rw [if_neg h2] at h
  have hp:placeOk segs i off sz own=true:=by
    cases hp:placeOk segs i off sz own with
    | true=>rfl
    | false=>exact absurd (.inl hp) h2
  refine ⟨h1,hp,fun ht=>?_⟩
  rw [if_neg (fun h=>h ht)] at h
  by_cases h3:me < sz
  · rw [if_pos h3] at h;cases h
  rw [if_neg h3] at h
  refine ⟨Decidable.byContradiction fun hi=>h2 (.inr ⟨ht,hi⟩),by omega,fun h4=>?_⟩
  rw [if_pos h4] at h
  cases h
theorem secC_zero {segs:List dSeg.T} {n:Nat} {ty si li i off sz:Int} {own:List Int} (h:secC segs n ty si li i off sz own=0) :
    placeOk segs i off sz own=true∧sz=(if ty=0∨ty=8 then 0 else si)∧li≤n:=by
  unfold secC at h
  by_cases h2:placeOk segs i off sz own=false∨sz≠(if ty=0∨ty=8 then 0 else si)
  · rw [if_pos h2] at h;cases h
  rw [if_neg h2] at h
  have hp:placeOk segs i off sz own=true:=by
    cases hp:placeOk segs i off sz own with
    | true=>rfl
    | false=>exact absurd (.inl hp) h2
  refine ⟨hp,Decidable.byContradiction fun hi=>h2 (.inr hi),?_⟩
  by_cases h3:(n:Int) < li
  · rw [if_pos h3] at h;cases h
  · omega
theorem place_own {segs:List dSeg.T} {off sz:Int} {own:List Int} (h:placeOk segs (-1) off sz own=true):off=0∧sz=own.length:=by
  unfold placeOk at h
  rw [if_pos rfl] at h
  simpa using h
theorem place_in {segs:List dSeg.T} {i off sz:Int} {own:List Int} (h:placeOk segs i off sz own=true) (hi:i≠-1):0≤i∧i < segs.length∧own=[]∧sz≠0∧∃ s,segs[i.toNat]? = some s∧@Eq Int s.1 1∧withinB off sz s.2.2.2.2.2.2.1.2.2.2.1.length=true:=by
  unfold placeOk at h
  rw [if_neg hi] at h
  by_cases h1:i < 0∨(segs.length:Int)≤i
  · rw [if_pos h1] at h;cases h
  rw [if_neg h1] at h
  obtain ⟨s,hs⟩:∃ s,segs[i.toNat]? = some s:=⟨segs[i.toNat]'(by omega),List.getElem?_eq_getElem (by omega)⟩
  rw [hs] at h
  simp only [Bool.and_eq_true,decide_eq_true_eq] at h
  exact ⟨by omega,by omega,List.eq_nil_of_length_eq_zero h.1.1.2,h.1.2,s,hs,h.1.1.1,h.2⟩
def SegG (s:dSeg.T):Prop:=((s.2.2.2.2.2.2.1.2.2.2.1.length:Int)≤1000000→SegN s.1 s.2.2.1 s.2.2.2.1 s.2.2.2.2.1 s.2.2.2.2.2.1 s.2.2.2.2.2.2.1.1 s.2.2.2.2.2.2.1.2.1 s.2.2.2.2.2.2.1.2.2.1 s.2.2.2.2.2.2.1.2.2.2.1)∧s.2.2.2.2.2.2.1.2.2.2.1.length≤281474976710656
def SecG (s:dSec.T):Prop:=((s.2.2.2.2.2.2.2.2.2.1.2.2.2.1.length:Int)≤1000000→SecN s.1 s.2.1 s.2.2.1 s.2.2.2.1 s.2.2.2.2.1 s.2.2.2.2.2.1 s.2.2.2.2.2.2.2.1 s.2.2.2.2.2.2.2.2.1 s.2.2.2.2.2.2.2.2.2.1.1 s.2.2.2.2.2.2.2.2.2.1.2.1 s.2.2.2.2.2.2.2.2.2.1.2.2.1 s.2.2.2.2.2.2.2.2.2.1.2.2.2.1)∧s.2.2.2.2.2.2.2.2.2.1.2.2.2.1.length≤281474976710656
theorem segG_of {l:List dSeg.T} (h:∀ x ∈ l,dSeg.good x):∀ x ∈ l,SegG x:=fun x hx=>by
  have hh:=h x hx
  obtain ⟨ty,fl,va,pa,me,al,⟨i,off,sz,own,u⟩,u2⟩:=x
  obtain ⟨k0,k1,k2,k3,k4,k5,⟨k6,k7,k8,k9,_⟩,_⟩:=hh
  exact ⟨fun hl=>⟨⟨(u32_of k0).1.1,(u32_of k0).2⟩,u64_of k2,u64_of k3,u64_of k4,u64_of k5,u64_of k7,u64_of k8,by have hl:(own.length:Int)≤1000000:=hl;show own.length≤1000000;omega,B_of k9.2⟩,Nat.le_trans k9.1 (by decide)⟩
theorem secG_of {l:List dSec.T} (h:∀ x ∈ l,dSec.good x):∀ x ∈ l,SecG x:=fun x hx=>by
  have hh:=h x hx
  obtain ⟨nm,ty,fl,ad,si,li,sf,al,en,⟨i,off,sz,own,u⟩,u2⟩:=x
  obtain ⟨k0,k1,k2,k3,k4,k5,k6,k7,k8,⟨k9,k10,k11,k12,_⟩,_⟩:=hh
  exact ⟨fun hl=>⟨⟨(u32_of k0).1.1,(u32_of k0).2⟩,⟨(u32_of k1).1.1,(u32_of k1).2⟩,u64_of k2,u64_of k3,u64_of k4,⟨(u32_of k5).1.1,(u32_of k5).2⟩,u64_of k7,u64_of k8,u64_of k10,u64_of k11,by have hl:(own.length:Int)≤1000000:=hl;show own.length≤1000000;omega,B_of k12.2⟩,Nat.le_trans k12.1 (by decide)⟩
theorem segsN_of {l:List dSeg.T} (h:∀ x ∈ l,SegG x) (h0:∀ s ∈ l,s.2.2.2.2.2.2.1.2.2.2.1.length≤100000):SegsN l:=fun s hs=>(h s hs).1 (by have:=h0 s hs;omega)
theorem secsN_of {l:List dSec.T} (h:∀ x ∈ l,SecG x) (h0:∀ s ∈ l,s.2.2.2.2.2.2.2.2.2.1.2.2.2.1.length≤100000):SecsN l:=fun s hs=>(h s hs).1 (by have:=h0 s hs;omega)
end Go.Proofs.YtcffpnlochillaaGreatDoor.PvW
end

/- A heap of plain values, walks over it, and functions of the program met by them: no statement of the set is proved in this text. -/
import Derived.Test.YtcffpnlochillaaKb03
import Derived.Test.YtcffpnlochillaaKb09
import Derived.Test.YtcffpnlochillaaKb15
import Derived.Test.YtcffpnlochillaaProg
import Derived.KernelRfl
set_option linter.unusedVariables false
set_option linter.unusedSimpArgs false
set_option maxRecDepth 100000
set_option maxHeartbeats 4000000
section
namespace Go.Proofs.Ytcffpnlochillaa.PvW
open Go.RowKit Go.Proofs.Ytcffpnlochillaa.Cd Go.Proofs.Ytcffpnlochillaa.AbP Go.Proofs.Ytcffpnlochillaa.Num Go.Proofs.Ytcffpnlochillaa.Pv
section
variable {K:PV→List OB→Prop} {w big:Bool} {o ab ty ma fl en st:Int} {segs:List dSeg.T} {secs:List dSec.T}
theorem check_spec (he:Om (0≤en∧en≤18446744073709551615)) (hG:Am (SegsN segs)) (hN:Am (SecsN secs)) (hk0:wrongC w en segs secs st=0→K .nilI []) (hk1:wrongC w en segs secs st≠0→K (eCode (wrongC w en segs secs st)) []) :
    PCalls Try.prog 21 [.agg [.bool w,.bool big,.int .u8 o,.int .u8 ab,.int .u16 ty,.int .u16 ma,.int .u32 fl,.int .u64 en,.sl dSeg segs,.sl dSec secs,.int .i64 st]] [] K:=by
  refine told_callP model_Check.told fun Z hZ=>?_
  unfold model_Check.c
  refine W1 trivial @DD trivial ?_
  refine wrong_spec he hG hN ?_
  by_cases h:wrongC w en segs secs st=0
  · have:=hk0 h
    refine W1 trivial (And.intro @DD @h) trivial ?_
    exact this
  · have:=hk1 h
    refine W1 trivial (And.intro @DD @h) trivial ?_
    exact this
theorem within_ok {a n size:Int} (h:Am (withinB a n size=true)) (ha:Om (0≤a∧a≤18446744073709551615)) (hs:Om (0≤size∧size≤18446744073709551615)) (hk:K (.bool true) []):PCalls Try.prog 18 [.int .u64 a,.int .u64 n,.int .u64 size] [] K:=within_spec ha hs (by rw [h.o];exact hk)
end
end Go.Proofs.Ytcffpnlochillaa.PvW
end
section
namespace Go.Proofs.Ytcffpnlochillaa.PvW
open Go.RowKit Go.Proofs.Ytcffpnlochillaa.Cd Go.Proofs.Ytcffpnlochillaa.AbP Go.Proofs.Ytcffpnlochillaa.Num Go.Proofs.Ytcffpnlochillaa.Pv
theorem andI_nat {a b:Int} (ha:0≤a∧a < 18446744073709551616) (hb:0≤b∧b < 18446744073709551616):andI a b=((a.toNat &&& b.toNat:Nat):Int):=by
  unfold andI
  rw [BitVec.toNat_and,BitVec.toNat_ofInt,BitVec.toNat_ofInt]
  have e1:a % ((2 ^ 64:Nat):Int)=a:=Int.emod_eq_of_lt ha.1 ha.2
  have e2:b % ((2 ^ 64:Nat):Int)=b:=Int.emod_eq_of_lt hb.1 hb.2
  rw [e1,e2]
end Go.Proofs.Ytcffpnlochillaa.PvW
end
section
namespace Go.Proofs.Ytcffpnlochillaa.Cd
open Go.Proofs.Ytcffpnlochillaa.Ab
def bezantlaw00_Few.c:AC:=(.seq (.reg [xF 1 (.box (T 0)),xF 2 (.mv (xZ 0))]) (.seq (.seq (.reg [xF 6 (.fad 8 (T 1)),xF 7 (.ld none (T 6)),xF 8 (.len false (T 7)),xF 9 (.bin .gtr (T 8) (xZ 20)),xM 10 9,xG 11 10 false (.fad 9 (T 1)),xG 12 10 false (.ld none (T 11)),xG 13 10 false (.len false (T 12)),xG 14 10 false (.bin .gtr (T 13) (xZ 70)),xF 15 (.pick (T 10) (C (.bool true)) (T 14))]) (.cond (T 15) (.seq (.reg [xF 2 (.mv (xZ 0))]) .ret) .skip)) (.seq (.reg [xF 3 (.mv (xZ 0))]) (.seq (.seq (.reg [xF 4 (.mv (xZ 0))]) (.block 0 (.loop (.seq (.seq (.reg [xM 16 4,xF 17 (.fad 8 (T 1)),xF 18 (.ld none (T 17)),xF 19 (.len false (T 18)),xF 20 (.bin .lss (T 16) (T 19))]) (.cond (T 20) .skip (.exit 0))) (.seq (.block 1 (.reg [xM 23 3,xF 24 (.fad 8 (T 1)),xF 25 (.ld none (T 24)),xM 26 4,xF 27 (.iad 10 (T 25) (T 26)),xF 28 (.fad 6 (T 27)),xF 29 (.fad 3 (T 28)),xF 30 (.ld none (T 29)),xF 31 (.len false (T 30)),xF 32 (.bin .add (T 23) (T 31)),xM 3 32])) (.reg [xM 21 4,xF 22 (.bin .add (T 21) (xZ 1)),xM 4 22])))))) (.seq (.seq (.reg [xF 5 (.mv (xZ 0))]) (.block 2 (.loop (.seq (.seq (.reg [xM 33 5,xF 34 (.fad 9 (T 1)),xF 35 (.ld none (T 34)),xF 36 (.len false (T 35)),xF 37 (.bin .lss (T 33) (T 36))]) (.cond (T 37) .skip (.exit 2))) (.seq (.block 3 (.reg [xM 40 3,xF 41 (.fad 9 (T 1)),xF 42 (.ld none (T 41)),xM 43 5,xF 44 (.iad 13 (T 42) (T 43)),xF 45 (.fad 9 (T 44)),xF 46 (.fad 3 (T 45)),xF 47 (.ld none (T 46)),xF 48 (.len false (T 47)),xF 49 (.bin .add (T 40) (T 48)),xM 3 49])) (.reg [xM 38 5,xF 39 (.bin .add (T 38) (xZ 1)),xM 5 39])))))) (.seq (.seq (.reg [xM 50 3,xF 51 (.bin .gtr (T 50) (xZ 100000))]) (.cond (T 51) (.seq (.reg [xF 2 (.mv (xZ 0))]) .ret) .skip)) (.seq (.reg [xF 2 (.mv (xZ 1))]) .ret)))))))
theorem bezantlaw00_Few.told:IsTold Try.prog 5 52 bezantlaw00_Few.c [(.tmp 2)]:=⟨Try.f5,_,Try.func5,by kernel_rfl,rfl,rfl,by kernel_rfl,by kernel_rfl⟩
end Go.Proofs.Ytcffpnlochillaa.Cd
end
section
namespace Go.Proofs.Ytcffpnlochillaa.PvW
open Go.RowKit Go.Proofs.Ytcffpnlochillaa.Cd Go.Proofs.Ytcffpnlochillaa.AbP Go.Proofs.Ytcffpnlochillaa.Num Go.Proofs.Ytcffpnlochillaa.Pv
section
variable {K:PV→List OB→Prop} {w big:Bool} {o ab ty ma fl en st:Int} {segs:List dSeg.T} {secs:List dSec.T}
theorem few_spec (hL:∀ s ∈ segs,s.2.2.2.2.2.2.1.2.2.2.1.length≤281474976710656) (hM:∀ s ∈ secs,s.2.2.2.2.2.2.2.2.2.1.2.2.2.1.length≤281474976710656)
    (hk1:segs.length≤20→secs.length≤70→(∀ s ∈ segs,s.2.2.2.2.2.2.1.2.2.2.1.length≤100000)→(∀ s ∈ secs,s.2.2.2.2.2.2.2.2.2.1.2.2.2.1.length≤100000)→K (.int .i64 1) []) (hk0:K (.int .i64 0) []) :
    PCalls Try.prog 5 [.agg [.bool w,.bool big,.int .u8 o,.int .u8 ab,.int .u16 ty,.int .u16 ma,.int .u32 fl,.int .u64 en,.sl dSeg segs,.sl dSec secs,.int .i64 st]] [] K:=by
  refine told_callP bezantlaw00_Few.told fun Z hZ=>?_
  unfold bezantlaw00_Few.c
  by_cases h1:20 < (segs.length:Int)
  · refine W1 trivial @DD trivial ?_
    exact hk0
  by_cases h2:70 < (secs.length:Int)
  · refine W1 trivial @DD trivial ?_
    exact hk0
  refine W1 trivial @DD trivial ?_
  refine w_lp (fun q e s=>s=[.var [.bool w,.bool big,.int .u8 o,.int .u8 ab,.int .u16 ty,.int .u16 ma,.int .u32 fl,.int .u64 en,.sl dSeg segs,.sl dSec secs,.int .i64 st]]∧∃ i t:Nat,q+i=segs.length∧t≤i * 281474976710656∧(∀ y ∈ segs.take i,y.2.2.2.2.2.2.1.2.2.2.1.length≤t)∧e 1 = .ptr 0 0∧e 3 = .int .i64 t∧e 4 = .int .i64 i) segs.length ?_ ?_
  · exact ⟨rfl,0,0,rfl,by decide,fun y hy=>(by cases hy),by exact lk trivial,by exact lk trivial,by exact lk trivial⟩
  rintro q e s ⟨rfl,i,t,hi,ht,hall,e1,e3,e4⟩
  by_cases hq:i < segs.length
  · obtain ⟨x,hx⟩:∃ x,segs[i]? = some x:=⟨segs[i],List.getElem?_eq_getElem hq⟩
    have hx0:=hL x (List.mem_of_getElem? hx)
    have htk:segs.take (i+1)=segs.take i++[x]:=by rw [List.take_add_one,hx];rfl
    have hat:∀ y ∈ segs.take (i+1),y.2.2.2.2.2.2.1.2.2.2.1.length≤t+x.2.2.2.2.2.2.1.2.2.2.1.length:=fun y hy=>by
      rw [htk] at hy
      rcases List.mem_append.1 hy with hy | hy
      · exact Nat.le_trans (hall y hy) (Nat.le_add_right _ _)
      · obtain rfl:=List.mem_singleton.1 hy;exact Nat.le_add_left _ _
    obtain ⟨sty,sfl,sva,spa,sme,sal,⟨si,so,sz,sown,u⟩,u2⟩:=x
    dsimp only at hx0 hat
    refine W1 (And.intro @e1 (And.intro @e3 @e4)) @DD trivial ?_
    exact ⟨q - 1,by omega,rfl,i+1,t+sown.length,by omega,by omega,hat,by exact lk @e1,by exact lk @e3,by exact lk @e4⟩
  obtain rfl:i=segs.length:=by omega
  rw [List.take_length] at hall
  refine W1 (And.intro @e1 (And.intro @e3 @e4)) @DD trivial ?_
  obtain ⟨B0,hB0⟩:∃ B0:Nat,B0=20 * 281474976710656:=⟨_,rfl⟩
  have ht0:t≤B0+0 * 281474976710656:=by omega
  refine w_lp (fun q e s=>s=[.var [.bool w,.bool big,.int .u8 o,.int .u8 ab,.int .u16 ty,.int .u16 ma,.int .u32 fl,.int .u64 en,.sl dSeg segs,.sl dSec secs,.int .i64 st]]∧∃ i t:Nat,q+i=secs.length∧t≤B0+i * 281474976710656∧(∀ y ∈ segs,y.2.2.2.2.2.2.1.2.2.2.1.length≤t)∧(∀ y ∈ secs.take i,y.2.2.2.2.2.2.2.2.2.1.2.2.2.1.length≤t)∧e 1 = .ptr 0 0∧e 3 = .int .i64 t∧e 5 = .int .i64 i) secs.length ?_ ?_
  · exact ⟨rfl,0,t,rfl,ht0,hall,fun y hy=>(by cases hy),by exact lk @e1,by exact lk @e3,by exact lk trivial⟩
  clear e1 e3 e4 ht ht0 hall
  rintro q e s ⟨rfl,i,t,hi,ht,hseg,hall,e1,e3,e5⟩
  by_cases hq:i < secs.length
  · obtain ⟨x,hx⟩:∃ x,secs[i]? = some x:=⟨secs[i],List.getElem?_eq_getElem hq⟩
    have hx0:=hM x (List.mem_of_getElem? hx)
    have htk:secs.take (i+1)=secs.take i++[x]:=by rw [List.take_add_one,hx];rfl
    have hat:∀ y ∈ secs.take (i+1),y.2.2.2.2.2.2.2.2.2.1.2.2.2.1.length≤t+x.2.2.2.2.2.2.2.2.2.1.2.2.2.1.length:=fun y hy=>by
      rw [htk] at hy
      rcases List.mem_append.1 hy with hy | hy
      · exact Nat.le_trans (hall y hy) (Nat.le_add_right _ _)
      · obtain rfl:=List.mem_singleton.1 hy;exact Nat.le_add_left _ _
    obtain ⟨nm,sty,sfl,sad,ssi,sli,ssf,sal,sen,⟨si,so,sz,sown,u⟩,u2⟩:=x
    dsimp only at hx0 hat
    refine W1 (And.intro @e1 (And.intro @e3 @e5)) @DD trivial ?_
    exact ⟨q - 1,by omega,rfl,i+1,t+sown.length,by omega,by omega,fun y hy=>Nat.le_trans (hseg y hy) (Nat.le_add_right _ _),hat,by exact lk @e1,by exact lk @e3,by exact lk @e5⟩
  obtain rfl:i=secs.length:=by omega
  rw [List.take_length] at hall
  by_cases h3:100000 < (t:Int)
  · refine W1 (And.intro @e1 (And.intro @e3 @e5)) @DD trivial ?_
    exact hk0
  · have:=hk1 (by omega) (by omega) (fun y hy=>Nat.le_trans (hseg y hy) (by omega)) (fun y hy=>Nat.le_trans (hall y hy) (by omega))
    refine W1 (And.intro @e1 (And.intro @e3 @e5)) @DD trivial ?_
    exact this
end
end Go.Proofs.Ytcffpnlochillaa.PvW
end

/- A heap of plain values, walks over it, and functions of the program met by them: no statement of the set is proved in this text. -/
import Derived.Test.YtcffpnlochillaaGreatDoorKb04
set_option linter.unusedVariables false
set_option linter.unusedSimpArgs false
set_option maxRecDepth 100000
set_option maxHeartbeats 4000000
section
namespace Go.Proofs.YtcffpnlochillaaGreatDoor.PvW
open Go.RowKit Go.Proofs.YtcffpnlochillaaGreatDoor.Cd Go.Proofs.YtcffpnlochillaaGreatDoor.AbP Go.Proofs.YtcffpnlochillaaGreatDoor.Num Go.Proofs.YtcffpnlochillaaGreatDoor.Pv
variable {K:PV→List OB→Prop}
theorem rev_spec {l:List Int} {n:Nat} (hn:Om (n=l.length)) (hl:Om (l.length≤1000000000000)) (hk:∀ r,K r [.arr (.int .u8) l.reverse]):PCalls Tryz.prog 134 [.osl 0 n] [.arr (.int .u8) l] K:=by
  refine told_call slices_Reverse_byte_byte.told fun Z hZ=>?_
  unfold slices_Reverse_byte_byte.c
  obtain rfl:=hn.o
  replace hl:=hl.o
  refine W1 trivial trivial trivial ?_
  refine w_lp (fun q e s=>∃ i:Nat,q+i=l.length+1∧2 * i≤l.length+1∧s=[.arr (.int .u8) (rvl l i)]∧e 0 = .osl 0 l.length∧e 2 = .int .i64 i∧e 3 = .int .i64 ((l.length:Int) - 1 - i)) (l.length+1) ?_ ?_
  · exact ⟨0,by omega,by omega,by rw [rvl_zero],by exact lk trivial,by exact lk trivial,by (simp only [↓LL,↓reduceIte,Nat.reduceEqDiff];congr 1;omega)⟩
  rintro q e s ⟨i,hi,h2i,rfl,e0,e2,e3⟩
  have hlen:=rvl_len l i
  by_cases hq:(i:Int) < (l.length:Int) - 1 - i
  · have hjn:((l.length:Int) - 1 - i).toNat=l.length - 1 - i:=by omega
    refine W1 (And.intro @e0 (And.intro @e2 @e3)) (And.intro @DD @hjn) trivial ?_
    refine ⟨q - 1,by omega,i+1,by omega,by omega,?_,by exact lk @e0,by exact lk @e2,by (simp only [↓LL,↓reduceIte,Nat.reduceEqDiff];congr 1;omega)⟩
    rw [← rvl_step (by omega)]
  · rw [rvl_end (by omega)] at *
    refine W1 (And.intro @e0 (And.intro @e2 @e3)) @DD trivial ?_
    exact ⟨[],rfl,hk _⟩
theorem put_spec {v n:Int} {big:Bool} (hv:Om (0≤v∧v≤18446744073709551615)) (hw:Rf (wideB n=true)) (hk:K (.osl 0 (putSpec v n big).length) [.arr (.int .u8) (putSpec v n big)]):PCalls Tryz.prog 88 [.int .u64 v,.int .i64 n,.bool big] [] K:=by
  refine told_callP wire_Put.told fun Z hZ=>?_
  unfold wire_Put.c
  replace hv:=hv.o
  replace hw:=hw.o
  obtain ⟨m,rfl,h1,h2⟩:=wide_nat hw
  have es:putSpec v m big=enc m big v:=by unfold putSpec;rw [if_pos hw];rfl
  rw [es] at hk
  refine W1 @hw trivial @wide_spec ?_
  refine w_lp (fun q e s=>∃ i:Nat,q+i=m∧s=[.arr (.int .u8) (fillB m v i)]∧e 0 = .int .u64 v∧e 2 = .bool big∧e 7 = .osl 0 m∧e 15 = .int .i64 m∧e 16 = .int .i64 i) m ?_ ?_
  · exact ⟨0,rfl,by simp [fillB,le],by exact lk trivial,by exact lk trivial,by exact lk trivial,by (simp only [↓LL,↓reduceIte,Nat.reduceEqDiff,List.length_replicate];done),by exact lk trivial⟩
  rintro q e s ⟨i,hi,rfl,e0,e2,e7,e15,e16⟩
  have hfl:=fillB_len v (show i≤m by omega)
  by_cases hq:i < m
  · have hs:=shr_dig hv (show i < 8 by omega) (k:=.i64)
    refine W1 (And.intro @e0 (And.intro @e2 (And.intro @e7 (And.intro @e15 @e16)))) (And.intro @DD (And.intro @hs @dig_wrap)) trivial ?_
    refine ⟨q - 1,by omega,i+1,by omega,?_,by exact lk @e0,by exact lk @e2,by exact lk @e7,by exact lk @e15,by exact lk @e16⟩
    rw [← fillB_set v hq]
  · obtain rfl:i=m:=by omega
    have hf:fillB i v i=le i v:=by simp [fillB]
    have hll:=le_length i v
    rw [hf] at hfl ⊢
    cases big
    · refine W1 (And.intro @e0 (And.intro @e2 (And.intro @e7 (And.intro @e15 @e16)))) @DD trivial ?_
      have:(enc i false v).length=i:=enc_length _ _ _
      rw [this] at hk
      exact hk
    · refine Wv1 (And.intro @e0 (And.intro @e2 (And.intro @e7 (And.intro @e15 @e16)))) @DD trivial ?_
      refine ca_F ⟨rfl⟩ (rev_spec ⟨by omega⟩ ⟨by omega⟩ fun r=>?_)
      refine W1 (And.intro @e0 (And.intro @e2 (And.intro @e7 (And.intro @e15 @e16)))) @DD trivial ?_
      have:(enc i true v).length=i:=enc_length _ _ _
      rw [this] at hk
      exact hk
theorem rget_spec {l:List Int} {a n:Int} {big:Bool} (hB:Am (B l)) (hm:Om (l.length≤1000000000000)) (ha:Om (0≤a∧a≤18446744073709551615)) (hk:K (.tup [.int .u64 (getSpec l a n big).1,.bool (getSpec l a n big).2]) []) :
    PCalls Tryz.prog 114 [.sl (.int .u8) l,.int .u64 a,.int .i64 n,.bool big] [] K:=by
  refine told_callP bezantref01_Get.told fun Z hZ=>?_
  unfold bezantref01_Get.c
  replace hB:=hB.o
  replace hm:=hm.o
  replace ha:=ha.o
  by_cases hw:wideB n=true
  · obtain ⟨m,rfl,h1,h2⟩:=wide_nat hw
    by_cases hc:a+m≤l.length
    · have es:getSpec l a m big=(num big (seg l a.toNat m),true):=by unfold getSpec;rw [if_pos ⟨hw,hc⟩];rfl
      rw [es] at hk
      refine W1 @hw @DD @rwide_spec ?_
      refine w_lp (fun q e s=>s=[]∧∃ i:Nat,q+i=m∧e 0 = .sl (.int .u8) l∧e 11 = .int .i64 a∧e 2 = .int .i64 m∧e 3 = .bool big∧e 13 = .int .i64 i∧e 12 = .int .u64 (beNum ((ord big (seg l a.toNat m)).take i))) m ?_ ?_
      · exact ⟨rfl,0,rfl,by exact lk trivial,by exact lk trivial,by exact lk trivial,by exact lk trivial,by exact lk trivial,by exact lk trivial⟩
      rintro q e s ⟨rfl,i,hi,e0,e11,e2,e3,e13,e12⟩
      by_cases hq:i < m
      · obtain ⟨⟨g0,g1⟩,g2⟩:=num_step hB (a:=a.toNat) (m:=m) (by omega) h2 hq big
        cases big
        · have hb:=B_get hB (a.toNat+(m - 1 - i))
          simp only [Bool.false_eq_true,if_false] at g2
          have hv:(a+(m:Int) - 1 - i).toNat=a.toNat+(m - 1 - i):=by omega
          refine W1 (And.intro @e0 (And.intro @e11 (And.intro @e2 (And.intro @e3 (And.intro @e13 @e12))))) (And.intro @DD @hv) trivial ?_
          refine ⟨q - 1,by omega,rfl,i+1,by omega,by exact lk @e0,by exact lk @e11,by exact lk @e2,by exact lk @e3,by exact lk @e13,?_⟩
          rw [g2,Int.mul_comm]
          exact lk trivial
        · have hb:=B_get hB (a.toNat+i)
          simp only [if_true] at g2
          have hv:(a+(i:Int)).toNat=a.toNat+i:=by omega
          refine W1 (And.intro @e0 (And.intro @e11 (And.intro @e2 (And.intro @e3 (And.intro @e13 @e12))))) (And.intro @DD @hv) trivial ?_
          refine ⟨q - 1,by omega,rfl,i+1,by omega,by exact lk @e0,by exact lk @e11,by exact lk @e2,by exact lk @e3,by exact lk @e13,?_⟩
          rw [g2,Int.mul_comm]
          exact lk trivial
      · obtain rfl:i=m:=by omega
        rw [num_all (by omega)] at e12
        refine W1 (And.intro @e0 (And.intro @e11 (And.intro @e2 (And.intro @e3 (And.intro @e13 @e12))))) @DD trivial ?_
        exact hk
    · have es:getSpec l a m big=(0,false):=by unfold getSpec;rw [if_neg (fun hh=>hc hh.2)]
      rw [es] at hk
      by_cases hl:a≤l.length
      all_goals
        refine W1 @hw @DD @rwide_spec ?_
        exact hk
  · have es:getSpec l a n big=(0,false):=by unfold getSpec;rw [if_neg (fun hh=>hw hh.1)]
    have hw':wideB n=false:=by simpa using hw
    rw [es] at hk
    refine W1 @hw' trivial @rwide_spec ?_
    exact hk
end Go.Proofs.YtcffpnlochillaaGreatDoor.PvW
end

/- A heap of plain values, walks over it, and functions of the program met by them: no statement of the set is proved in this text. -/
import Derived.Test.YtcffpnlochillaaKb05
set_option linter.unusedVariables false
set_option linter.unusedSimpArgs false
set_option maxRecDepth 100000
set_option maxHeartbeats 4000000
section
namespace Go.Proofs.Ytcffpnlochillaa.PvW
open Go.RowKit Go.Proofs.Ytcffpnlochillaa.Cd Go.Proofs.Ytcffpnlochillaa.AbP Go.Proofs.Ytcffpnlochillaa.Num Go.Proofs.Ytcffpnlochillaa.Pv
variable {K:PV→List OB→Prop}
theorem rev_spec {l:List Int} {n:Nat} (hn:Om (n=l.length)) (hl:Om (l.length≤1000000000000)) (hk:∀ r,K r [.arr (.int .u8) l.reverse]):PCalls Try.prog 42 [.osl 0 n] [.arr (.int .u8) l] K:=by
  refine told_call slices_Reverse_byte_byte.told fun Z hZ=>?_
  unfold slices_Reverse_byte_byte.c
  obtain rfl:=hn.o
  replace hl:=hl.o
  refine W1 trivial trivial trivial ?_
  refine w_lp (fun q e s=>∃ i:Nat,q+i=l.length+1∧2 * i≤l.length+1∧s=[.arr (.int .u8) (rvl l i)]∧e 0 = .osl 0 l.length∧e 2 = .int .i64 i∧e 3 = .int .i64 ((l.length:Int) - 1 - i)) (l.length+1) ?_ ?_
  · exact ⟨0,by omega,by omega,by rw [rvl_zero],by exact lk trivial,by exact lk trivial,by (simp only [↓LL,↓reduceIte,Nat.reduceEqDiff];congr 1;omega)⟩
  rintro q e s ⟨i,hi,h2i,rfl,e0,e2,e3⟩
  have hlen:=rvl_len l i
  by_cases hq:(i:Int) < (l.length:Int) - 1 - i
  · have hjn:((l.length:Int) - 1 - i).toNat=l.length - 1 - i:=by omega
    refine W1 (And.intro @e0 (And.intro @e2 @e3)) (And.intro @DD @hjn) trivial ?_
    refine ⟨q - 1,by omega,i+1,by omega,by omega,?_,by exact lk @e0,by exact lk @e2,by (simp only [↓LL,↓reduceIte,Nat.reduceEqDiff];congr 1;omega)⟩
    rw [← rvl_step (by omega)]
  · rw [rvl_end (by omega)] at *
    refine W1 (And.intro @e0 (And.intro @e2 @e3)) @DD trivial ?_
    exact ⟨[],rfl,hk _⟩
theorem put_spec {v n:Int} {big:Bool} (hv:Om (0≤v∧v≤18446744073709551615)) (hw:Rf (wideB n=true)) (hk:K (.osl 0 (putSpec v n big).length) [.arr (.int .u8) (putSpec v n big)]):PCalls Try.prog 30 [.int .u64 v,.int .i64 n,.bool big] [] K:=by
  refine told_callP wire_Put.told fun Z hZ=>?_
  unfold wire_Put.c
  replace hv:=hv.o
  replace hw:=hw.o
  obtain ⟨m,rfl,h1,h2⟩:=wide_nat hw
  have es:putSpec v m big=enc m big v:=by unfold putSpec;rw [if_pos hw];rfl
  rw [es] at hk
  refine W1 @hw trivial @wide_spec ?_
  refine w_lp (fun q e s=>∃ i:Nat,q+i=m∧s=[.arr (.int .u8) (fillB m v i)]∧e 0 = .int .u64 v∧e 2 = .bool big∧e 7 = .osl 0 m∧e 15 = .int .i64 m∧e 16 = .int .i64 i) m ?_ ?_
  · exact ⟨0,rfl,by simp [fillB,le],by exact lk trivial,by exact lk trivial,by exact lk trivial,by (simp only [↓LL,↓reduceIte,Nat.reduceEqDiff,List.length_replicate];done),by exact lk trivial⟩
  rintro q e s ⟨i,hi,rfl,e0,e2,e7,e15,e16⟩
  have hfl:=fillB_len v (show i≤m by omega)
  by_cases hq:i < m
  · have hs:=shr_dig hv (show i < 8 by omega) (k:=.i64)
    refine W1 (And.intro @e0 (And.intro @e2 (And.intro @e7 (And.intro @e15 @e16)))) (And.intro @DD (And.intro @hs @dig_wrap)) trivial ?_
    refine ⟨q - 1,by omega,i+1,by omega,?_,by exact lk @e0,by exact lk @e2,by exact lk @e7,by exact lk @e15,by exact lk @e16⟩
    rw [← fillB_set v hq]
  · obtain rfl:i=m:=by omega
    have hf:fillB i v i=le i v:=by simp [fillB]
    have hll:=le_length i v
    rw [hf] at hfl ⊢
    cases big
    · refine W1 (And.intro @e0 (And.intro @e2 (And.intro @e7 (And.intro @e15 @e16)))) @DD trivial ?_
      have:(enc i false v).length=i:=enc_length _ _ _
      rw [this] at hk
      exact hk
    · refine Wv1 (And.intro @e0 (And.intro @e2 (And.intro @e7 (And.intro @e15 @e16)))) @DD trivial ?_
      refine ca_F ⟨rfl⟩ (rev_spec ⟨by omega⟩ ⟨by omega⟩ fun r=>?_)
      refine W1 (And.intro @e0 (And.intro @e2 (And.intro @e7 (And.intro @e15 @e16)))) @DD trivial ?_
      have:(enc i true v).length=i:=enc_length _ _ _
      rw [this] at hk
      exact hk
end Go.Proofs.Ytcffpnlochillaa.PvW
end

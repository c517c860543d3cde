/- What rel.All yields. No statement of the set is proved in this text. -/
import Derived.Test.YteohkpfacjjaeabPvRel
namespace Go.Proofs.Yteohkpfacjjaeab.PvW
open Go.RowKit Go.Proofs.Yteohkpfacjjaeab.Cd Go.Proofs.Yteohkpfacjjaeab.AbP Go.Proofs.Yteohkpfacjjaeab.Num Go.Proofs.Yteohkpfacjjaeab.Pv
set_option maxRecDepth 100000
set_option maxHeartbeats 4000000
set_option linter.unusedVariables false
set_option linter.unusedSimpArgs false
variable {K : PV → List OB → Prop}
def addN (x : Int) : Int := if 2147483648 ≤ x then x - 4294967296 else x
def relD (w adds : Bool) (l : List Int) : dRel.T := if w = true then (l.getD 0 0, l.getD 1 0 / 4294967296, l.getD 1 0 % 4294967296, if adds = true then IntKind.i64.wrap (l.getD 2 0) else 0, ()) else (l.getD 0 0, l.getD 1 0 / 256, l.getD 1 0 % 256, if adds = true then addN (l.getD 2 0) else 0, ())
theorem addN_wrap {x : Int} (h0 : 0 ≤ x) (h1 : x ≤ 4294967295) : IntKind.i64.wrap (IntKind.i32.wrap x) = addN x := by
  unfold addN
  rw [wI64, wI32]
  split <;> omega
theorem eget_spec {w adds big : Bool} {b : List Int} (hB : Am (B b)) (hm : Om (b.length ≤ 1000000000000))
    (hk : ∀ x0 x1 x2 x3, relD w adds (gets b big 0 (relW w adds)) = (x0, x1, x2, x3, ()) → K (.agg [.int .u64 x0, .int .u32 x1, .int .u32 x2, .int .i64 x3]) []) :
    PCalls Try.prog 70 [.sl (.int .u8) b, .agg [.bool w, .bool big], .bool adds] [] K := by
  replace hB := hB.o
  replace hm := hm.o
  refine told_callP rel_get.told fun Z hZ => ?_
  unfold rel_get.c
  cases w
  · obtain ⟨a0, b0⟩ := range4 hB 4 big
    obtain ⟨a1, b1⟩ := range4 hB 8 big
    have ew := addN_wrap a1 b1
    cases adds
    · refine W1 trivial (And.intro @DD (And.intro @shr_8 @and_255)) (And.intro @rwordF_spec @get_spec) ?_
      exact hk _ _ _ _ rfl
    · refine W1 trivial (And.intro @DD (And.intro @shr_8 (And.intro @and_255 @ew))) (And.intro @rwordF_spec @get_spec) ?_
      exact hk _ _ _ _ (congrArg (fun z => ((getSpec b 0 4 big).1, (getSpec b 4 4 big).1 / 256, (getSpec b 4 4 big).1 % 256, z, ())) ew.symm)
  · obtain ⟨a0, b0⟩ := range8 hB 8 big
    obtain ⟨a1, b1⟩ := range8 hB 16 big
    have ew := wU32 (getSpec b 8 8 big).1
    cases adds
    · refine W1 trivial (And.intro @DD (And.intro @shr_32 @ew)) (And.intro @rwordT_spec @get_spec) ?_
      exact hk _ _ _ _ rfl
    · refine W1 trivial (And.intro @DD (And.intro @shr_32 @ew)) (And.intro @rwordT_spec @get_spec) ?_
      exact hk _ _ _ _ rfl
def relsG (w adds big : Bool) (b : List Int) (k : Nat) : List dRel.T := recG b big (relW w adds) (relD w adds) k
theorem eall_spec {w adds big : Bool} {b : List Int} {N : Nat} (hB : Am (B b)) (hm : Om (b.length ≤ 1000000)) (hN : Am (relS w adds = N)) 
    (hk1 : b.length % N = 0 → K (.tup [.osl 0 (b.length / N), .nilI]) [.arr dRel (relsG w adds big b (b.length / N))])
    (hk2 : b.length % N ≠ 0 → K (.tup [.nilS, eSpot (b.length - (b.length % N : Nat)) 2]) []) :
    PCalls Try.prog 29 [.sl (.int .u8) b, .agg [.bool w, .bool big], .bool adds] [] K := by
  have hB := hB.o
  have hm := hm.o
  have hN := hN.o
  have hs := relW_sum w adds
  have hN1 := relS_le w adds
  rw [hN] at hs hN1
  refine told_callP rel_All.told fun Z hZ => ?_
  unfold rel_All.c
  refine W1 trivial trivial @rsize_spec ?_
  rw [hN]
  have hz : ((b.length : Int) % (N : Int)) = ((b.length % N : Nat) : Int) := rfl
  have hlt : b.length % N < N := Nat.mod_lt _ (by omega)
  have hle : b.length % N ≤ b.length := Nat.mod_le _ _
  by_cases hr : b.length % N = 0
  · refine W1 trivial (And.intro @DD (And.intro @rem_c (And.intro @hz @hr))) (@xVirt 10 dRel) ?_
    have hk1 := hk1 hr
    have hbk : b.length = N * (b.length / N) := by have := Nat.div_add_mod b.length N; omega
    generalize b.length / N = k at *
    have hk6 : k ≤ 1000000 := Nat.le_trans (Nat.le_mul_of_pos_left k (show 0 < N by omega)) (hbk ▸ hm)
    refine w_lpG (fun q e s => ∃ i : Nat, q + i = k ∧ s = [.var [.bool w, .bool big], .arr dRel (relsG w adds big b i)] ∧ e 0 = .sl (.int .u8) (b.drop (N * i)) ∧ e 2 = .bool adds ∧ e 4 = .ptr 0 0 ∧ e 8 = .int .i64 N ∧ e 10 = .osl 1 i) k ?_ ?_
    · exact ⟨0, rfl, rfl, by exact lk trivial, by exact lk trivial, by exact lk trivial, by exact lk trivial, by exact lk trivial⟩
    rintro q e s ⟨i, hi, rfl, e0, e2, e4, e8, e10⟩
    have hgl : (relsG w adds big b i).length = i := recG_len
    have hdl : (b.drop (N * i)).length = b.length - N * i := List.length_drop
    by_cases hq : i < k
    · have hni : N * i + N ≤ b.length := by
        rw [hbk]
        calc N * i + N = N * (i + 1) := (Nat.mul_succ N i).symm
          _ ≤ N * k := Nat.mul_le_mul_left N hq
      have hB2 : B ((b.drop (N * i)).take N) := seg_B hB _ _
      have hdr : ((b.drop (N * i)).drop N) = b.drop (N * (i + 1)) := by rw [List.drop_drop, Nat.mul_succ]
      have hgs : gets ((b.drop (N * i)).take N) big 0 (relW w adds) = gets b big (sumL (relW w adds) * (i : Int)) (relW w adds) := by
        have := gets_seg (b := b) (big := big) (a := N * i) (n := N) (relW w adds) 0 (relW_wide w adds) (by rw [hs]; omega) hni
        rw [hs]
        refine this.trans (congrArg (fun z => gets b big z (relW w adds)) ?_)
        push_cast
        omega
      refine W1 (And.intro @e0 (And.intro @e2 (And.intro @e4 (And.intro @e8 @e10)))) @DD @eget_spec ?_
      intro x0 x1 x2 x3 hx
      rw [hgs] at hx
      have hsx : relsG w adds big b (i + 1) = relsG w adds big b i ++ [(x0, x1, x2, x3, ())] := by unfold relsG; rw [recG_succ, hx]
      refine W1 (And.intro @e0 (And.intro @e2 (And.intro @e4 (And.intro @e8 @e10)))) @DD trivial ?_
      exact ⟨q - 1, by omega, _, _, Gh.sel [0, 1] (by decide) (hz0 hZ), i + 1, by omega, by rw [hsx]; rfl, by rw [← hdr]; exact lk @e0, by exact lk @e2, by exact lk @e4, by exact lk @e8, by exact lk @hgl⟩
    · obtain rfl : i = k := by omega
      refine W1 (And.intro @e0 (And.intro @e2 (And.intro @e4 (And.intro @e8 @e10)))) @DD trivial ?_
      exact hk1
  · refine W1 trivial (And.intro @DD (And.intro @rem_c @hz)) trivial ?_
    exact hk2 hr
end Go.Proofs.Yteohkpfacjjaeab.PvW

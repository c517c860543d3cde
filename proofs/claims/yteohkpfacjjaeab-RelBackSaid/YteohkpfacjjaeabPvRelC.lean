/- What the document's answers for relocations yield. No statement of the set is proved in this text. -/
import Derived.Test.YteohkpfacjjaeabPvRelB
namespace Go.Proofs.Yteohkpfacjjaeab.PvW
open Go.RowKit Go.Proofs.Yteohkpfacjjaeab.Cd Go.Proofs.Yteohkpfacjjaeab.AbP Go.Proofs.Yteohkpfacjjaeab.Num Go.Proofs.Yteohkpfacjjaeab.Pv
set_option maxRecDepth 100000
set_option maxHeartbeats 4000000
set_option linter.unusedVariables false
set_option linter.unusedSimpArgs false
variable {K : PV → List OB → Prop}
theorem erow_spec {w b adds : Bool} (hk : K (.osl 0 (relW w adds).length) [.arr (.int .i64) (relW w adds)]) : PCalls Try.prog 69 [.agg [.bool w, .bool b], .bool adds] [] K := by
  refine told_callP bezantref04_relRow.told fun Z hZ => ?_
  unfold bezantref04_relRow.c
  cases adds
  all_goals
    refine Wn1 trivial trivial @word4_spec ?_
    apply x_arr 1 (.int .i64); (repeat any_goals first | exact mp_z | apply mp_s | exact rs_z | apply rs_t | apply rs_n | apply rs_c); (repeat any_goals first | (apply Lk.i; (simp only [↓LL, ↓reduceIte, Nat.reduceEqDiff]; (try rfl); done)) | (apply Rf.i; first | rfl | assumption) | (apply Vl.i; ((try simp (disch := omega) only [VV, ↓reduceIte, peqI, encP]); (try rfl); done)) | (apply Am.i; assumption) | (apply Pu.i; ((try simp only [↓reduceIte, UU, RR, Nat.reduceAdd, Nat.reduceEqDiff, cellsP, putP, fillQ, flatQ, shP, sh1, encP]); (try rfl); done)) | (apply Om.i; ((try simp only [MM]); (try omega); done)) | (apply Vw.i; first | exact As.sl _ _ | exact As.nil _ | exact As.arr _ _ _ _ rfl (by ((try simp only [MM]); (try omega); done)) | exact As.row _ _ _ _ _ rfl rfl | exact Src.str _ | exact Src.as (As.sl _ _) | exact Src.as (As.nil _) | exact Src.as (As.arr _ _ _ _ rfl (by ((try simp only [MM]); (try omega); done))) | exact Src.as (As.row _ _ _ _ _ rfl rfl))); (all_goals fail_if_success apply Mk.i)
    refine W1 trivial trivial trivial ?_
    exact hk
theorem rrels_spec {w adds big : Bool} {b : List Int} {N : Nat} (hB : Am (B b)) (hm : Om (b.length ≤ 1000000)) (hN : Am (relS w adds = N)) 
    (hk1 : b.length % N = 0 → K (.tup [.osl 0 (b.length / N), .int .i64 (-1)]) [.arr dRel (relsG w adds big b (b.length / N))])
    (hk2 : b.length % N ≠ 0 → K (.tup [.nilS, .int .i64 (b.length - (b.length % N : Nat))]) []) :
    PCalls Try.prog 30 [.sl (.int .u8) b, .agg [.bool w, .bool big], .bool adds] [] K := by
  have hB := hB.o
  have hm := hm.o
  have hN := hN.o
  have hs := relW_sum w adds
  have hN1 := relS_le w adds
  rw [hN] at hs hN1
  have hW : ∀ n ∈ relW w adds, 0 ≤ n ∧ n ≤ 100 := by cases w <;> cases adds <;> decide
  have hwl : (relW w adds).length ≤ 3 := by cases w <;> cases adds <;> decide
  have hne : relW w adds ≠ [] := by cases adds <;> exact List.cons_ne_nil _ _
  refine told_callP bezantref04_Rels.told fun Z hZ => ?_
  unfold bezantref04_Rels.c
  refine Wn1 trivial @DD @erow_spec ?_
  apply x_virt 9 dRel; (repeat any_goals first | exact mp_z | apply mp_s | exact rs_z | apply rs_t | apply rs_n | apply rs_c); (repeat any_goals first | (apply Lk.i; (simp only [↓LL, ↓reduceIte, Nat.reduceEqDiff]; (try rfl); done)) | (apply Rf.i; first | rfl | assumption) | (apply Vl.i; ((try simp (disch := omega) only [VV, ↓reduceIte, peqI, encP]); (try rfl); done)) | (apply Am.i; assumption) | (apply Pu.i; ((try simp only [↓reduceIte, UU, RR, Nat.reduceAdd, Nat.reduceEqDiff, cellsP, putP, fillQ, flatQ, shP, sh1, encP]); (try rfl); done)) | (apply Om.i; ((try simp only [MM]); (try omega); done)) | (apply Vw.i; first | exact As.sl _ _ | exact As.nil _ | exact As.arr _ _ _ _ rfl (by ((try simp only [MM]); (try omega); done)) | exact As.row _ _ _ _ _ rfl rfl | exact Src.str _ | exact Src.as (As.sl _ _) | exact Src.as (As.nil _) | exact Src.as (As.arr _ _ _ _ rfl (by ((try simp only [MM]); (try omega); done))) | exact Src.as (As.row _ _ _ _ _ rfl rfl))); (all_goals fail_if_success apply Mk.i)
  apply x_frz 8; (repeat any_goals first | exact mp_z | apply mp_s | exact rs_z | apply rs_t | apply rs_n | apply rs_c); (repeat any_goals first | (apply Lk.i; (simp only [↓LL, ↓reduceIte, Nat.reduceEqDiff]; (try rfl); done)) | (apply Rf.i; first | rfl | assumption) | (apply Vl.i; ((try simp (disch := omega) only [VV, ↓reduceIte, peqI, encP]); (try rfl); done)) | (apply Am.i; assumption) | (apply Pu.i; ((try simp only [↓reduceIte, UU, RR, Nat.reduceAdd, Nat.reduceEqDiff, cellsP, putP, fillQ, flatQ, shP, sh1, encP]); (try rfl); done)) | (apply Om.i; ((try simp only [MM]); (try omega); done)) | (apply Vw.i; first | exact As.sl _ _ | exact As.nil _ | exact As.arr _ _ _ _ rfl (by ((try simp only [MM]); (try omega); done)) | exact As.row _ _ _ _ _ rfl rfl | exact Src.str _ | exact Src.as (As.sl _ _) | exact Src.as (As.nil _) | exact Src.as (As.arr _ _ _ _ rfl (by ((try simp only [MM]); (try omega); done))) | exact Src.as (As.row _ _ _ _ _ rfl rfl))); (all_goals fail_if_success apply Mk.i)
  refine W1 trivial trivial trivial ?_
  have hbk : b.length = N * (b.length / N) + b.length % N := by have := Nat.div_add_mod b.length N; omega
  have hlt : b.length % N < N := Nat.mod_lt _ (by omega)
  generalize b.length / N = k at *
  generalize b.length % N = r at *
  have hk6 : k ≤ 1000000 := Nat.le_trans (Nat.le_mul_of_pos_left k (show 0 < N by omega)) (by omega)
  refine w_lpG (fun q e s => ∃ i : Nat, q + i = k + 1 ∧ i ≤ k ∧ s = [.var [.bool w, .bool big], .dead, .arr dRel (relsG w adds big b i)] ∧ e 0 = .sl (.int .u8) b ∧ e 2 = .bool adds ∧ e 4 = .ptr 0 0 ∧ e 8 = .sl (.int .i64) (relW w adds) ∧ e 9 = .osl 2 i ∧ e 10 = .int .i64 ((N * i : Nat) : Int)) (k + 1) ?_ ?_
  · exact ⟨0, rfl, Nat.zero_le _, rfl, by exact lk trivial, by exact lk trivial, by exact lk trivial, by exact lk trivial, by exact lk trivial, by exact lk trivial⟩
  rintro q e s ⟨i, hi, hik, rfl, e0, e2, e4, e8, e9, e10⟩
  have hgl : (relsG w adds big b i).length = i := recG_len
  by_cases hq : i < k
  · have hni : N * i + N ≤ b.length := by
      rw [hbk]
      calc N * i + N = N * (i + 1) := (Nat.mul_succ N i).symm
        _ ≤ N * k := Nat.mul_le_mul_left N hq
        _ ≤ _ := Nat.le_add_right _ _
    have hR := numsAt_ok (b := b) (big := big) (a := ((N * i : Nat) : Int)) (acc := []) (relW_wide w adds) (by rw [hs]; omega)
    refine W1 (And.intro @e0 (And.intro @e2 (And.intro @e4 (And.intro @e8 (And.intro @e9 @e10))))) @DD trivial ?_
    refine nums_spec ⟨hB⟩ ⟨by omega⟩ ⟨by omega⟩ ⟨by omega⟩ (fun _ => ?_) (fun no => absurd no (by rw [hR]; simp))
    rw [hR, List.nil_append]
    have e8' : ((N * (i + 1) : Nat) : Int) = ((N * i : Nat) : Int) + (N : Int) := by rw [Nat.mul_succ]; rfl
    have e1 : ((N * i : Nat) : Int) = sumL (relW w adds) * (i : Int) := by rw [hs]; push_cast; rfl
    have hsx : relsG w adds big b (i + 1) = relsG w adds big b i ++ [relD w adds (gets b big (sumL (relW w adds) * (i : Int)) (relW w adds))] := by unfold relsG; rw [recG_succ]
    have hG0 : ∀ a : Int, ∃ v0 v1 v2, gets b big a (relW w adds) = (if adds = true then [v0, v1, v2] else [v0, v1]) ∧ U64 v0 ∧ U64 v1 ∧ U64 v2 ∧ (w = false → v1 ≤ 4294967295 ∧ v2 ≤ 4294967295) := by
      intro a
      cases w
      · cases adds
        · exact ⟨_, _, 0, rfl, ⟨(range4 hB _ _).1, by have := (range4 hB a big).2; exact Int.le_trans this (by decide)⟩, ⟨(range4 hB _ _).1, by have := (range4 hB (a + 4) big).2; exact Int.le_trans this (by decide)⟩, ⟨by decide, by decide⟩, fun _ => ⟨(range4 hB _ _).2, by decide⟩⟩
        · exact ⟨_, _, _, rfl, ⟨(range4 hB _ _).1, by have := (range4 hB a big).2; exact Int.le_trans this (by decide)⟩, ⟨(range4 hB _ _).1, by have := (range4 hB (a + 4) big).2; exact Int.le_trans this (by decide)⟩, ⟨(range4 hB _ _).1, by have := (range4 hB (a + 4 + 4) big).2; exact Int.le_trans this (by decide)⟩, fun _ => ⟨(range4 hB _ _).2, (range4 hB _ _).2⟩⟩
      · cases adds
        · exact ⟨_, _, 0, rfl, range8 hB _ _, range8 hB _ _, ⟨by decide, by decide⟩, fun h => by cases h⟩
        · exact ⟨_, _, _, rfl, range8 hB _ _, range8 hB _ _, range8 hB _ _, fun h => by cases h⟩
    obtain ⟨v0, v1, v2, hg, ⟨a0, b0⟩, ⟨a1, b1⟩, ⟨a2, b2⟩, hv⟩ := hG0 ((N * i : Nat) : Int)
    rw [← e1] at hsx
    cases w
    · obtain ⟨c1, c2⟩ := hv rfl
      cases adds
      · have hg : gets b big ((N * i : Nat) : Int) (relW false false) = [v0, v1] := hg
        rw [hg] at hsx
        rw [hg]
        refine W1 (And.intro @e0 (And.intro @e2 (And.intro @e4 (And.intro @e8 (And.intro @e9 @e10))))) (And.intro @DD (And.intro @quo_c @rem_c)) trivial ?_
        refine sum_spec ⟨hW⟩ ⟨by omega⟩ ?_
        rw [hs]
        refine W1 (And.intro @e0 (And.intro @e2 (And.intro @e4 (And.intro @e8 (And.intro @e9 @e10))))) @DD trivial ?_
        exact ⟨q - 1, by omega, _, _, Gh.sel [0, 1, 2] (by decide) (hz0 hZ), i + 1, by omega, by omega, by rw [hsx]; rfl, by exact lk @e0, by exact lk @e2, by exact lk @e4, by exact lk @e8, by exact lk @hgl, by rw [e8']; exact lk trivial⟩
      · have hg : gets b big ((N * i : Nat) : Int) (relW false true) = [v0, v1, v2] := hg
        rw [hg] at hsx
        rw [hg]
        by_cases hc : v2 ≥ 2147483648
        · have ea : addN v2 = v2 - 4294967296 := if_pos hc
          have hsx : _ = relsG false true big b i ++ [(v0, v1 / 256, v1 % 256, addN v2, ())] := hsx
          rw [ea] at hsx
          refine W1 (And.intro @e0 (And.intro @e2 (And.intro @e4 (And.intro @e8 (And.intro @e9 @e10))))) (And.intro @DD (And.intro @quo_c @rem_c)) trivial ?_
          refine sum_spec ⟨hW⟩ ⟨by omega⟩ ?_
          rw [hs]
          refine W1 (And.intro @e0 (And.intro @e2 (And.intro @e4 (And.intro @e8 (And.intro @e9 @e10))))) @DD trivial ?_
          exact ⟨q - 1, by omega, _, _, Gh.sel [0, 1, 2] (by decide) (hz0 hZ), i + 1, by omega, by omega, by rw [hsx]; rfl, by exact lk @e0, by exact lk @e2, by exact lk @e4, by exact lk @e8, by exact lk @hgl, by rw [e8']; exact lk trivial⟩
        · have ea : addN v2 = v2 := if_neg hc
          have hsx : _ = relsG false true big b i ++ [(v0, v1 / 256, v1 % 256, addN v2, ())] := hsx
          rw [ea] at hsx
          refine W1 (And.intro @e0 (And.intro @e2 (And.intro @e4 (And.intro @e8 (And.intro @e9 @e10))))) (And.intro @DD (And.intro @quo_c @rem_c)) trivial ?_
          refine sum_spec ⟨hW⟩ ⟨by omega⟩ ?_
          rw [hs]
          refine W1 (And.intro @e0 (And.intro @e2 (And.intro @e4 (And.intro @e8 (And.intro @e9 @e10))))) @DD trivial ?_
          exact ⟨q - 1, by omega, _, _, Gh.sel [0, 1, 2] (by decide) (hz0 hZ), i + 1, by omega, by omega, by rw [hsx]; rfl, by exact lk @e0, by exact lk @e2, by exact lk @e4, by exact lk @e8, by exact lk @hgl, by rw [e8']; exact lk trivial⟩
    · cases adds
      · have hg : gets b big ((N * i : Nat) : Int) (relW true false) = [v0, v1] := hg
        rw [hg] at hsx
        rw [hg]
        refine W1 (And.intro @e0 (And.intro @e2 (And.intro @e4 (And.intro @e8 (And.intro @e9 @e10))))) (And.intro @DD (And.intro @quo_c @rem_c)) trivial ?_
        refine sum_spec ⟨hW⟩ ⟨by omega⟩ ?_
        rw [hs]
        refine W1 (And.intro @e0 (And.intro @e2 (And.intro @e4 (And.intro @e8 (And.intro @e9 @e10))))) @DD trivial ?_
        exact ⟨q - 1, by omega, _, _, Gh.sel [0, 1, 2] (by decide) (hz0 hZ), i + 1, by omega, by omega, by rw [hsx]; rfl, by exact lk @e0, by exact lk @e2, by exact lk @e4, by exact lk @e8, by exact lk @hgl, by rw [e8']; exact lk trivial⟩
      · have hg : gets b big ((N * i : Nat) : Int) (relW true true) = [v0, v1, v2] := hg
        rw [hg] at hsx
        rw [hg]
        refine W1 (And.intro @e0 (And.intro @e2 (And.intro @e4 (And.intro @e8 (And.intro @e9 @e10))))) (And.intro @DD (And.intro @quo_c @rem_c)) trivial ?_
        refine sum_spec ⟨hW⟩ ⟨by omega⟩ ?_
        rw [hs]
        refine W1 (And.intro @e0 (And.intro @e2 (And.intro @e4 (And.intro @e8 (And.intro @e9 @e10))))) @DD trivial ?_
        exact ⟨q - 1, by omega, _, _, Gh.sel [0, 1, 2] (by decide) (hz0 hZ), i + 1, by omega, by omega, by rw [hsx]; rfl, by exact lk @e0, by exact lk @e2, by exact lk @e4, by exact lk @e8, by exact lk @hgl, by rw [e8']; exact lk trivial⟩
  · obtain rfl : i = k := by omega
    by_cases hr : r = 0
    · refine W1 (And.intro @e0 (And.intro @e2 (And.intro @e4 (And.intro @e8 (And.intro @e9 @e10))))) @DD trivial ?_
      exact hk1 hr
    · have hR := numsAt_no (b := b) (big := big) (a := ((N * i : Nat) : Int)) (acc := []) (relW_wide w adds) hne (by rw [hs]; omega)
      refine W1 (And.intro @e0 (And.intro @e2 (And.intro @e4 (And.intro @e8 (And.intro @e9 @e10))))) @DD trivial ?_
      refine nums_spec ⟨hB⟩ ⟨by omega⟩ ⟨by omega⟩ ⟨by omega⟩ (fun no => absurd no (by rw [hR]; simp)) (fun _ => ?_)
      have e1 : ((N * i : Nat) : Int) = (b.length : Int) - (r : Int) := by omega
      have hk2 := hk2 hr
      rw [← e1] at hk2
      refine W1 (And.intro @e0 (And.intro @e2 (And.intro @e4 (And.intro @e8 (And.intro @e9 @e10))))) @DD trivial ?_
      exact hk2
end Go.Proofs.Yteohkpfacjjaeab.PvW

/- What note's functions that get yield. No statement of the set is proved in this text. -/
import Derived.Test.YtmknnlbbfeldbaaPvNote
namespace Go.Proofs.Ytmknnlbbfeldbaa.PvW
open Go.RowKit Go.Proofs.Ytmknnlbbfeldbaa.Cd Go.Proofs.Ytmknnlbbfeldbaa.AbP Go.Proofs.Ytmknnlbbfeldbaa.Num Go.Proofs.Ytmknnlbbfeldbaa.Pv
set_option maxRecDepth 100000
set_option maxHeartbeats 4000000
set_option linter.unusedVariables false
set_option linter.unusedSimpArgs false
variable {K : PV → List OB → Prop}
abbrev up4 (n : Int) : Int := n + (0 - n) % 4
/-- are the bytes that fill up 0s? -/
def padz (b : List Int) (n : Int) : Bool := ((b.take (up4 n).toNat).drop n.toNat).all fun c => decide (c = 0)
theorem ncut_spec {b : List Int} {n : Int} (hm : Om (b.length ≤ 1000000)) (hn : Om (0 ≤ n ∧ n ≤ 4294967295))
    (hS : ¬ up4 n ≤ b.length → K (.tup [.nilS, .nilS, .int .i64 2]) []) (hF : up4 n ≤ b.length → padz b n = false → K (.tup [.nilS, .nilS, .int .i64 4]) [])
    (hO : up4 n ≤ b.length → padz b n = true → K (.tup [.sl (.int .u8) (b.take n.toNat), .sl (.int .u8) (b.drop (up4 n).toNat), .int .i64 0]) []) :
    PCalls Try.prog 55 [.sl (.int .u8) b, .int .u64 n] [] K := by
  have hm := hm.o
  obtain ⟨h0, h1⟩ := hn.o
  refine told_callP note_cut.told fun Z hZ => ?_
  unfold note_cut.c
  have hu : n ≤ up4 n ∧ up4 n ≤ n + 3 := by unfold up4; omega
  have hup : n + (0 - n) % 4 = up4 n := rfl
  generalize up4 n = u at *
  have hpz : padz b n = ((b.take u.toNat).drop n.toNat).all fun c => decide (c = 0) := by unfold padz up4; rw [hup]
  by_cases hl : u ≤ b.length
  rotate_left
  · have := hS hl
    refine W1 trivial (And.intro @DD (And.intro @and_3u @hup)) trivial ?_
    exact this
  replace hF := hF hl
  replace hO := hO hl
  rw [hpz] at hF hO
  have hMl : ((b.take u.toNat).drop n.toNat).length ≤ 3 := by rw [List.length_drop, List.length_take]; omega
  refine W1 trivial (And.intro @DD (And.intro @and_3u @hup)) trivial ?_
  generalize (b.take u.toNat).drop n.toNat = M at *
  refine w_lp (fun q e s => s = [] ∧ ∃ i : Nat, q + i = M.length ∧ (M.take i).all (fun c => decide (c = 0)) = true ∧ e 0 = .sl (.int .u8) b ∧ e 1 = .int .u64 n ∧ e 7 = .int .u64 u ∧ e 23 = .sl (.int .u8) M ∧ e 24 = .int .i64 M.length ∧ e 25 = .int .i64 i) M.length ?_ ?_
  · exact ⟨rfl, 0, rfl, rfl, by exact lk trivial, by exact lk trivial, by exact lk trivial, by exact lk trivial, by exact lk trivial, by exact lk trivial⟩
  rintro q e s ⟨rfl, i, hi, hall, e0, e1, e7, e23, e24, e25⟩
  by_cases hq : i < M.length
  · have hx : M[i]? = some (M.getD i 0) := by rw [List.getD_eq_getElem?_getD, List.getElem?_eq_getElem hq]; rfl
    by_cases hz : M.getD i 0 = 0
    · have hal : (M.take (i + 1)).all (fun c => decide (c = 0)) = true := by
        rw [take_snocD hx, List.all_append, hall, hz]
        rfl
      refine W1 (And.intro @e0 (And.intro @e1 (And.intro @e7 (And.intro @e23 (And.intro @e24 @e25))))) (And.intro @DD @hz) trivial ?_
      exact ⟨q - 1, by omega, rfl, i + 1, by omega, hal, by exact lk @e0, by exact lk @e1, by exact lk @e7, by exact lk @e23, by exact lk @e24, by exact lk @e25⟩
    · have := hF (by rw [List.all_eq_false]; exact ⟨_, List.mem_of_getElem? hx, fun h => hz (of_decide_eq_true h)⟩)
      refine W1 (And.intro @e0 (And.intro @e1 (And.intro @e7 (And.intro @e23 (And.intro @e24 @e25))))) @DD trivial ?_
      exact this
  · obtain rfl : i = M.length := by omega
    rw [List.take_length] at hall
    have := hO hall
    refine W1 (And.intro @e0 (And.intro @e1 (And.intro @e7 (And.intro @e23 (And.intro @e24 @e25))))) @DD trivial ?_
    refine clone_spec ⟨by rw [List.length_take]; omega⟩ (fun hnil => ?_) ?_
    · rw [hnil] at this
      refine Wn1 (And.intro @e0 (And.intro @e1 (And.intro @e7 (And.intro @e23 (And.intro @e24 @e25))))) @DD trivial ?_
      apply x_nil 4 (.int .u8); (repeat any_goals first | exact mp_z | apply mp_s | exact rs_z | apply rs_t | apply rs_n | apply rs_c); (repeat any_goals first | (apply Lk.i; (simp only [↓LL, ↓reduceIte, Nat.reduceEqDiff]; (try rfl); done)) | (apply Rf.i; first | rfl | assumption) | (apply Vl.i; ((try simp (disch := omega) only [VV, ↓reduceIte, peqI, encP]); (try rfl); done)) | (apply Am.i; assumption) | (apply Pu.i; ((try simp only [↓reduceIte, UU, RR, Nat.reduceAdd, Nat.reduceEqDiff, cellsP, putP, fillQ, flatQ, shP, sh1, encP]); (try rfl); done)) | (apply Om.i; ((try simp only [MM]); (try omega); done)) | (apply Vw.i; first | exact As.sl _ _ | exact As.nil _ | exact As.arr _ _ _ _ rfl (by ((try simp only [MM]); (try omega); done)) | exact As.row _ _ _ _ _ rfl rfl | exact Src.str _ | exact Src.as (As.sl _ _) | exact Src.as (As.nil _) | exact Src.as (As.arr _ _ _ _ rfl (by ((try simp only [MM]); (try omega); done))) | exact Src.as (As.row _ _ _ _ _ rfl rfl))); (all_goals fail_if_success apply Mk.i)
      refine W1 trivial trivial trivial ?_
      exact this
    · refine Wn1 (And.intro @e0 (And.intro @e1 (And.intro @e7 (And.intro @e23 (And.intro @e24 @e25))))) @DD trivial ?_
      apply x_frz 4; (repeat any_goals first | exact mp_z | apply mp_s | exact rs_z | apply rs_t | apply rs_n | apply rs_c); (repeat any_goals first | (apply Lk.i; (simp only [↓LL, ↓reduceIte, Nat.reduceEqDiff]; (try rfl); done)) | (apply Rf.i; first | rfl | assumption) | (apply Vl.i; ((try simp (disch := omega) only [VV, ↓reduceIte, peqI, encP]); (try rfl); done)) | (apply Am.i; assumption) | (apply Pu.i; ((try simp only [↓reduceIte, UU, RR, Nat.reduceAdd, Nat.reduceEqDiff, cellsP, putP, fillQ, flatQ, shP, sh1, encP]); (try rfl); done)) | (apply Om.i; ((try simp only [MM]); (try omega); done)) | (apply Vw.i; first | exact As.sl _ _ | exact As.nil _ | exact As.arr _ _ _ _ rfl (by ((try simp only [MM]); (try omega); done)) | exact As.row _ _ _ _ _ rfl rfl | exact Src.str _ | exact Src.as (As.sl _ _) | exact Src.as (As.nil _) | exact Src.as (As.arr _ _ _ _ rfl (by ((try simp only [MM]); (try omega); done))) | exact Src.as (As.row _ _ _ _ _ rfl rfl))); (all_goals fail_if_success apply Mk.i)
      refine W1 trivial trivial trivial ?_
      exact this
end Go.Proofs.Ytmknnlbbfeldbaa.PvW

/- What the document's answers for what a file begins with yield. No statement of the set is proved in this text. -/
import Derived.Test.YtmknnlbbfeldbaaPvIdent
namespace Go.Proofs.Ytmknnlbbfeldbaa.PvW
open Go.RowKit Go.Proofs.Ytmknnlbbfeldbaa.Cd Go.Proofs.Ytmknnlbbfeldbaa.AbP Go.Proofs.Ytmknnlbbfeldbaa.Num Go.Proofs.Ytmknnlbbfeldbaa.Pv
set_option maxRecDepth 100000
set_option maxHeartbeats 4000000
set_option linter.unusedVariables false
set_option linter.unusedSimpArgs false
variable {K : PV → List OB → Prop}
theorem riput_spec {w big : Bool} {o a : Int} (hk : K (.osl 0 16) [.arr (.int .u8) (idB w big o a)]) : PCalls Try.prog 46 [.agg [.bool w, .bool big, .int .u8 o, .int .u8 a]] [] K := by
  refine told_callP bezantref01_Ident.told fun Z hZ => ?_
  unfold bezantref01_Ident.c
  cases w <;> cases big
  all_goals
    refine Wp1 trivial @DD (And.intro (@oArr 1 (.int .u8)) @trivial) ?_
    exact hk
theorem riget_spec {b : List Int} (hB : Am (B b)) (hm : Om (b.length ≤ 1000000)) (hk1 : ∀ a c, idBad b = some (a, c) → K (.tup [idZ, .int .i64 c, .int .i64 a]) []) (hk2 : idBad b = none → K (.tup [idV b, .int .i64 0, .int .i64 0]) []) :
    PCalls Try.prog 51 [.sl (.int .u8) b] [] K := by
  have hB := hB.o
  have hm := hm.o
  refine told_callP bezantref01_GetIdent.told fun Z hZ => ?_
  unfold bezantref01_GetIdent.c
  refine W1 trivial @DD @riput_spec ?_
  have hB7 : idBad b = (match idScan b 0 7 with | some x => some x | none => if b.length < 16 then some (b.length, 2) else none) := rfl
  generalize hR : idScan b 0 7 = R at hB7
  refine w_lpG (fun q e s => s = [.var [.bool false, .bool false, .int .u8 0, .int .u8 0], .arr (.int .u8) [127, 69, 76, 70, 1, 1, 1, 0, 0, 0, 0, 0, 0, 0, 0, 0]] ∧ ∃ i : Nat, q + i = 7 ∧ idScan b i q = R ∧ e 0 = .sl (.int .u8) b ∧ e 2 = .ptr 0 0 ∧ e 5 = .osl 1 16 ∧ e 6 = .int .i64 i) 7 ?_ ?_
  · exact ⟨rfl, 0, rfl, hR, by exact lk trivial, by exact lk trivial, by exact lk trivial, by exact lk trivial⟩
  rintro q e s ⟨rfl, i, hi, hsc, e0, e2, e5, e6⟩
  cases q with
  | zero =>
    obtain rfl : i = 7 := by omega
    have hsc : none = R := hsc
    by_cases h16 : b.length < 16
    · have := hk1 b.length 2 (by rw [hB7, ← hsc]; simp [h16])
      refine W1 (And.intro @e0 (And.intro @e2 (And.intro @e5 @e6))) @DD trivial ?_
      exact this
    · have := hk2 (by rw [hB7, ← hsc]; simp [h16])
      refine W1 (And.intro @e0 (And.intro @e2 (And.intro @e5 @e6))) @DD trivial ?_
      exact this
  | succ q =>
    unfold idScan at hsc
    by_cases hl : b.length ≤ i
    · rw [if_pos hl] at hsc
      have := hk1 i 2 (by rw [hB7, ← hsc])
      refine W1 (And.intro @e0 (And.intro @e2 (And.intro @e5 @e6))) @DD trivial ?_
      exact this
    rw [if_neg hl] at hsc
    have hc : i = 0 ∨ i = 1 ∨ i = 2 ∨ i = 3 ∨ i = 4 ∨ i = 5 ∨ i = 6 := by omega
    rcases hc with rfl | rfl | rfl | rfl | rfl | rfl | rfl
    · by_cases h1 : b.getD 0 0 = 127
      · rw [if_neg (by revert h1; generalize List.getD b _ (0 : Int) = c; intro h1; simp [idW, h1])] at hsc
        refine W1 (And.intro @e0 (And.intro @e2 (And.intro @e5 @e6))) (And.intro @DD @h1) trivial ?_
        exact ⟨q, by omega, _, _, Gh.sel [0, 1] (by decide) (hz0 hZ), rfl, 1, by omega, hsc, by exact lk @e0, by exact lk @e2, by exact lk @e5, by exact lk @e6⟩
      · rw [if_pos (by revert h1; generalize List.getD b _ (0 : Int) = c; intro h1; simp [idW, h1]), show idW 0 (b.getD 0 0) = 3 by revert h1; generalize List.getD b _ (0 : Int) = c; intro h1; simp [idW, h1]] at hsc
        have := hk1 0 3 (by rw [hB7, ← hsc]; rfl)
        refine W1 (And.intro @e0 (And.intro @e2 (And.intro @e5 @e6))) @DD trivial ?_
        exact this
    · by_cases h1 : b.getD 1 0 = 69
      · rw [if_neg (by revert h1; generalize List.getD b _ (0 : Int) = c; intro h1; simp [idW, h1])] at hsc
        refine W1 (And.intro @e0 (And.intro @e2 (And.intro @e5 @e6))) (And.intro @DD @h1) trivial ?_
        exact ⟨q, by omega, _, _, Gh.sel [0, 1] (by decide) (hz0 hZ), rfl, 2, by omega, hsc, by exact lk @e0, by exact lk @e2, by exact lk @e5, by exact lk @e6⟩
      · rw [if_pos (by revert h1; generalize List.getD b _ (0 : Int) = c; intro h1; simp [idW, h1]), show idW 1 (b.getD 1 0) = 3 by revert h1; generalize List.getD b _ (0 : Int) = c; intro h1; simp [idW, h1]] at hsc
        have := hk1 1 3 (by rw [hB7, ← hsc]; rfl)
        refine W1 (And.intro @e0 (And.intro @e2 (And.intro @e5 @e6))) @DD trivial ?_
        exact this
    · by_cases h1 : b.getD 2 0 = 76
      · rw [if_neg (by revert h1; generalize List.getD b _ (0 : Int) = c; intro h1; simp [idW, h1])] at hsc
        refine W1 (And.intro @e0 (And.intro @e2 (And.intro @e5 @e6))) (And.intro @DD @h1) trivial ?_
        exact ⟨q, by omega, _, _, Gh.sel [0, 1] (by decide) (hz0 hZ), rfl, 3, by omega, hsc, by exact lk @e0, by exact lk @e2, by exact lk @e5, by exact lk @e6⟩
      · rw [if_pos (by revert h1; generalize List.getD b _ (0 : Int) = c; intro h1; simp [idW, h1]), show idW 2 (b.getD 2 0) = 3 by revert h1; generalize List.getD b _ (0 : Int) = c; intro h1; simp [idW, h1]] at hsc
        have := hk1 2 3 (by rw [hB7, ← hsc]; rfl)
        refine W1 (And.intro @e0 (And.intro @e2 (And.intro @e5 @e6))) @DD trivial ?_
        exact this
    · by_cases h1 : b.getD 3 0 = 70
      · rw [if_neg (by revert h1; generalize List.getD b _ (0 : Int) = c; intro h1; simp [idW, h1])] at hsc
        refine W1 (And.intro @e0 (And.intro @e2 (And.intro @e5 @e6))) (And.intro @DD @h1) trivial ?_
        exact ⟨q, by omega, _, _, Gh.sel [0, 1] (by decide) (hz0 hZ), rfl, 4, by omega, hsc, by exact lk @e0, by exact lk @e2, by exact lk @e5, by exact lk @e6⟩
      · rw [if_pos (by revert h1; generalize List.getD b _ (0 : Int) = c; intro h1; simp [idW, h1]), show idW 3 (b.getD 3 0) = 3 by revert h1; generalize List.getD b _ (0 : Int) = c; intro h1; simp [idW, h1]] at hsc
        have := hk1 3 3 (by rw [hB7, ← hsc]; rfl)
        refine W1 (And.intro @e0 (And.intro @e2 (And.intro @e5 @e6))) @DD trivial ?_
        exact this
    · by_cases h1 : b.getD 4 0 = 1
      · rw [if_neg (by revert h1; generalize List.getD b _ (0 : Int) = c; intro h1; simp [idW, h1])] at hsc
        refine W1 (And.intro @e0 (And.intro @e2 (And.intro @e5 @e6))) (And.intro @DD @h1) trivial ?_
        exact ⟨q, by omega, _, _, Gh.sel [0, 1] (by decide) (hz0 hZ), rfl, 5, by omega, hsc, by exact lk @e0, by exact lk @e2, by exact lk @e5, by exact lk @e6⟩
      · by_cases h2 : b.getD 4 0 = 2
        · rw [if_neg (by revert h2; clear h1; generalize List.getD b _ (0 : Int) = c; intro h2; simp [idW, h2])] at hsc
          refine W1 (And.intro @e0 (And.intro @e2 (And.intro @e5 @e6))) (And.intro @DD @h2) trivial ?_
          exact ⟨q, by omega, _, _, Gh.sel [0, 1] (by decide) (hz0 hZ), rfl, 5, by omega, hsc, by exact lk @e0, by exact lk @e2, by exact lk @e5, by exact lk @e6⟩
        · rw [if_pos (by revert h1 h2; generalize List.getD b _ (0 : Int) = c; intro h1 h2; simp [idW, h1, h2]), show idW 4 (b.getD 4 0) = 4 by revert h1 h2; generalize List.getD b _ (0 : Int) = c; intro h1 h2; simp [idW, h1, h2]] at hsc
          have := hk1 4 4 (by rw [hB7, ← hsc]; rfl)
          refine W1 (And.intro @e0 (And.intro @e2 (And.intro @e5 @e6))) @DD trivial ?_
          exact this
    · by_cases h1 : b.getD 5 0 = 1
      · rw [if_neg (by revert h1; generalize List.getD b _ (0 : Int) = c; intro h1; simp [idW, h1])] at hsc
        refine W1 (And.intro @e0 (And.intro @e2 (And.intro @e5 @e6))) (And.intro @DD @h1) trivial ?_
        exact ⟨q, by omega, _, _, Gh.sel [0, 1] (by decide) (hz0 hZ), rfl, 6, by omega, hsc, by exact lk @e0, by exact lk @e2, by exact lk @e5, by exact lk @e6⟩
      · by_cases h2 : b.getD 5 0 = 2
        · rw [if_neg (by revert h2; clear h1; generalize List.getD b _ (0 : Int) = c; intro h2; simp [idW, h2])] at hsc
          refine W1 (And.intro @e0 (And.intro @e2 (And.intro @e5 @e6))) (And.intro @DD @h2) trivial ?_
          exact ⟨q, by omega, _, _, Gh.sel [0, 1] (by decide) (hz0 hZ), rfl, 6, by omega, hsc, by exact lk @e0, by exact lk @e2, by exact lk @e5, by exact lk @e6⟩
        · rw [if_pos (by revert h1 h2; generalize List.getD b _ (0 : Int) = c; intro h1 h2; simp [idW, h1, h2]), show idW 5 (b.getD 5 0) = 4 by revert h1 h2; generalize List.getD b _ (0 : Int) = c; intro h1 h2; simp [idW, h1, h2]] at hsc
          have := hk1 5 4 (by rw [hB7, ← hsc]; rfl)
          refine W1 (And.intro @e0 (And.intro @e2 (And.intro @e5 @e6))) @DD trivial ?_
          exact this
    · by_cases h1 : b.getD 6 0 = 1
      · rw [if_neg (by revert h1; generalize List.getD b _ (0 : Int) = c; intro h1; simp [idW, h1])] at hsc
        refine W1 (And.intro @e0 (And.intro @e2 (And.intro @e5 @e6))) (And.intro @DD @h1) trivial ?_
        exact ⟨q, by omega, _, _, Gh.sel [0, 1] (by decide) (hz0 hZ), rfl, 7, by omega, hsc, by exact lk @e0, by exact lk @e2, by exact lk @e5, by exact lk @e6⟩
      · rw [if_pos (by revert h1; generalize List.getD b _ (0 : Int) = c; intro h1; simp [idW, h1]), show idW 6 (b.getD 6 0) = 4 by revert h1; generalize List.getD b _ (0 : Int) = c; intro h1; simp [idW, h1]] at hsc
        have := hk1 6 4 (by rw [hB7, ← hsc]; rfl)
        refine W1 (And.intro @e0 (And.intro @e2 (And.intro @e5 @e6))) @DD trivial ?_
        exact this
end Go.Proofs.Ytmknnlbbfeldbaa.PvW

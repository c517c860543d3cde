/- What Spot and Sum yield. No statement of the set is proved in this text. -/
import Derived.Test.YtmknnlbbfeldbaaPvOps
namespace Go.Proofs.Ytmknnlbbfeldbaa.PvW
open Go.RowKit Go.Proofs.Ytmknnlbbfeldbaa.Cd Go.Proofs.Ytmknnlbbfeldbaa.AbP Go.Proofs.Ytmknnlbbfeldbaa.Num Go.Proofs.Ytmknnlbbfeldbaa.Pv
set_option maxRecDepth 100000
set_option maxHeartbeats 4000000
set_option linter.unusedVariables false
set_option linter.unusedSimpArgs false
variable {K : PV → List OB → Prop}
abbrev eSpot (at' c : Int) : PV := .ifc 78 (.ref [.int .i64 at', .int .i64 c] 0)
theorem spotN_spec (hk : K (.tup [.int .i64 0, .int .i64 0]) []) : PCalls Try.prog 13 [.nilI] [] K := by
  refine told_callP bezantlaw00_Spot.told fun Z hZ => ?_
  unfold bezantlaw00_Spot.c
  refine W1 trivial trivial trivial ?_
  exact hk
theorem spotC_spec {c : Int} (h : Om (1 ≤ c ∧ c ≤ 12)) (hk : K (.tup [.int .i64 c, .int .i64 (-1)]) []) : PCalls Try.prog 13 [eCode c] [] K := by
  refine told_callP bezantlaw00_Spot.told fun Z hZ => ?_
  unfold bezantlaw00_Spot.c
  obtain ⟨h1, h2⟩ := h.o
  refine W1 trivial @DD @code_spec ?_
  exact hk
theorem spotS_spec {c a : Int} (hk : K (.tup [.int .i64 c, .int .i64 a]) []) : PCalls Try.prog 13 [eSpot a c] [] K := by
  refine told_callP bezantlaw00_Spot.told fun Z hZ => ?_
  unfold bezantlaw00_Spot.c
  refine W1 trivial trivial trivial ?_
  exact hk
theorem sumL_bound : ∀ {ns : List Int}, (∀ n ∈ ns, 0 ≤ n ∧ n ≤ 100) → 0 ≤ sumL ns ∧ sumL ns ≤ 100 * ns.length
  | [], _ => ⟨Int.le_refl _, Int.le_refl _⟩
  | n :: ns, h => by
    have ih := sumL_bound (ns := ns) (fun x hx => h x (by simp [hx]))
    have hn := h n (by simp)
    show 0 ≤ n + sumL ns ∧ n + sumL ns ≤ 100 * ((ns.length + 1 : Nat) : Int)
    omega
theorem sumL_snoc : ∀ (ns : List Int) (n : Int), sumL (ns ++ [n]) = sumL ns + n
  | [], n => by simp [sumL]
  | m :: ns, n => by
    have := sumL_snoc ns n
    show m + sumL (ns ++ [n]) = m + sumL ns + n
    omega
theorem sum_spec {ns : List Int} (h : Am (∀ n ∈ ns, 0 ≤ n ∧ n ≤ 100)) (hl : Om (ns.length ≤ 1000)) (hk : K (.int .i64 (sumL ns)) []) : PCalls Try.prog 52 [.sl (.int .i64) ns] [] K := by
  refine told_callP bezantref04_Sum.told fun Z hZ => ?_
  unfold bezantref04_Sum.c
  replace h := h.o
  replace hl := hl.o
  refine W1 trivial trivial trivial ?_
  refine w_lp (fun q e s => s = [] ∧ ∃ i : Nat, q + i = ns.length ∧ e 0 = .sl (.int .i64) ns ∧ e 3 = .int .i64 (sumL (ns.take i)) ∧ e 4 = .int .i64 i) ns.length ?_ ?_
  · exact ⟨rfl, 0, rfl, by exact lk trivial, by exact lk trivial, by exact lk trivial⟩
  rintro q e s ⟨rfl, i, hi, e0, e3, e4⟩
  have hb := sumL_bound (ns := ns.take i) (fun x hx => h x (List.mem_of_mem_take hx))
  rw [List.length_take] at hb
  by_cases hq : i < ns.length
  · have hn := h _ (getD_mem hq)
    have ht : sumL (ns.take (i + 1)) = sumL (ns.take i) + ns.getD i 0 := by rw [take_snoc hq, sumL_snoc]
    refine W1 (And.intro @e0 (And.intro @e3 @e4)) @DD trivial ?_
    exact ⟨q - 1, by omega, rfl, i + 1, by omega, by exact lk @e0, by rw [ht]; exact lk trivial, by exact lk @e4⟩
  · obtain rfl : i = ns.length := by omega
    rw [List.take_length] at e3 hb
    refine W1 (And.intro @e0 (And.intro @e3 @e4)) @DD trivial ?_
    exact hk
end Go.Proofs.Ytmknnlbbfeldbaa.PvW

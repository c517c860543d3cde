/- What Spot and Sum yield. No statement of the set is proved in this text. -/
import Derived.Test.YtoieblaagkbncaaPvOps
namespace Go.Proofs.Ytoieblaagkbncaa.PvW
open Go.RowKit Go.Proofs.Ytoieblaagkbncaa.Cd Go.Proofs.Ytoieblaagkbncaa.AbP Go.Proofs.Ytoieblaagkbncaa.Num Go.Proofs.Ytoieblaagkbncaa.Pv
set_option maxRecDepth 100000
set_option maxHeartbeats 4000000
set_option linter.unusedVariables false
set_option linter.unusedSimpArgs false
variable {K : PV → List OB → Prop}
abbrev eSpot (at' c : Int) : PV := .ifc 95 (.ref [.int .i64 at', .int .i64 c] 0)
theorem spotN_spec (hk : K (.tup [.int .i64 0, .int .i64 0]) []) : PCalls Try.prog 15 [.nilI] [] K := by
  refine told_callP bezantlaw00_Spot.told fun Z hZ => ?_
  unfold bezantlaw00_Spot.c
  refine W1 trivial trivial trivial ?_
  exact hk
theorem spotC_spec {c : Int} (h : Om (1 ≤ c ∧ c ≤ 12)) (hk : K (.tup [.int .i64 c, .int .i64 (-1)]) []) : PCalls Try.prog 15 [eCode c] [] K := by
  refine told_callP bezantlaw00_Spot.told fun Z hZ => ?_
  unfold bezantlaw00_Spot.c
  obtain ⟨h1, h2⟩ := h.o
  refine W1 trivial @DD @code_spec ?_
  exact hk
theorem spotS_spec {c a : Int} (hk : K (.tup [.int .i64 c, .int .i64 a]) []) : PCalls Try.prog 15 [eSpot a c] [] K := by
  refine told_callP bezantlaw00_Spot.told fun Z hZ => ?_
  unfold bezantlaw00_Spot.c
  refine W1 trivial trivial trivial ?_
  exact hk
theorem sumL_bound : ∀ {ns : List Int}, (∀ n ∈ ns, 0 ≤ n ∧ n ≤ 100) → 0 ≤ sumL ns ∧ sumL ns ≤ 100 * ns.length
  | [], _ => ⟨Int.le_refl _, Int.le_refl _⟩
  | n :: ns, h => by
    have ih := sumL_bound (ns := ns) (fun x hx => h x (by simp [hx]))
    have hn := h n (by simp)
    show 0 ≤ n + sumL ns ∧ n + sumL ns ≤ 100 * ((ns.length + 1 : Nat) : Int)
    omega
theorem sumL_snoc : ∀ (ns : List Int) (n : Int), sumL (ns ++ [n]) = sumL ns + n
  | [], n => by simp [sumL]
  | m :: ns, n => by
    have := sumL_snoc ns n
    show m + sumL (ns ++ [n]) = m + sumL ns + n
    omega
end Go.Proofs.Ytoieblaagkbncaa.PvW

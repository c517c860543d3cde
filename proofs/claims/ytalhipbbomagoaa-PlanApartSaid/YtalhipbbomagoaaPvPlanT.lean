/- The walk of PlanTells. No statement of the set is proved in this text. -/
import Derived.Test.YtalhipbbomagoaaPvRefE
import Derived.Test.YtalhipbbomagoaaPvModelN
namespace Go.Proofs.Ytalhipbbomagoaa.PvW
open Go.RowKit Go.Proofs.Ytalhipbbomagoaa.Cd Go.Proofs.Ytalhipbbomagoaa.AbP Go.Proofs.Ytalhipbbomagoaa.Num Go.Proofs.Ytalhipbbomagoaa.Pv
set_option maxRecDepth 100000
set_option maxHeartbeats 4000000
set_option linter.unusedVariables false
set_option linter.unusedSimpArgs false
theorem firstC_range {α : Type} {f : α → Int} (hf : ∀ x, 0 ≤ f x ∧ f x ≤ 12) : ∀ l : List α, 0 ≤ firstC f l ∧ firstC f l ≤ 12
  | [] => ⟨Int.le_refl 0, by show (0 : Int) ≤ 12; decide⟩
  | x :: l => by
    show 0 ≤ (if f x ≠ 0 then f x else firstC f l) ∧ (if f x ≠ 0 then f x else firstC f l) ≤ 12
    split
    · exact hf x
    · exact firstC_range hf l
theorem ite_rng {c : Prop} {_ : Decidable c} {a b : Int} (ha : 0 ≤ a ∧ a ≤ 12) (hb : 0 ≤ b ∧ b ≤ 12) : 0 ≤ (if c then a else b) ∧ (if c then a else b) ≤ 12 := by split <;> assumption
theorem wrongC_range (w : Bool) (en : Int) (segs : List dSeg.T) (secs : List dSec.T) (st : Int) : 0 ≤ wrongC w en segs secs st ∧ wrongC w en segs secs st ≤ 12 := by
  have h1 := firstC_range (f := segCx w segs) (fun x => ite_rng (by decide) (ite_rng (by decide) (ite_rng (by decide) (ite_rng (by decide) (ite_rng (by decide) (by decide)))))) segs
  have h2 := firstC_range (f := secCx segs secs.length) (fun x => ite_rng (by decide) (ite_rng (by decide) (by decide))) secs
  have h3 : 0 ≤ namesC secs st ∧ namesC secs st ≤ 12 := by
    unfold namesC
    refine ite_rng (by decide) (ite_rng (ite_rng (by decide) (by decide)) ?_)
    split
    · decide
    · exact ite_rng (by decide) (ite_rng (by decide) (by decide))
  unfold wrongC
  exact ite_rng (by decide) (ite_rng (by decide) (ite_rng h1 (ite_rng (by decide) (ite_rng h2 h3))))
theorem planV0 (w : Bool) : planV w [] [] = ⟨0, 0, hsz w, [], [], false⟩ := rfl
section
variable {K : PV → List OB → Prop} {w big : Bool} {o ab ty ma fl en st : Int} {segs : List dSeg.T} {secs : List dSec.T}
theorem rnums_spec {l : List Int} (hl : Om (l.length ≤ 1000000)) (hk : K (.int .i64 1) []) : PCalls Try.prog 29 [.sl (.int .u64) l, .sl (.int .u64) l] [] K := by
  have hl := hl.o
  refine told_callP bezantlaw00_Nums.told fun Z hZ => ?_
  unfold bezantlaw00_Nums.c
  refine W1 trivial @DD trivial ?_
  refine w_lp (fun q e s => s = [] ∧ ∃ i : Nat, q + i = l.length ∧ e 0 = .sl (.int .u64) l ∧ e 1 = .sl (.int .u64) l ∧ e 5 = .int .i64 i) l.length ?_ ?_
  · exact ⟨rfl, 0, by omega, by exact lk trivial, by exact lk trivial, by exact lk trivial⟩
  rintro q e s ⟨rfl, i, hi, e0, e1, e5⟩
  by_cases hq : i < l.length
  · refine W1 (And.intro @e0 (And.intro @e1 @e5)) @DD trivial ?_
    exact ⟨q - 1, by omega, rfl, i + 1, by omega, by exact lk @e0, by exact lk @e1, by exact lk @e5⟩
  · refine W1 (And.intro @e0 (And.intro @e1 @e5)) @DD trivial ?_
    exact hk
theorem rnums0_spec (hk : K (.int .i64 1) []) : PCalls Try.prog 29 [.nilS, .nilS] [] K := PCalls.wk (.n (.int .u64) (.n (.int .u64) .z)) (rnums_spec ⟨by simp⟩ hk)
theorem plan0_spec (he : Om (0 ≤ en ∧ en ≤ 18446744073709551615)) (hk0 : wrongC w en [] [] st ≠ 0 → K (.tup [pvPlan0, eCode (wrongC w en [] [] st)]) [])
    (hk2 : wrongC w en [] [] st = 0 → K (.tup [.agg [.int .u64 0, .int .u64 0, .int .u64 (hsz w), .sl (.int .u64) [], .sl (.int .u64) []], .nilI]) []) :
    PCalls Try.prog 27 [.agg [.bool w, .bool big, .int .u8 o, .int .u8 ab, .int .u16 ty, .int .u16 ma, .int .u32 fl, .int .u64 en, .nilS, .nilS, .int .i64 st]] [] K :=
  PCalls.wkA (.g (WkA.mdi w big o ab ty ma fl en st) .z) (plan_spec he ⟨fun s hs => by cases hs⟩ ⟨fun s hs => by cases hs⟩ hk0 (fun _ h => by rw [planV0] at h; cases h) (fun h _ => by rw [planV0]; exact hk2 h))
theorem up15_spec (hk : K (.bool true) []) : PCalls Try.prog 26 [] [] K := by
  refine told_callP bezantlaw15_up.told fun Z hZ => ?_
  unfold bezantlaw15_up.c
  have hw0 : wrongC false 0 [] [] 0 = 0 := by rw [wrong0]; decide
  have hw1 : wrongC false 0 [] [] 1 = 10 := by rw [wrong0]; decide
  have hz : hsz false = 52 := rfl
  refine W1 trivial @DD trivial ?_
  refine plan0_spec ⟨by omega⟩ (fun h => absurd hw0 h) (fun _ => ?_)
  refine W1 trivial @DD trivial ?_
  refine plan0_spec ⟨by omega⟩ (fun _ => ?_) (fun h => by rw [hw1] at h; cases h)
  rw [hw1]
  refine W1 trivial (And.intro @DD @hz) @code_spec ?_
  exact hk
theorem ptells_core (he : 0 ≤ en ∧ en ≤ 18446744073709551615) (hG : ∀ s ∈ segs, SegG s) (hM : ∀ s ∈ secs, SecG s) :
    PCalls Try.prog 6 [.agg [.bool w, .bool big, .int .u8 o, .int .u8 ab, .int .u16 ty, .int .u16 ma, .int .u32 fl, .int .u64 en, .sl dSeg segs, .sl dSec secs, .int .i64 st]] [] fun p _ => p = .bool true := by
  refine told_callP bezantlaw15_PlanTells.told fun Z hZ => ?_
  unfold bezantlaw15_PlanTells.c
  refine W1 trivial @DD @up15_spec ?_
  refine few_spec (fun s hs => (hG s hs).2) (fun s hs => (hM s hs).2) (fun l20 l70 hs1 hs2 => ?_) ?_
  rotate_left
  · refine W1 trivial @DD trivial ?_
    rfl
  have hGN := segsN_of hG hs1
  have hMN := secsN_of hM hs2
  have hwr := wrongC_range w en segs secs st
  refine W1 trivial @DD trivial ?_
  refine plan_spec ⟨he⟩ ⟨hGN⟩ ⟨hMN⟩ (fun h0 => ?_) (fun h0 h1 => ?_) (fun h0 h1 => ?_)
  · refine W1 trivial @DD trivial ?_
    refine rplan_spec ⟨he⟩ ⟨hGN⟩ ⟨hMN⟩ (fun _ => ?_) (fun h _ => absurd h h0) (fun h _ => absurd h h0)
    refine W1 trivial @DD (And.intro @code_spec @rnums0_spec) ?_
    rfl
  · refine W1 trivial @DD trivial ?_
    refine rplan_spec ⟨he⟩ ⟨hGN⟩ ⟨hMN⟩ (fun h => absurd h0 h) (fun _ _ => ?_) (fun _ h => by rw [h1] at h; cases h)
    refine W1 trivial @DD (And.intro @code_spec @rnums0_spec) ?_
    rfl
  · have hS : (planV w segs secs).S.length = segs.length := by
      show (plaB w segs).1.length = _
      unfold plaB
      rw [fold_len (st2_len _)]
      simp
    have hT : (planV w segs secs).T.length = secs.length := by
      show (plaC w segs secs).1.length = _
      unfold plaC
      rw [fold_len (st3_len _)]
      simp
    refine W1 trivial @DD trivial ?_
    refine rplan_spec ⟨he⟩ ⟨hGN⟩ ⟨hMN⟩ (fun h => absurd h0 h) (fun _ h => by rw [h1] at h; cases h) (fun _ _ => ?_)
    generalize planV w segs secs = pv at *
    obtain ⟨ph, sh, sz, S, T, ov⟩ := pv
    dsimp only at *
    refine W1 trivial @DD (And.intro @code0_spec @rnums_spec) ?_
    rfl
theorem ptells_walk (x0 : ((.st (.cons (.st (.cons (.st (.cons .bool (.cons .bool .nil))) (.cons (.int .u8) (.cons (.int .u8) .nil)))) (.cons (.int .u16) (.cons (.int .u16) (.cons (.int .u32) (.cons (.int .u64) (.cons (.sl (.st (.cons (.int .u32) (.cons (.int .u32) (.cons (.int .u64) (.cons (.int .u64) (.cons (.int .u64) (.cons (.int .u64) (.cons (.st (.cons (.int .i64) (.cons (.int .u64) (.cons (.int .u64) (.cons (.sl (.int .u8)) .nil))))) .nil))))))))) (.cons (.sl (.st (.cons (.int .u32) (.cons (.int .u32) (.cons (.int .u64) (.cons (.int .u64) (.cons (.int .u64) (.cons (.int .u32) (.cons (.int .u32) (.cons (.int .u64) (.cons (.int .u64) (.cons (.st (.cons (.int .i64) (.cons (.int .u64) (.cons (.int .u64) (.cons (.sl (.int .u8)) .nil))))) .nil)))))))))))) (.cons (.int .i64) .nil))))))))) : Ab.D).T) (g0 : ((.st (.cons (.st (.cons (.st (.cons .bool (.cons .bool .nil))) (.cons (.int .u8) (.cons (.int .u8) .nil)))) (.cons (.int .u16) (.cons (.int .u16) (.cons (.int .u32) (.cons (.int .u64) (.cons (.sl (.st (.cons (.int .u32) (.cons (.int .u32) (.cons (.int .u64) (.cons (.int .u64) (.cons (.int .u64) (.cons (.int .u64) (.cons (.st (.cons (.int .i64) (.cons (.int .u64) (.cons (.int .u64) (.cons (.sl (.int .u8)) .nil))))) .nil))))))))) (.cons (.sl (.st (.cons (.int .u32) (.cons (.int .u32) (.cons (.int .u64) (.cons (.int .u64) (.cons (.int .u64) (.cons (.int .u32) (.cons (.int .u32) (.cons (.int .u64) (.cons (.int .u64) (.cons (.st (.cons (.int .i64) (.cons (.int .u64) (.cons (.int .u64) (.cons (.sl (.int .u8)) .nil))))) .nil)))))))))))) (.cons (.int .i64) .nil))))))))) : Ab.D).good x0) :
    PCalls Try.prog 6 [pvD (.st (.cons (.st (.cons (.st (.cons .bool (.cons .bool .nil))) (.cons (.int .u8) (.cons (.int .u8) .nil)))) (.cons (.int .u16) (.cons (.int .u16) (.cons (.int .u32) (.cons (.int .u64) (.cons (.sl (.st (.cons (.int .u32) (.cons (.int .u32) (.cons (.int .u64) (.cons (.int .u64) (.cons (.int .u64) (.cons (.int .u64) (.cons (.st (.cons (.int .i64) (.cons (.int .u64) (.cons (.int .u64) (.cons (.sl (.int .u8)) .nil))))) .nil))))))))) (.cons (.sl (.st (.cons (.int .u32) (.cons (.int .u32) (.cons (.int .u64) (.cons (.int .u64) (.cons (.int .u64) (.cons (.int .u32) (.cons (.int .u32) (.cons (.int .u64) (.cons (.int .u64) (.cons (.st (.cons (.int .i64) (.cons (.int .u64) (.cons (.int .u64) (.cons (.sl (.int .u8)) .nil))))) .nil)))))))))))) (.cons (.int .i64) .nil))))))))) x0] [] fun p _ => p = .bool true := by
  obtain ⟨⟨⟨w, big, _⟩, o, ab, _⟩, ty, ma, fl, en, segs, secs, st, _⟩ := x0
  obtain ⟨_, _, _, _, g4, g5, g6, _⟩ := g0
  exact ptells_core (u64_of g4) (segG_of g5.2) (secG_of g6.2)
end
end Go.Proofs.Ytalhipbbomagoaa.PvW

/- What the document's answer for the header of bytes yields. No statement of the set is proved in this text. -/
import Derived.Test.YtmknnlbbfeldbaaPvHeadC
namespace Go.Proofs.Ytmknnlbbfeldbaa.PvW
open Go.RowKit Go.Proofs.Ytmknnlbbfeldbaa.Cd Go.Proofs.Ytmknnlbbfeldbaa.AbP Go.Proofs.Ytmknnlbbfeldbaa.Num Go.Proofs.Ytmknnlbbfeldbaa.Pv
set_option maxRecDepth 100000
set_option maxHeartbeats 4000000
set_option linter.unusedVariables false
set_option linter.unusedSimpArgs false
variable {K : PV → List OB → Prop}
theorem idW_ok (i : Nat) (c : Int) : idW i c = 0 ∨ idW i c = 3 ∨ idW i c = 4 := by
  unfold idW
  repeat' split
  all_goals simp
theorem idScan_ok (b : List Int) : ∀ (n i : Nat) (a c : Int), i ≤ b.length → idScan b i n = some (a, c) → 2 ≤ c ∧ c ≤ 4 ∧ 0 ≤ a ∧ a < i + n ∧ a ≤ b.length
  | 0, i, a, c, hi, h => by cases h
  | n + 1, i, a, c, hi, h => by
    unfold idScan at h
    split at h
    · rename_i hl
      obtain ⟨rfl, rfl⟩ := Prod.mk.inj (Option.some.inj h)
      omega
    · rename_i hl
      split at h
      · rename_i hw
        obtain ⟨rfl, rfl⟩ := Prod.mk.inj (Option.some.inj h)
        have := idW_ok i (b.getD i 0)
        omega
      · have := idScan_ok b n (i + 1) a c (by omega) h
        omega
theorem idBad_ok {b : List Int} {a c : Int} (h : idBad b = some (a, c)) : 2 ≤ c ∧ c ≤ 4 ∧ 0 ≤ a ∧ a ≤ 16 ∧ a ≤ b.length := by
  unfold idBad at h
  split at h
  · rename_i x hx
    obtain rfl := Option.some.inj h
    have := idScan_ok b 7 0 a c (Nat.zero_le _) hx
    omega
  · split at h
    · obtain ⟨rfl, rfl⟩ := Prod.mk.inj (Option.some.inj h)
      omega
    · cases h
theorem rhget_spec {b : List Int} (hB : Am (B b)) (hm : Om (b.length ≤ 1000000)) (hk1 : ∀ a c, headBad b = some (a, c) → K (.tup [headZ, .int .i64 c, .int .i64 a]) [])
    (hk2 : headBad b = none → K (.tup [headA (decide (b.getD 4 0 = 2)) (decide (b.getD 5 0 = 2)) (b.getD 7 0) (b.getD 8 0) (gets b (decide (b.getD 5 0 = 2)) 16 (headW (decide (b.getD 4 0 = 2)))), .int .i64 0, .int .i64 0]) []) :
    PCalls Try.prog 22 [.sl (.int .u8) b] [] K := by
  have hB := hB.o
  have hm := hm.o
  refine told_callP bezantref04_GetHead.told fun Z hZ => ?_
  unfold bezantref04_GetHead.c
  have hH : headBad b = (match idBad b with | some x => some x | none => if (b.length : Int) < hsz (decide (b.getD 4 0 = 2)) then some (b.length, 2) else numBad (decide (b.getD 4 0 = 2)) (gets b (decide (b.getD 5 0 = 2)) 16 (headW (decide (b.getD 4 0 = 2))))) := rfl
  refine W1 trivial @DD trivial ?_
  refine riget_spec ⟨hB⟩ ⟨hm⟩ (fun a c hid => ?_) (fun hid => ?_)
  · have hk := hk1 a c (by rw [hH, hid])
    have hc := idBad_ok hid
    refine W1 trivial @DD trivial ?_
    exact hk
  rw [hid] at hH
  have hH : headBad b = if (b.length : Int) < hsz (decide (b.getD 4 0 = 2)) then some ((b.length : Int), 2) else numBad (decide (b.getD 4 0 = 2)) (gets b (decide (b.getD 5 0 = 2)) 16 (headW (decide (b.getD 4 0 = 2)))) := hH
  unfold idV
  generalize decide (b.getD 4 0 = 2) = w at *
  generalize decide (b.getD 5 0 = 2) = big at *
  have hsz1 : 52 ≤ hsz w ∧ hsz w ≤ 64 := by cases w <;> decide
  by_cases hl : (b.length : Int) < hsz w
  · rw [if_pos hl] at hH
    have hk := hk1 _ _ hH
    refine W1 trivial @DD @sizes_spec ?_
    exact hk
  rw [if_neg hl] at hH
  refine Wp1 trivial @DD (And.intro (@oFrz 12) (And.intro @sizes_spec @rhrow_spec)) ?_
  have hsum := headW_sum w
  have hwd := wd_le w
  have hR := numsAt_ok (b := b) (big := big) (a := 16) (acc := []) (headW_wide w) (by rw [hsum]; omega)
  refine nums_spec ⟨hB⟩ ⟨by omega⟩ ⟨show 13 ≤ 1000 by decide⟩ ⟨by omega⟩ (fun _ => ?_) (fun no => absurd no (by rw [hR]; simp))
  rw [hR, List.nil_append]
  have r0 : 0 ≤ (gets b big 16 (headW w)).getD 0 0 ∧ (gets b big 16 (headW w)).getD 0 0 ≤ 65535 := range2 hB 16 big
  have r1 : 0 ≤ (gets b big 16 (headW w)).getD 1 0 ∧ (gets b big 16 (headW w)).getD 1 0 ≤ 65535 := range2 hB (16 + 2) big
  have r6 : 0 ≤ (gets b big 16 (headW w)).getD 6 0 ∧ (gets b big 16 (headW w)).getD 6 0 ≤ 4294967295 := range4 hB (16 + 2 + 2 + 4 + wd w + wd w + wd w) big
  have r9 : 0 ≤ (gets b big 16 (headW w)).getD 9 0 ∧ (gets b big 16 (headW w)).getD 9 0 ≤ 65535 := range2 hB (16 + 2 + 2 + 4 + wd w + wd w + wd w + 4 + 2 + 2) big
  have r11 : 0 ≤ (gets b big 16 (headW w)).getD 11 0 ∧ (gets b big 16 (headW w)).getD 11 0 ≤ 65535 := range2 hB (16 + 2 + 2 + 4 + wd w + wd w + wd w + 4 + 2 + 2 + 2 + 2) big
  have r12 : 0 ≤ (gets b big 16 (headW w)).getD 12 0 ∧ (gets b big 16 (headW w)).getD 12 0 ≤ 65535 := range2 hB (16 + 2 + 2 + 4 + wd w + wd w + wd w + 4 + 2 + 2 + 2 + 2 + 2) big
  have r5 : 0 ≤ (gets b big 16 (headW w)).getD 5 0 := (getSpec_range (n := wd w) hB _ rfl).1
  have hlen : (gets b big 16 (headW w)).length = 13 := rfl
  have hpz : 0 ≤ hpr w ∧ hpr w ≤ 56 := by cases w <;> decide
  have hsz0 : 0 ≤ hsc w ∧ hsc w ≤ 64 := by cases w <;> decide
  have hW : ∀ k, ∀ n ∈ (headW w).take k, 0 ≤ n ∧ n ≤ 100 := fun k n hn => by
    have : ∀ n ∈ headW w, 0 ≤ n ∧ n ≤ 100 := by cases w <;> decide
    exact this n (List.mem_of_mem_take hn)
  have hs7 : sumL ((headW w).take 7) = 12 + 3 * wd w := by cases w <;> rfl
  have hs8 : sumL ((headW w).take 8) = 14 + 3 * wd w := by cases w <;> rfl
  have hs10 : sumL ((headW w).take 10) = 18 + 3 * wd w := by cases w <;> rfl
  generalize gets b big 16 (headW w) = v at *
  unfold numBad at hH
  by_cases c1 : v.getD 2 0 = 1
  rotate_left
  · rw [if_pos c1] at hH
    have hk := hk1 _ _ hH
    refine W1 trivial @DD trivial ?_
    exact hk
  rw [if_neg (fun h => h c1)] at hH
  by_cases c2 : v.getD 7 0 = hsz w
  rotate_left
  · rw [if_pos c2] at hH
    have hk := hk1 _ _ hH
    refine W1 trivial @DD trivial ?_
    refine sum_spec ⟨hW 7⟩ ⟨by simp⟩ ?_
    rw [hs7]
    refine W1 trivial @DD trivial ?_
    rw [show (16 : Int) + (12 + 3 * wd w) = 28 + 3 * wd w by omega]
    exact hk
  rw [if_neg (fun h => h c2)] at hH
  by_cases c3 : 0 < v.getD 9 0
  · by_cases c4 : v.getD 8 0 = hpr w
    rotate_left
    · rw [if_pos ⟨c3, c4⟩] at hH
      have hk := hk1 _ _ hH
      refine W1 trivial @DD trivial ?_
      refine sum_spec ⟨hW 8⟩ ⟨by simp⟩ ?_
      rw [hs8]
      refine W1 trivial @DD trivial ?_
      rw [show (16 : Int) + (14 + 3 * wd w) = 28 + 3 * wd w + 2 by omega]
      exact hk
    rw [if_neg (fun h => h.2 c4)] at hH
    by_cases c5 : 0 < v.getD 5 0
    · by_cases c6 : v.getD 10 0 = hsc w
      rotate_left
      · rw [if_pos ⟨c5, c6⟩] at hH
        have hk := hk1 _ _ hH
        refine W1 trivial @DD trivial ?_
        refine sum_spec ⟨hW 10⟩ ⟨by simp⟩ ?_
        rw [hs10]
        refine W1 trivial @DD trivial ?_
        rw [show (16 : Int) + (18 + 3 * wd w) = 28 + 3 * wd w + 6 by omega]
        exact hk
      rw [if_neg (fun h => h.2 c6)] at hH
      have hk := hk2 hH
      refine W1 trivial @DD trivial ?_
      exact hk
    · rw [if_neg (fun h => c5 h.1)] at hH
      have hk := hk2 hH
      refine W1 trivial @DD trivial ?_
      exact hk
  · rw [if_neg (fun h => c3 h.1)] at hH
    by_cases c5 : 0 < v.getD 5 0
    · by_cases c6 : v.getD 10 0 = hsc w
      rotate_left
      · rw [if_pos ⟨c5, c6⟩] at hH
        have hk := hk1 _ _ hH
        refine W1 trivial @DD trivial ?_
        refine sum_spec ⟨hW 10⟩ ⟨by simp⟩ ?_
        rw [hs10]
        refine W1 trivial @DD trivial ?_
        rw [show (16 : Int) + (18 + 3 * wd w) = 28 + 3 * wd w + 6 by omega]
        exact hk
      rw [if_neg (fun h => h.2 c6)] at hH
      have hk := hk2 hH
      refine W1 trivial @DD trivial ?_
      exact hk
    · rw [if_neg (fun h => c5 h.1)] at hH
      have hk := hk2 hH
      refine W1 trivial @DD trivial ?_
      exact hk
end Go.Proofs.Ytmknnlbbfeldbaa.PvW

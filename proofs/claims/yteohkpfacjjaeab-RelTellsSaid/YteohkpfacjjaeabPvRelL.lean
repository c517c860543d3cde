/- The walk of RelTells. No statement of the set is proved in this text. -/
import Derived.Test.YteohkpfacjjaeabPvRelD
import Derived.Test.YteohkpfacjjaeabPvRelE
namespace Go.Proofs.Yteohkpfacjjaeab.PvW
open Go.RowKit Go.Proofs.Yteohkpfacjjaeab.Cd Go.Proofs.Yteohkpfacjjaeab.AbP Go.Proofs.Yteohkpfacjjaeab.Num Go.Proofs.Yteohkpfacjjaeab.Pv
set_option maxRecDepth 100000
set_option maxHeartbeats 4000000
set_option linter.unusedVariables false
set_option linter.unusedSimpArgs false
theorem etells_core {w big adds : Bool} {l : List dRel.T} {b : List Int} (hG : ∀ x ∈ l, RelG x) (hB : B b) :
    PCalls Try.prog 6 [.sl dRel l, .agg [.bool w, .bool big], .bool adds, .sl (.int .u8) b] [] fun p _ => p = .bool true := by
  refine told_callP bezantlaw09_RelTells.told fun Z hZ => ?_
  unfold bezantlaw09_RelTells.c
  by_cases h1 : 100 < (l.length : Int)
  · refine W1 trivial @DD @up9_spec ?_
    rfl
  by_cases h2 : 5000 < (b.length : Int)
  · refine W1 trivial @DD @up9_spec ?_
    rfl
  obtain ⟨N, e1⟩ : ∃ N : Nat, relS w adds = N := ⟨_, rfl⟩
  have hN := relS_le w adds
  rw [e1] at hN
  have hwd := wd_le w
  have hS2 : ((relS w false : Nat) : Int) = 2 * wd w := by cases w <;> rfl
  have hS3 : ((relS w true : Nat) : Int) = 3 * wd w := by cases w <;> rfl
  have hlb := relsB_le (w := w) (adds := adds) (big := big) l (i := l.length) (by omega)
  rw [List.take_length] at hlb
  cases hok : relOk w adds l
  · refine W1 trivial @DD @up9_spec ?_
    refine eput_spec ⟨hG⟩ ⟨by omega⟩ (fun ok => absurd ok (by rw [hok]; decide)) (fun _ => ?_)
    refine W1 trivial @DD trivial ?_
    refine eputs_spec ⟨hG⟩ ⟨by omega⟩ (fun ok => absurd ok (by rw [hok]; decide)) (fun _ => ?_)
    refine W1 trivial @DD @code_spec ?_
    by_cases hr : b.length % N = 0
    · obtain ⟨G, hGe, hgl, q1, q2, q3⟩ := rel_all w adds big hB e1 hr
      have hk : b.length / N ≤ 5000 := Nat.le_trans (Nat.div_le_self _ _) (by omega)
      rw [hgl] at hk
      refine W1 trivial @DD trivial ?_
      refine eall_spec (N := N) ⟨hB⟩ ⟨by omega⟩ ⟨e1⟩ (fun _ => ?_) (fun no => absurd hr no)
      rw [hGe, hgl]
      refine W1 trivial @DD trivial ?_
      refine rrels_spec (N := N) ⟨hB⟩ ⟨by omega⟩ ⟨e1⟩ (fun _ => ?_) (fun no => absurd hr no)
      rw [hGe, hgl]
      clear hGe hgl
      refine W1 trivial @DD @spotN_spec ?_
      cases adds
      all_goals
        refine W1 trivial (And.intro @DD (And.intro @hS2 @hS3)) (And.intro @word4_spec (And.intro @rsize_spec @same9_spec)) ?_
        rfl
    · refine W1 trivial @DD trivial ?_
      refine eall_spec (N := N) ⟨hB⟩ ⟨by omega⟩ ⟨e1⟩ (fun yes => absurd yes hr) (fun _ => ?_)
      refine W1 trivial @DD trivial ?_
      refine rrels_spec (N := N) ⟨hB⟩ ⟨by omega⟩ ⟨e1⟩ (fun yes => absurd yes hr) (fun _ => ?_)
      have hle : b.length % N ≤ b.length := Nat.mod_le _ _
      generalize b.length % N = r at *
      refine W1 trivial @DD @spotS_spec ?_
      cases adds
      all_goals
        refine W1 trivial (And.intro @DD (And.intro @hS2 @hS3)) (And.intro @word4_spec (And.intro @rsize_spec @same9_spec)) ?_
        refine PCalls.wk (.n dRel (.n dRel .z)) ?_
        refine W1 trivial (And.intro @DD (And.intro @hS2 @hS3)) (And.intro @word4_spec (And.intro @rsize_spec @same9_spec)) ?_
        rfl
  · refine W1 trivial @DD @up9_spec ?_
    refine eput_spec ⟨hG⟩ ⟨by omega⟩ (fun _ => ?_) (fun no => absurd hok (by rw [no]; decide))
    refine W1 trivial @DD trivial ?_
    refine eputs_spec ⟨hG⟩ ⟨by omega⟩ (fun _ => ?_) (fun no => absurd hok (by rw [no]; decide))
    refine W1 trivial @DD trivial ?_
    by_cases hr : b.length % N = 0
    · obtain ⟨G, hGe, hgl, q1, q2, q3⟩ := rel_all w adds big hB e1 hr
      have hk : b.length / N ≤ 5000 := Nat.le_trans (Nat.div_le_self _ _) (by omega)
      rw [hgl] at hk
      refine W1 trivial @DD trivial ?_
      refine eall_spec (N := N) ⟨hB⟩ ⟨by omega⟩ ⟨e1⟩ (fun _ => ?_) (fun no => absurd hr no)
      rw [hGe, hgl]
      refine W1 trivial @DD trivial ?_
      refine rrels_spec (N := N) ⟨hB⟩ ⟨by omega⟩ ⟨e1⟩ (fun _ => ?_) (fun no => absurd hr no)
      rw [hGe, hgl]
      clear hGe hgl
      refine W1 trivial @DD @spotN_spec ?_
      cases adds
      all_goals
        refine W1 trivial (And.intro @DD (And.intro @hS2 @hS3)) (And.intro @word4_spec (And.intro @rsize_spec @same9_spec)) ?_
        rfl
    · refine W1 trivial @DD trivial ?_
      refine eall_spec (N := N) ⟨hB⟩ ⟨by omega⟩ ⟨e1⟩ (fun yes => absurd yes hr) (fun _ => ?_)
      refine W1 trivial @DD trivial ?_
      refine rrels_spec (N := N) ⟨hB⟩ ⟨by omega⟩ ⟨e1⟩ (fun yes => absurd yes hr) (fun _ => ?_)
      have hle : b.length % N ≤ b.length := Nat.mod_le _ _
      generalize b.length % N = r at *
      refine W1 trivial @DD @spotS_spec ?_
      cases adds
      all_goals
        refine W1 trivial (And.intro @DD (And.intro @hS2 @hS3)) (And.intro @word4_spec (And.intro @rsize_spec @same9_spec)) ?_
        refine PCalls.wk (.n dRel (.n dRel .z)) ?_
        refine W1 trivial (And.intro @DD (And.intro @hS2 @hS3)) (And.intro @word4_spec (And.intro @rsize_spec @same9_spec)) ?_
        rfl
theorem etells_walk (x0 : ((.sl (.st (.cons (.int .u64) (.cons (.int .u32) (.cons (.int .u32) (.cons (.int .i64) .nil)))))) : Ab.D).T) (g0 : ((.sl (.st (.cons (.int .u64) (.cons (.int .u32) (.cons (.int .u32) (.cons (.int .i64) .nil)))))) : Ab.D).good x0) (x1 : ((.st (.cons .bool (.cons .bool .nil))) : Ab.D).T) (g1 : ((.st (.cons .bool (.cons .bool .nil))) : Ab.D).good x1)
    (x2 : (.bool : Ab.D).T) (g2 : (.bool : Ab.D).good x2) (x3 : ((.sl (.int .u8)) : Ab.D).T) (g3 : ((.sl (.int .u8)) : Ab.D).good x3) :
    PCalls Try.prog 6 [pvD (.sl (.st (.cons (.int .u64) (.cons (.int .u32) (.cons (.int .u32) (.cons (.int .i64) .nil)))))) x0, pvD (.st (.cons .bool (.cons .bool .nil))) x1, pvD .bool x2, pvD (.sl (.int .u8)) x3] [] fun p _ => p = .bool true := by
  obtain ⟨w, big, _⟩ := x1
  exact etells_core (fun x hx => relG_of (g0.2 x hx)) (B_of g3.2)
end Go.Proofs.Yteohkpfacjjaeab.PvW

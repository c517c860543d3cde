/- The walk of RelBack. No statement of the set is proved in this text. -/
import Derived.Test.YteohkpfacjjaeabPvRelE
namespace Go.Proofs.Yteohkpfacjjaeab.PvW
open Go.RowKit Go.Proofs.Yteohkpfacjjaeab.Cd Go.Proofs.Yteohkpfacjjaeab.AbP Go.Proofs.Yteohkpfacjjaeab.Num Go.Proofs.Yteohkpfacjjaeab.Pv
set_option maxRecDepth 100000
set_option maxHeartbeats 4000000
set_option linter.unusedVariables false
set_option linter.unusedSimpArgs false
theorem eback_core {w big adds : Bool} {l : List dRel.T} {b : List Int} (hG : ∀ x ∈ l, RelG x) (hB : B b) :
    PCalls Try.prog 7 [.sl dRel l, .agg [.bool w, .bool big], .bool adds, .sl (.int .u8) b] [] fun p _ => p = .bool true := by
  refine told_callP bezantlaw09_RelBack.told fun Z hZ => ?_
  unfold bezantlaw09_RelBack.c
  by_cases h1 : 100 < (l.length : Int)
  · refine W1 trivial @DD @up9_spec ?_
    rfl
  by_cases h2 : 5000 < (b.length : Int)
  · refine W1 trivial @DD @up9_spec ?_
    rfl
  obtain ⟨N, e1⟩ : ∃ N : Nat, relS w adds = N := ⟨_, rfl⟩
  have hN := relS_le w adds
  rw [e1] at hN
  cases hok : relOk w adds l
  · refine W1 trivial @DD @up9_spec ?_
    refine eput_spec ⟨hG⟩ ⟨by omega⟩ (fun ok => absurd ok (by rw [hok]; decide)) (fun _ => ?_)
    refine W1 trivial @DD trivial ?_
    by_cases hr : b.length % N = 0
    · obtain ⟨G, hGe, hgl, q1, q2, q3⟩ := rel_all w adds big hB e1 hr
      refine eall_spec (N := N) ⟨hB⟩ ⟨by omega⟩ ⟨e1⟩ (fun _ => ?_) (fun no => absurd hr no)
      have hk : b.length / N ≤ 5000 := Nat.le_trans (Nat.div_le_self _ _) (by omega)
      rw [hgl] at hk
      rw [hGe, hgl]
      clear hGe hgl
      refine W1 trivial @DD trivial ?_
      refine eput_spec ⟨q3⟩ ⟨by omega⟩ (fun _ => ?_) (fun no => absurd q2 (by rw [no]; decide))
      rw [q1]
      refine W1 trivial @DD trivial ?_
      rfl
    · refine eall_spec (N := N) ⟨hB⟩ ⟨by omega⟩ ⟨e1⟩ (fun yes => absurd yes hr) (fun _ => ?_)
      refine W1 trivial @DD trivial ?_
      rfl
  · have hcl : (recB big (relP w adds) l).length = l.length * N := by rw [recB_len (relP_len w adds big), e1]
    have hc2 : l.length * N ≤ 100 * 24 := Nat.mul_le_mul (by omega) hN.2
    have hcz : ((recB big (relP w adds) l).length : Int) = (l.length : Int) * (N : Int) := by rw [hcl]; push_cast; rfl
    rw [← hcl] at hc2
    have hC := recB_B (big := big) (P := relP w adds) l
    have hput := rec_put_get (big := big) (relW_wide w adds) (fun x _ => relP_snd w adds x) (fun x hx => relP_ge (hG x hx)) (fun x hx => (rel_ok (hG x hx) (List.all_eq_true.1 hok x hx)).1) (fun x hx => (rel_ok (hG x hx) (List.all_eq_true.1 hok x hx)).2) []
    rw [List.append_nil] at hput
    refine W1 trivial @DD @up9_spec ?_
    refine eput_spec ⟨hG⟩ ⟨by omega⟩ (fun _ => ?_) (fun no => absurd hok (by rw [no]; decide))
    generalize recB big (relP w adds) l = C at *
    refine Wp1 trivial @DD (And.intro (@oFrz 10) @trivial) ?_
    have hd : C.length / N = l.length := by rw [hcl]; exact Nat.mul_div_cancel _ (by omega)
    refine eall_spec (N := N) ⟨hC⟩ ⟨by omega⟩ ⟨e1⟩ (fun _ => ?_) (fun no => absurd (by rw [hcl]; exact Nat.mul_mod_left _ _) no)
    have hput : relsG w adds big C l.length = l := hput
    rw [hd, hput]
    have hb1 : 0 ≤ (l.length : Int) * (N : Int) ∧ (l.length : Int) * (N : Int) ≤ 2400 := by rw [← hcz]; omega
    refine W1 trivial @DD (And.intro @same9_spec @rsize_spec) ?_
    rw [e1]
    refine W1 trivial @DD (And.intro @same9_spec @rsize_spec) ?_
    refine ps_no (fun h => h (by rw [iw (by omega) (by omega)]; exact hcz)) ?_
    refine W1 trivial @DD trivial ?_
    by_cases hr : b.length % N = 0
    · obtain ⟨G, hGe, hgl, q1, q2, q3⟩ := rel_all w adds big hB e1 hr
      refine eall_spec (N := N) ⟨hB⟩ ⟨by omega⟩ ⟨e1⟩ (fun _ => ?_) (fun no => absurd hr no)
      have hk : b.length / N ≤ 5000 := Nat.le_trans (Nat.div_le_self _ _) (by omega)
      rw [hgl] at hk
      rw [hGe, hgl]
      clear hGe hgl
      refine W1 trivial @DD trivial ?_
      refine eput_spec ⟨q3⟩ ⟨by omega⟩ (fun _ => ?_) (fun no => absurd q2 (by rw [no]; decide))
      rw [q1]
      refine W1 trivial @DD trivial ?_
      rfl
    · refine eall_spec (N := N) ⟨hB⟩ ⟨by omega⟩ ⟨e1⟩ (fun yes => absurd yes hr) (fun _ => ?_)
      refine W1 trivial @DD trivial ?_
      rfl
theorem eback_walk (x0 : ((.sl (.st (.cons (.int .u64) (.cons (.int .u32) (.cons (.int .u32) (.cons (.int .i64) .nil)))))) : Ab.D).T) (g0 : ((.sl (.st (.cons (.int .u64) (.cons (.int .u32) (.cons (.int .u32) (.cons (.int .i64) .nil)))))) : Ab.D).good x0) (x1 : ((.st (.cons .bool (.cons .bool .nil))) : Ab.D).T) (g1 : ((.st (.cons .bool (.cons .bool .nil))) : Ab.D).good x1)
    (x2 : (.bool : Ab.D).T) (g2 : (.bool : Ab.D).good x2) (x3 : ((.sl (.int .u8)) : Ab.D).T) (g3 : ((.sl (.int .u8)) : Ab.D).good x3) :
    PCalls Try.prog 7 [pvD (.sl (.st (.cons (.int .u64) (.cons (.int .u32) (.cons (.int .u32) (.cons (.int .i64) .nil)))))) x0, pvD (.st (.cons .bool (.cons .bool .nil))) x1, pvD .bool x2, pvD (.sl (.int .u8)) x3] [] fun p _ => p = .bool true := by
  obtain ⟨w, big, _⟩ := x1
  exact eback_core (fun x hx => relG_of (g0.2 x hx)) (B_of g3.2)
end Go.Proofs.Yteohkpfacjjaeab.PvW

/- What the document's answers for prog, and prog.Get, yield. No statement of the set is proved in this text. -/
import Derived.Test.YteohkpfacjjaeabPvProg
namespace Go.Proofs.Yteohkpfacjjaeab.PvW
open Go.RowKit Go.Proofs.Yteohkpfacjjaeab.Cd Go.Proofs.Yteohkpfacjjaeab.AbP Go.Proofs.Yteohkpfacjjaeab.Num Go.Proofs.Yteohkpfacjjaeab.Pv
set_option maxRecDepth 100000
set_option maxHeartbeats 4000000
set_option linter.unusedVariables false
set_option linter.unusedSimpArgs false
variable {K : PV → List OB → Prop}
section
variable {p0 p1 p2 p3 p4 p5 p6 p7 : Int}
end
/-! reading -/
theorem pget1_spec {w big : Bool} {b : List Int} {a n : Int} (hB : Am (B b)) (hm : Om (b.length ≤ 1000000000000)) (hn : Om (0 ≤ n)) (ha : Om (0 ≤ a)) (hU2 : Om (a + n ≤ 18446744073709551615))
    (hk : K (.int .u64 (getSpec b a n big).1) [.var [.sl (.int .u8) b], .var [.int .u64 (a + n)], .var [.bool w, .bool big]]) :
    PCalls Try.prog 60 [.int .i64 n, .ptr 0 0, .ptr 1 0, .ptr 2 0] [.var [.sl (.int .u8) b], .var [.int .u64 a], .var [.bool w, .bool big]] K := by
  refine told_callS prog_Get_1.told fun Z hZ => ?_
  unfold prog_Get_1.c
  replace hB := hB.o
  replace hm := hm.o
  replace hn := hn.o
  replace ha := ha.o
  replace hU2 := hU2.o
  refine W1 trivial trivial @get_spec ?_
  exact ⟨_, rfl, rfl, hk⟩
def progW (w : Bool) : List Int := if w = true then [4, 4, 8, 8, 8, 8, 8, 8] else [4, 4, 4, 4, 4, 4, 4, 4]
theorem progW_wide (w : Bool) : ∀ n ∈ progW w, wideB n = true := by cases w <;> decide
theorem progW_sum (w : Bool) : sumL (progW w) = if w = true then 56 else 32 := by cases w <;> rfl
/-- A program header of numbers. -/
def progV (w : Bool) (l : List Int) : PV := if w = true then .agg [.int .u32 (IntKind.u32.wrap (l.getD 0 0)), .int .u32 (IntKind.u32.wrap (l.getD 1 0)), .int .u64 (l.getD 2 0), .int .u64 (l.getD 3 0), .int .u64 (l.getD 4 0), .int .u64 (l.getD 5 0), .int .u64 (l.getD 6 0), .int .u64 (l.getD 7 0)]
  else .agg [.int .u32 (IntKind.u32.wrap (l.getD 0 0)), .int .u32 (IntKind.u32.wrap (l.getD 6 0)), .int .u64 (l.getD 1 0), .int .u64 (l.getD 2 0), .int .u64 (l.getD 3 0), .int .u64 (l.getD 4 0), .int .u64 (l.getD 5 0), .int .u64 (l.getD 7 0)]
def prog0 : PV := .agg [.int .u32 0, .int .u32 0, .int .u64 0, .int .u64 0, .int .u64 0, .int .u64 0, .int .u64 0, .int .u64 0]
theorem pget_spec {w big : Bool} {b : List Int} {a : Int} (hB : Am (B b)) (hm : Om (b.length ≤ 1000000000000)) (ha : Om (0 ≤ a ∧ a ≤ 18446744073709551615))
    (hk1 : a + (if w = true then 56 else 32) ≤ (b.length : Int) → K (.tup [progV w (gets b big a (progW w)), .nilI]) [])
    (hk2 : ¬ a + (if w = true then 56 else 32) ≤ (b.length : Int) → K (.tup [prog0, eCode 2]) []) :
    PCalls Try.prog 15 [.sl (.int .u8) b, .int .u64 a, .agg [.bool w, .bool big]] [] K := by
  refine told_callP prog_Get.told fun Z hZ => ?_
  unfold prog_Get.c
  replace hB := hB.o
  replace hm := hm.o
  obtain ⟨a0, a1⟩ := ha.o
  by_cases hc : a + (if w = true then 56 else 32) ≤ (b.length : Int)
  · have e : withinB a (if w = true then 56 else 32) b.length = true := by unfold withinB; cases w <;> simp at hc ⊢ <;> omega
    have hk := hk1 hc
    clear hk1 hk2
    cases w
    all_goals
      simp only [↓reduceIte, Bool.false_eq_true] at hc e
      refine W1 @e trivial (And.intro @psize_spec @within_spec) ?_
      iterate 8
        (apply cf_S [0, 1, 2]; (repeat any_goals first | exact mp_z | apply mp_s | exact rs_z | apply rs_t | apply rs_n | apply rs_c); (repeat any_goals first | (apply Lk.i; (simp only [↓LL, ↓reduceIte, Nat.reduceEqDiff]; (try rfl); done)) | (apply Rf.i; first | rfl | assumption) | (apply Vl.i; ((try simp (disch := omega) only [VV, ↓reduceIte, peqI]); (try rfl); done)) | (apply Am.i; assumption) | (apply Pu.i; ((try simp only [↓reduceIte, UU, RR, Nat.reduceAdd, Nat.reduceEqDiff, cellsP, putP, fillQ, flatQ, shP, sh1]); (try rfl); done)) | (apply Om.i; ((try simp only [MM]); (try omega); done)) | (apply Vw.i; first | exact As.sl _ _ | exact As.nil _ | exact As.arr _ _ _ _ rfl (by ((try simp only [MM]); (try omega); done)) | exact As.row _ _ _ _ _ rfl rfl | exact Src.str _ | exact Src.as (As.sl _ _) | exact Src.as (As.nil _) | exact Src.as (As.arr _ _ _ _ rfl (by ((try simp only [MM]); (try omega); done))) | exact Src.as (As.row _ _ _ _ _ rfl rfl))); (all_goals fail_if_success apply Mk.i))
        refine pget1_spec ⟨hB⟩ ⟨hm⟩ ⟨by omega⟩ ⟨by omega⟩ ⟨by omega⟩ ?_
        refine W1 trivial trivial trivial ?_
      exact hk
  · have e : withinB a (if w = true then 56 else 32) b.length = false := by unfold withinB; rw [Bool.and_eq_false_iff]; cases w <;> simp at hc ⊢ <;> omega
    have hk := hk2 hc
    clear hk1 hk2
    refine W1 @e trivial (And.intro @psize_spec @within_spec) ?_
    exact hk
theorem pup_spec (hk : K (.bool true) []) : PCalls Try.prog 13 [] [] K := by
  refine told_callP bezantlaw05_up.told fun Z hZ => ?_
  unfold bezantlaw05_up.c
  refine W1 trivial trivial trivial ?_
  refine pput_spec ⟨by simp [U64]⟩ ⟨by decide⟩ ⟨by decide⟩ (fun _ => ?_) (fun no => absurd no (by decide))
  have hl : (rowB false (progP false 0 5 0 0 0 0 0 0)).length = 32 := by decide
  have hg : (rowB false (progP false 0 5 0 0 0 0 0 0)).getD 24 0 = 5 := by decide
  generalize rowB false (progP false 0 5 0 0 0 0 0 0) = l at *
  refine W1 @hg (And.intro @DD @hl) @psize_spec ?_
  exact hk
end Go.Proofs.Yteohkpfacjjaeab.PvW

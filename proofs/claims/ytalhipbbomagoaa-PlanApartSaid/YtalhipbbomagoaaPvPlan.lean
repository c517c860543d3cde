/- Where everything stands: the plan, in plain words; what lay yields. No statement of the set is proved in this text. -/
import Derived.Test.YtalhipbbomagoaaPvModelM
import Derived.Test.YtalhipbbomagoaaTdPlan
namespace Go.Proofs.Ytalhipbbomagoaa.PvW
open Go.RowKit Go.Proofs.Ytalhipbbomagoaa.Cd Go.Proofs.Ytalhipbbomagoaa.AbP Go.Proofs.Ytalhipbbomagoaa.Num Go.Proofs.Ytalhipbbomagoaa.Pv
set_option maxRecDepth 100000
set_option maxHeartbeats 4000000
set_option linter.unusedVariables false
set_option linter.unusedSimpArgs false
/-- two ways that meet again -/
theorem ps_cut {P : Program} {Z : Bs} {a b c : Ab.AC} {Q : QP} {e : Env} {s : List OB} {t : Bool} (I : Env → List OB → Prop)
    (h1 : t = true → pwp P Z a (thenP (fun e s => ∃ e' s', Gh Z e s e' s' ∧ I e' s') Q) e s) (h2 : t = false → pwp P Z c (thenP (fun e s => ∃ e' s', Gh Z e s e' s' ∧ I e' s') Q) e s) (h3 : ∀ e s, I e s → pwp P Z b Q e s) :
    psel (.bool t) (pwp P Z a (thenP (pwp P Z b Q) Q) e s) (pwp P Z c (thenP (pwp P Z b Q) Q) e s) := by
  have key : ∀ x e s, thenP (fun e s => ∃ e' s', Gh Z e s e' s' ∧ I e' s') Q x e s → thenP (pwp P Z b Q) Q x e s := by
    intro x e s h
    cases x with
    | normal =>
      obtain ⟨e', s', hg, hi⟩ := h
      exact fun f hh hr => h3 e' s' hi f hh (hg f hh hr)
    | _ => exact h
  exact ps_of (fun ht => pwp_mono key (h1 ht)) (fun ht => pwp_mono key (h2 ht))
/-- the planner: the next place, and whether it is beyond all -/
abbrev PS := Int × Bool
def mx1 (al : Int) : Int := if al < 1 then 1 else al
def layA (a v al : Int) : Int := (a + andI ((v - a) % 18446744073709551616) ((mx1 al - 1) % 18446744073709551616)) % 18446744073709551616
def layO (a n : Int) : Bool := decide (65536 < a) || decide (65536 - a < n)
def layR (p : PS) (v al : Int) : Int := if p.2 = true then 0 else layA p.1 v al
def layS (p : PS) (n v al : Int) : PS := if p.2 = true then p else ((layA p.1 v al + n) % 18446744073709551616, layO (layA p.1 v al) n)
theorem andI_range (a b : Int) : 0 ≤ andI a b ∧ andI a b ≤ 18446744073709551615 := by
  unfold andI
  have h := (BitVec.ofInt 64 a &&& BitVec.ofInt 64 b).isLt
  omega
section
variable {K : PV → List OB → Prop} {w big : Bool} {o ab ty ma fl en st : Int} {segs : List dSeg.T} {secs : List dSec.T}
theorem lay_spec {p0 : Int} {ov : Bool} {n v al : Int} (ha : Om (0 ≤ al ∧ al ≤ 18446744073709551615)) (hn : Om (0 ≤ n ∧ n ≤ 18446744073709551615)) (hk : K (.int .u64 (layR (p0, ov) v al)) [.var [.int .u64 (layS (p0, ov) n v al).1, .bool (layS (p0, ov) n v al).2]]) :
    PCalls Try.prog 76 [.ptr 0 0, .int .u64 n, .int .u64 v, .int .u64 al] [.var [.int .u64 p0, .bool ov]] K := by
  have ha := ha.o
  have hn := hn.o
  refine told_callS plan_planner_lay.told fun Z hZ => ?_
  unfold plan_planner_lay.c
  cases ov
  rotate_left
  · refine W1 trivial @DD trivial ?_
    exact ⟨_, rfl, rfl, hk⟩
  obtain ⟨m, hm⟩ : ∃ m, m = mx1 al := ⟨_, rfl⟩
  have hmx : (if (1 : Int) > al then 1 else al) = m := by rw [hm]; rfl
  have hm1 : 1 ≤ m ∧ m ≤ 18446744073709551615 := by rw [hm]; unfold mx1; split <;> omega
  have hw1 : IntKind.wrap .u64 (v - p0) = (v - p0) % 18446744073709551616 := wU64 _
  have hw2 : IntKind.wrap .u64 (m - 1) = (m - 1) % 18446744073709551616 := wU64 _
  have han := and_u64 ((v - p0) % 18446744073709551616) ((m - 1) % 18446744073709551616)
  obtain ⟨x, hx⟩ : ∃ x, x = andI ((v - p0) % 18446744073709551616) ((m - 1) % 18446744073709551616) := ⟨_, rfl⟩
  rw [← hx] at han
  have hxr : 0 ≤ x ∧ x ≤ 18446744073709551615 := by rw [hx]; exact andI_range _ _
  have hw3 : IntKind.wrap .u64 (p0 + x) = (p0 + x) % 18446744073709551616 := wU64 _
  obtain ⟨a, hae⟩ : ∃ a, a = (p0 + x) % 18446744073709551616 := ⟨_, rfl⟩
  rw [← hae] at hw3
  have har : 0 ≤ a ∧ a ≤ 18446744073709551615 := by rw [hae]; omega
  have hA : layA p0 v al = a := by unfold layA; rw [← hm, ← hx, ← hae]
  have hR : layR (p0, false) v al = a := by show layA p0 v al = a; exact hA
  have hS : layS (p0, false) n v al = ((a + n) % 18446744073709551616, layO a n) := by show ((layA p0 v al + n) % 18446744073709551616, layO (layA p0 v al) n) = _; rw [hA]
  have hw4 : IntKind.wrap .u64 (a + n) = (a + n) % 18446744073709551616 := wU64 _
  rw [hR, hS] at hk
  unfold layO at hk
  by_cases h1 : 65536 < a
  · rw [decide_eq_true h1, Bool.true_or] at hk
    refine W1 trivial (And.intro @DD (And.intro @hmx (And.intro @hw1 (And.intro @hw2 (And.intro @han (And.intro @hw3 @hw4)))))) trivial ?_
    exact ⟨_, rfl, rfl, hk⟩
  · rw [decide_eq_false h1, Bool.false_or] at hk
    have hw5 : IntKind.wrap .u64 (65536 - a) = 65536 - a := by rw [wU64]; omega
    by_cases h2 : 65536 - a < n
    · rw [decide_eq_true h2] at hk
      refine W1 trivial (And.intro @DD (And.intro @hmx (And.intro @hw1 (And.intro @hw2 (And.intro @han (And.intro @hw3 (And.intro @hw4 @hw5))))))) trivial ?_
      exact ⟨_, rfl, rfl, hk⟩
    · rw [decide_eq_false h2] at hk
      refine W1 trivial (And.intro @DD (And.intro @hmx (And.intro @hw1 (And.intro @hw2 (And.intro @han (And.intro @hw3 (And.intro @hw4 @hw5))))))) trivial ?_
      exact ⟨_, rfl, rfl, hk⟩
end
end Go.Proofs.Ytalhipbbomagoaa.PvW

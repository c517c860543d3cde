/- The law DynTells, told as a plain Lean function, answers true for every input. -/
import Derived.Test.YteohkpfacjjaeaaRDynx8
import Derived.Test.YteohkpfacjjaeaaQDynDynP
import Derived.KernelRfl
namespace Go.Proofs.Yteohkpfacjjaeaa.QDynDynP
open Go.RowKit Go.Proofs.YteohkpfacjjaeaaW.PrintWords Go.Proofs.YteohkpfacjjaeaaW.PrintLast Go.Proofs.YteohkpfacjjaeaaW.PrintMore Go.Proofs.Yteohkpfacjjaeaa.QDyn Go.Proofs.Yteohkpfacjjaeaa.Num Go.Proofs.Yteohkpfacjjaeaa.QDynWire Go.Proofs.Yteohkpfacjjaeaa.QDynRow
set_option linter.unusedVariables false
set_option linter.unusedSimpArgs false
theorem up_ev : Ev (fun n => bezantlaw10_up.f n) true := Ev.of bezantlaw10_up.mono (k := 60) (by kernel_rfl)
theorem allD_len (b : List Int) (w : Nat) (big : Bool) (d : Nat) : ∀ (a : Nat) (acc : List D), (allD b w big d a acc).1.length ≤ acc.length + d := by
  induction d with
  | zero => intro a acc; simp [allD]
  | succ d ih =>
    intro a acc
    unfold allD
    split
    · simp
    · split
      · simp
      · have := ih (a + 2 * w) (acc ++ [⟨num big (seg b a w), num big (seg b (a + w) w)⟩])
        rw [List.length_append, List.length_singleton] at this
        omega
theorem j1_ev {l : List D} (hn : l.length ≤ 100) {b : List Int} (hb : B b) (hm : b.length ≤ 5000) (wide big : Bool) (t : Int) : Ev (fun k => bezantlaw10_DynTells.j1 k l b t true false wide big) true := by
  generalize hr : allD b (wd wide) big (b.length + 1) 0 [] = r
  have hA := all_ev hb (by omega) wide big
  have hR := dyns_ev hb (by omega) wide big
  have hlen := allD_len b (wd wide) big (b.length + 1) 0 []
  rw [hr] at hA hR hlen
  refine Ev.step (fun k => by rw [bezantlaw10_DynTells.j1, if_neg (by simp)]) ?_
  refine Ev.bind hA ?_
  refine Ev.bind hR ?_
  obtain ⟨x, at_⟩ := r
  cases at_ with
  | none =>
    simp only [toldA, toldR]
    rw [show bezantlaw00_Spot.f false false 0 [] = some (0, 0) from rfl]
    simp only [Option.bind_some]
    refine Ev.bind (find_ev l (by omega) t) ?_
    refine Ev.bind (findR_ev l (by omega) t) ?_
    simp only [if_true]
    refine Ev.bind (same_ev x (by simp at hlen; omega)) ?_
    have c1 : (-1 : Int) < 0 := by decide
    simp only [if_true, if_pos c1, beq_self_eq_true]
    exact Ev.now _
  | some a =>
    simp only [toldA, toldR]
    rw [show bezantlaw00_Spot.f true true 0 [⟨(a : Int), 2⟩] = some (2, (a : Int)) from rfl]
    simp only [Option.bind_some]
    refine Ev.bind (find_ev l (by omega) t) ?_
    refine Ev.bind (findR_ev l (by omega) t) ?_
    simp only [if_true]
    refine Ev.bind (same_ev [] (by simp)) ?_
    have c1 : ¬ ((a : Int) < 0) := by omega
    have c2 : (a : Int) ≥ 0 := by omega
    simp only [if_true, if_neg c1, if_pos c2, beq_self_eq_true]
    exact Ev.now _
theorem j0_ev {l : List D} (hl : ∀ x ∈ l, okD x) (hn : l.length ≤ 100) {b : List Int} (hb : B b) (hm : b.length ≤ 5000) (wide big : Bool) (t : Int) : Ev (fun k => bezantlaw10_DynTells.j0 k l b t true false wide big) true := by
  refine Ev.step (fun k => by rw [bezantlaw10_DynTells.j0, if_neg (by simp)]) ?_
  refine Ev.bind (put_d hl (by omega) wide big) ?_
  refine Ev.bind (putR_d hl (by omega) wide big) ?_
  unfold putD putR
  by_cases c : l.all (fitD (wd wide)) = true
  · simp only [if_pos c, if_true, Bool.false_eq_true, if_false]
    exact j1_ev hn hb hm wide big t
  · simp only [if_neg c, Bool.false_eq_true, if_false]
    rw [show bezantlaw00_Code.f true false 1 [] = some 1 from rfl]
    simp only [Option.bind_some, if_true]
    rw [show (decide ((([] : List Int).length : Int) > 0)) = false from rfl]
    exact j1_ev hn hb hm wide big t
theorem j0_out (l : List D) (b : List Int) (wide big : Bool) (t : Int) : Ev (fun k => bezantlaw10_DynTells.j0 k l b t true true wide big) true := by
  refine Ev.step (f := fun _ => some true) (fun k => ?_) (Ev.now _)
  rw [bezantlaw10_DynTells.j0, if_pos rfl]
theorem DynTells' {l : List D} (hl : ∀ x ∈ l, okD x) {b : List Int} (hb : B b) (wide big : Bool) (t : Int) : ∃ k, bezantlaw10_DynTells.f k l wide big b t = some true := by
  refine Ev.rounds ?_
  unfold bezantlaw10_DynTells.f
  refine Ev.bind up_ev ?_
  by_cases c : (l.length : Int) > 100
  · simp only [if_pos c]
    exact j0_out l b wide big t
  · simp only [if_neg c]
    by_cases c2 : (b.length : Int) > 5000
    · rw [decide_eq_true c2]
      exact j0_out l b wide big t
    · rw [decide_eq_false c2]
      exact j0_ev hl (by omega) hb (by omega) wide big t
end Go.Proofs.Yteohkpfacjjaeaa.QDynDynP

/- The law SpanTells, told as a plain Lean function, answers true for every input. -/
import Derived.Test.YteohkpfacjjaeaaSpanPureT
namespace Go.Proofs.Yteohkpfacjjaeaa.SpanPureT
open Go.RowKit Go.Proofs.YteohkpfacjjaeaaW.PrintWords Go.Proofs.YteohkpfacjjaeaaW.PrintLast Go.Proofs.YteohkpfacjjaeaaW.PrintMore Go.Proofs.Yteohkpfacjjaeaa.MSpan
set_option linter.unusedVariables false
set_option linter.unusedSimpArgs false
theorem up_ev : Ev (fun n => bezantlaw02_up.f n) true := Ev.of (bezantlaw02_up.mono) (k := 30) (by decide +kernel)
theorem rlast_f {f s : Int} (hf : U64 f) (hs : U64 s) (h1 : 0 < s) : bezantref01_Last.f f s = some (last f s) := by
  obtain ⟨f0, f1⟩ := hf
  obtain ⟨s0, s1⟩ := hs
  unfold bezantref01_Last.f last
  rw [IntKind.wrap_u64, IntKind.wrap_u64]
  by_cases h : s - 1 > 18446744073709551615 - f
  · rw [if_pos h, if_pos (by omega)]
  · rw [if_neg h, if_neg (by omega)]
    congr 1
    omega
theorem rmeet_f {a0 a1 b0 b1 : Int} (h0 : U64 a0) (h1 : U64 a1) (h2 : U64 b0) (h3 : U64 b1) (n : Nat) : bezantref01_Meet.f (n + 1) a0 a1 b0 b1 = some (meet a0 a1 b0 b1) := by
  unfold bezantref01_Meet.f meet
  obtain ⟨q1, q1'⟩ := id h1
  obtain ⟨q3, q3'⟩ := id h3
  by_cases c1 : a1 = 0
  · rw [if_pos c1]
    simp only [bezantref01_Meet.j0, if_true]
    rw [decide_eq_false (by omega)]
    simp
  · rw [if_neg c1]
    by_cases c2 : b1 = 0
    · have : (b1 == 0) = true := by simp [c2]
      simp only [bezantref01_Meet.j0, this, if_true]
      rw [decide_eq_false (show ¬ 0 < b1 by omega)]
      simp
    · have : (b1 == 0) = false := by simp [c2]
      simp only [bezantref01_Meet.j0, this, Bool.false_eq_true, if_false]
      have g1 := last_ge h0 (show 0 < a1 by omega)
      have g2 := last_ge h2 (show 0 < b1 by omega)
      rw [decide_eq_true (show 0 < a1 by omega), decide_eq_true (show 0 < b1 by omega)]
      by_cases c3 : a0 ≤ b0
      · rw [if_pos c3, rlast_f h0 h1 (by omega), Option.bind_some, decide_eq_true (show a0 ≤ last b0 b1 by omega)]
        simp
      · rw [if_neg c3, rlast_f h2 h3 (by omega), Option.bind_some, decide_eq_true (show b0 ≤ last a0 a1 by omega)]
        simp
theorem rbelow_f {a : S25} (ha : U64 a.f0 ∧ U64 a.f1) (b : S25) : bezantref01_Below.f a.f0 a.f1 b.f0 = some (blw a b) := by
  unfold bezantref01_Below.f blw
  obtain ⟨q1, q1'⟩ := id ha.2
  by_cases c : a.f1 = 0
  · rw [if_pos c, if_pos c]
  · rw [if_neg c, if_neg c, rlast_f ha.1 ha.2 (by omega), Option.bind_some]
def combine (x y : Int) (f : Bool) (rest : Int × Int × Bool) : Int × Int × Bool := if f = true then (x, y, true) else rest
def restFrom (l : List S25) (k i : Nat) : Int × Int × Bool := match (List.range' i (k - i)).find? (fun j => mt l j k) with | some j => ((j : Int), (k : Int), true) | none => clashFrom l (k + 1)
def allFrom (l : List S25) (k : Nat) : Bool := (List.range' k (l.length - k)).all (fun kk => (List.range' 0 kk).all (fun i => blw (at_ l i) (at_ l kk)))
def restAll (l : List S25) (k i : Nat) : Bool := (List.range' i (k - i)).all (fun j => blw (at_ l j) (at_ l k)) && allFrom l (k + 1)
theorem clashFrom_step (l : List S25) {k : Nat} (h : k < l.length) : clashFrom l k = restFrom l k 0 := by
  unfold restFrom
  conv => lhs; unfold clashFrom
  rw [show l.length - k = (l.length - (k + 1)) + 1 by omega, List.range'_succ, List.findSome?_cons, Nat.sub_zero]
  cases hf : (List.range' 0 k).find? (fun j => mt l j k) with
  | some j => rfl
  | none => rfl
theorem allFrom_step (l : List S25) {k : Nat} (h : k < l.length) : allFrom l k = restAll l k 0 := by
  unfold restAll
  conv => lhs; unfold allFrom
  rw [show l.length - k = (l.length - (k + 1)) + 1 by omega, List.range'_succ, List.all_cons, Nat.sub_zero]
  rfl
theorem restFrom_end (l : List S25) (k : Nat) : restFrom l k k = clashFrom l (k + 1) := by
  unfold restFrom
  rw [Nat.sub_self]
  rfl
theorem restAll_end (l : List S25) (k : Nat) : restAll l k k = allFrom l (k + 1) := by
  unfold restAll
  rw [Nat.sub_self]
  simp
theorem restFrom_step (l : List S25) {k i : Nat} (h : i < k) : restFrom l k i = if mt l i k = true then ((i : Int), (k : Int), true) else restFrom l k (i + 1) := by
  unfold restFrom
  rw [show k - i = (k - (i + 1)) + 1 by omega, List.range'_succ, List.find?_cons]
  cases mt l i k <;> simp
theorem restAll_step (l : List S25) {k i : Nat} (h : i < k) : restAll l k i = (blw (at_ l i) (at_ l k) && restAll l k (i + 1)) := by
  unfold restAll
  rw [show k - i = (k - (i + 1)) + 1 by omega, List.range'_succ, List.all_cons, Bool.and_assoc]
theorem all_rises {l : List S25} (hl : Ok l) : allFrom l 0 = rises l 1 := by
  rw [Bool.eq_iff_iff]
  unfold allFrom
  constructor
  · intro h
    rw [List.all_eq_true] at h
    unfold rises
    rw [List.all_eq_true]
    intro j hj
    have hj := List.mem_range'_1.1 hj
    have := h j (List.mem_range'_1.2 (by omega))
    rw [List.all_eq_true] at this
    exact this (j - 1) (List.mem_range'_1.2 (by omega))
  · intro h
    rw [List.all_eq_true]
    intro kk hk
    have hk := List.mem_range'_1.1 hk
    rw [List.all_eq_true]
    intro i hi
    have hi := List.mem_range'_1.1 hi
    exact rises_below hl h (kk - i - 1) i kk (by omega) (by omega) (by omega)
theorem Ev_step1 {α : Type} {g f : Nat → Option α} {r : α} (h : ∀ k, g (k + 2) = f (k + 1)) (k : Ev f r) : Ev g r := by
  obtain ⟨K, hK⟩ := k
  refine ⟨K + 2, fun n hn => ?_⟩
  obtain ⟨m, rfl⟩ : ∃ m, n = m + 2 := ⟨n - 2, by omega⟩
  rw [h]
  exact hK _ (by omega)
/-- one inner round -/
theorem t1_step {l : List S25} (hl : Ok l) (hn : l.length ≤ 9223372036854775807) {k i : Nat} (hk : k < l.length) (hi : i < k) (x y : Int) (f r : Bool) (n : Nat) :
    bezantlaw02_SpanTells.l1 (n + 2) l true x y f r (k : Int) (i : Int) =
      bezantlaw02_SpanTells.l1 (n + 1) l true (if mt l i k = true then (if f = true then x else (i : Int)) else x) (if mt l i k = true then (if f = true then y else (k : Int)) else y) (f || mt l i k) (r && blw (at_ l i) (at_ l k)) (k : Int) ((i + 1 : Nat) : Int) := by
  have ha := hl _ (at_mem (show i < l.length by omega))
  have hb := hl _ (at_mem hk)
  conv => lhs; unfold bezantlaw02_SpanTells.l1
  rw [if_pos (by omega), if_pos (by omega), if_pos (by omega), if_pos (by omega), if_pos (by omega), rd_at, rd_at, rmeet_f ha.1 ha.2 hb.1 hb.2, Option.bind_some, rbelow_f ha, w64 (by omega)]
  show (if mt l i k = true then _ else _) = _
  simp only [Option.bind_some]
  cases hm : mt l i k <;> cases f <;> cases r <;> simp
theorem t_ev {l : List S25} (hl : Ok l) (hn : l.length ≤ 9223372036854775807) (d : Nat) : ∀ k, k ≤ l.length → l.length - k = d → ∀ (x y : Int) (f r : Bool), (f = false → x = 0 ∧ y = 0) →
    clashFrom l 0 = combine x y f (clashFrom l k) → rises l 1 = (r && allFrom l k) → Ev (fun n => bezantlaw02_SpanTells.l0 n l true x y f r (k : Int)) true := by
  induction d with
  | zero =>
    intro k h0 h1 x y f r hf hc hr
    obtain rfl : k = l.length := by omega
    have e1 : clashFrom l l.length = (0, 0, false) := by unfold clashFrom; rw [Nat.sub_self]; rfl
    have e2 : allFrom l l.length = true := by unfold allFrom; rw [Nat.sub_self]; rfl
    rw [e1] at hc
    rw [e2, Bool.and_true] at hr
    refine Ev.step (f := fun n => (span_Clash.f n l).bind fun bt141 => (if bt141.1 = x then (if bt141.2.1 = y then (if (bt141.2.2 == f) = true then ((span_Rising.f n l).bind fun t144 => (some (t144 == r))) else (none)) else (none)) else (none))) (fun n => ?_) ?_
    · conv => lhs; unfold bezantlaw02_SpanTells.l0
      rw [if_neg (by omega)]
      rfl
    · refine Ev.bind (clash_ev hl hn) ?_
      have h3 : (clashFrom l 0).1 = x ∧ (clashFrom l 0).2.1 = y ∧ (clashFrom l 0).2.2 = f := by
        rw [hc]
        unfold combine
        cases f with
        | true => exact ⟨rfl, rfl, rfl⟩
        | false => obtain ⟨rfl, rfl⟩ := hf rfl; exact ⟨rfl, rfl, rfl⟩
      simp only [h3.1, h3.2.1, h3.2.2, if_true, beq_self_eq_true]
      refine Ev.bind (rising_ev hl hn) ?_
      rw [hr]
      simp only [beq_self_eq_true]
      exact Ev.now _
  | succ d ih =>
    intro k h0 h1 x y f r hf hc hr
    have hk : k < l.length := by omega
    have inner : ∀ (e i : Nat), i ≤ k → k - i = e → ∀ (x y : Int) (f r : Bool), (f = false → x = 0 ∧ y = 0) → clashFrom l 0 = combine x y f (restFrom l k i) → rises l 1 = (r && restAll l k i) →
        Ev (fun n => bezantlaw02_SpanTells.l1 n l true x y f r (k : Int) (i : Int)) true := by
      intro e
      induction e with
      | zero =>
        intro i g0 g1 x y f r hf hc hr
        obtain rfl : i = k := by omega
        rw [restFrom_end] at hc
        rw [restAll_end] at hr
        refine Ev.step (fun n => ?_) (ih (i + 1) (by omega) (by omega) x y f r hf hc hr)
        conv => lhs; unfold bezantlaw02_SpanTells.l1
        rw [if_neg (by omega), w64 (by omega)]
      | succ e ihe =>
        intro i g0 g1 x y f r hf hc hr
        have hi : i < k := by omega
        rw [restFrom_step l hi] at hc
        rw [restAll_step l hi] at hr
        have nxt := ihe (i + 1) (by omega) (by omega) (if mt l i k = true then (if f = true then x else (i : Int)) else x) (if mt l i k = true then (if f = true then y else (k : Int)) else y) (f || mt l i k) (r && blw (at_ l i) (at_ l k)) ?_ ?_ ?_
        · exact Ev_step1 (t1_step hl hn hk hi x y f r) nxt
        · intro hff
          cases f with
          | true => simp at hff
          | false =>
            have hm : mt l i k = false := by simpa using hff
            simpa [hm] using hf rfl
        · rw [hc]
          unfold combine
          cases f <;> cases hm : mt l i k <;> simp
        · rw [hr, Bool.and_assoc]
    refine Ev.step (f := fun n => bezantlaw02_SpanTells.l1 n l true x y f r (k : Int) ((0 : Nat) : Int)) (fun n => ?_) (inner k 0 (by omega) (by omega) x y f r hf (by rw [← clashFrom_step l hk]; exact hc) (by rw [← allFrom_step l hk]; exact hr))
    conv => lhs; unfold bezantlaw02_SpanTells.l0
    rw [if_pos (by omega)]
    rfl
theorem SpanTells_pure {l : List S25} (hl : Ok l) (hn : l.length ≤ 9223372036854775807) {a0 a1 b0 b1 : Int} (h0 : U64 a0) (h1 : U64 a1) (h2 : U64 b0) (h3 : U64 b1) :
    ∃ k, bezantlaw02_SpanTells.f k l a0 a1 b0 b1 = some true := by
  refine Ev.rounds ?_
  unfold bezantlaw02_SpanTells.f
  refine Ev.bind up_ev ?_
  by_cases c : (l.length : Int) > 60
  · simp only [if_pos c]
    refine Ev.step (f := fun _ => some true) (fun n => ?_) (Ev.now _)
    conv => lhs; unfold bezantlaw02_SpanTells.j0
    simp [c]
  · simp only [if_neg c]
    rw [meet_f h0 h1 h2 h3]
    simp only [Option.bind_some]
    refine Ev.bind (a := meet a0 a1 b0 b1) (Ev.of (bezantref01_Meet.mono _ _ _ _) (rmeet_f h0 h1 h2 h3 0)) ?_
    have h0 := t_ev hl hn l.length 0 (by omega) (by omega) 0 0 false true (fun _ => ⟨rfl, rfl⟩) rfl (by rw [all_rises hl]; rfl)
    refine Ev.step (fun n => ?_) h0
    conv => lhs; unfold bezantlaw02_SpanTells.j0
    simp
end Go.Proofs.Yteohkpfacjjaeaa.SpanPureT

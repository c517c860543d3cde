/- The law SpanApart, told as a plain Lean function, answers true for every input. -/
import Derived.Test.YteohkpfacjjaeaaSpanPure
namespace Go.Proofs.Yteohkpfacjjaeaa.SpanPure
open Go.RowKit Go.Proofs.YteohkpfacjjaeaaW.PrintWords Go.Proofs.YteohkpfacjjaeaaW.PrintLast Go.Proofs.YteohkpfacjjaeaaW.PrintMore Go.Proofs.Yteohkpfacjjaeaa.PSpanApart
set_option linter.unusedVariables false
set_option linter.unusedSimpArgs false
theorem up_ev : Ev (fun n => bezantlaw02_up.f n) true := Ev.of (bezantlaw02_up.mono) (k := 30) (by decide +kernel)
theorem meet_one (a0 a1 x : Int) (h0 : U64 a0) (h1 : U64 a1) (hx : U64 x) : meet a0 a1 x 1 = (if x ≥ a0 then decide (IntKind.u64.wrap (x - a0) < a1) else false) := by
  obtain ⟨h0, h0'⟩ := h0
  obtain ⟨h1, h1'⟩ := h1
  obtain ⟨hx, hx'⟩ := hx
  unfold meet last
  by_cases c : x ≥ a0
  · rw [if_pos c, uw (by omega) (by omega)]
    rw [Bool.eq_iff_iff]
    simp only [Bool.and_eq_true, decide_eq_true_eq]
    constructor
    · rintro ⟨⟨⟨g1, g2⟩, g3⟩, g4⟩
      split at g3 <;> split at g4 <;> omega
    · intro g
      refine ⟨⟨⟨by omega, by omega⟩, ?_⟩, ?_⟩ <;> split <;> omega
  · rw [if_neg c]
    rw [Bool.eq_false_iff]
    intro h
    simp only [Bool.and_eq_true, decide_eq_true_eq] at h
    obtain ⟨⟨⟨g1, g2⟩, g3⟩, g4⟩ := h
    split at g3 <;> split at g4 <;> omega
theorem meet_two {a0 a1 b0 b1 x : Int} (h0 : U64 a0) (h1 : U64 a1) (h2 : U64 b0) (h3 : U64 b1) (hx : U64 x) (ha : meet a0 a1 x 1 = true) (hb : meet b0 b1 x 1 = true) : meet a0 a1 b0 b1 = true := by
  obtain ⟨h0, h0'⟩ := h0
  obtain ⟨h1, h1'⟩ := h1
  obtain ⟨h2, h2'⟩ := h2
  obtain ⟨h3, h3'⟩ := h3
  obtain ⟨hx, hx'⟩ := hx
  unfold meet last at *
  simp only [Bool.and_eq_true, decide_eq_true_eq] at *
  obtain ⟨⟨⟨g1, g2⟩, g3⟩, g4⟩ := ha
  obtain ⟨⟨⟨k1, k2⟩, k3⟩, k4⟩ := hb
  refine ⟨⟨⟨g1, k1⟩, ?_⟩, ?_⟩
  · split at g3 <;> split at g4 <;> split at k3 <;> split at k4 <;> split <;> omega
  · split at g3 <;> split at g4 <;> split at k3 <;> split at k4 <;> split <;> omega
theorem apart_j0 {a0 a1 b0 b1 x : Int} (h0 : U64 a0) (h1 : U64 a1) (h2 : U64 b0) (h3 : U64 b1) (hx : U64 x) (n : Nat) : bezantlaw02_SpanApart.j0 (n + 1) x true false a0 a1 b0 b1 = some true := by
  have u1 : U64 1 := by unfold U64; omega
  have hone := meet_one a0 a1 x h0 h1 hx
  simp only [bezantlaw02_SpanApart.j0]
  rw [if_neg (by simp), meet_f h0 h1 hx u1, meet_f h2 h3 hx u1, meet_f h0 h1 h2 h3]
  simp only [Option.bind_some, if_true]
  have fin : (if meet a0 a1 x 1 = true then (if meet b0 b1 x 1 = true then (some (meet a0 a1 b0 b1)) else (some true)) else (some true)) = some true := by
    by_cases ha : meet a0 a1 x 1 = true
    · rw [if_pos ha]
      by_cases hb : meet b0 b1 x 1 = true
      · rw [if_pos hb, meet_two h0 h1 h2 h3 hx ha hb]
      · rw [if_neg hb]
    · rw [if_neg ha]
  by_cases c : x ≥ a0
  · rw [if_pos c] at hone
    rw [if_pos c, if_neg (by rw [hone]; simp)]
    exact fin
  · rw [if_neg c] at hone
    rw [if_neg c, if_neg (by rw [hone]; simp)]
    exact fin
theorem SpanApart_pure {l : List S25} (hl : Ok l) (hn : l.length ≤ 9223372036854775807) {a0 a1 b0 b1 x : Int} (h0 : U64 a0) (h1 : U64 a1) (h2 : U64 b0) (h3 : U64 b1) (hx : U64 x) :
    ∃ k, bezantlaw02_SpanApart.f k l a0 a1 b0 b1 x = some true := by
  refine Ev.rounds ?_
  unfold bezantlaw02_SpanApart.f
  refine Ev.bind up_ev ?_
  by_cases c : (l.length : Int) > 60
  · simp only [if_pos c]
    exact Ev.now _
  · simp only [if_neg c]
    refine Ev.bind (clash_ev hl hn) ?_
    refine Ev.bind (rising_ev hl hn) ?_
    have u0 : U64 0 := by unfold U64; omega
    have fin : Ev (fun k => ((span_Meet.f a0 a1 b0 b1).bind fun t143 => ((span_Meet.f b0 b1 a0 a1).bind fun t144 => (if (t143 != t144) = true then (bezantlaw02_SpanApart.j0 k x true true a0 a1 b0 b1) else ((span_Meet.f a0 a1 b0 0).bind fun t145 => (bezantlaw02_SpanApart.j0 k x true t145 a0 a1 b0 b1)))))) true := by
      rw [meet_f h0 h1 h2 h3, meet_f h2 h3 h0 h1, meet_f h0 h1 h2 u0, meet_nil, meet_comm b0 b1 a0 a1]
      simp only [Option.bind_some, bne_self_eq_false, Bool.false_eq_true, if_false]
      exact Ev.step (f := fun _ => some true) (apart_j0 h0 h1 h2 h3 hx) (Ev.now _)
    cases hr : rises l 1 with
    | true =>
      have := rises_clash hl hr
      simp only [if_true, this, Bool.false_eq_true, if_false]
      exact fin
    | false =>
      simp only [Bool.false_eq_true, if_false]
      exact fin
end Go.Proofs.Yteohkpfacjjaeaa.SpanPure

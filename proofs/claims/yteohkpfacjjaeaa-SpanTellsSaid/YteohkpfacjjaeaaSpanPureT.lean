/- Plain lemmas on what span's functions tell. -/
import Derived.Test.YteohkpfacjjaeaaNSpanx5
import Derived.IntWalk
namespace Go.Proofs.Yteohkpfacjjaeaa.SpanPureT
open Go.RowKit Go.Proofs.YteohkpfacjjaeaaW.PrintWords Go.Proofs.YteohkpfacjjaeaaW.PrintLast Go.Proofs.YteohkpfacjjaeaaW.PrintMore Go.Proofs.Yteohkpfacjjaeaa.MSpan
set_option linter.unusedVariables false
set_option linter.unusedSimpArgs false

def U64 (x : Int) : Prop := 0 ≤ x ∧ x ≤ 18446744073709551615
def last (f s : Int) : Int := if s - 1 > 18446744073709551615 - f then 18446744073709551615 else f + s - 1
def meet (a0 a1 b0 b1 : Int) : Bool := decide (0 < a1) && decide (0 < b1) && decide (a0 ≤ last b0 b1) && decide (b0 ≤ last a0 a1)
theorem uw {x : Int} (h0 : 0 ≤ x) (h1 : x ≤ 18446744073709551615) : IntKind.u64.wrap x = x := IntWalk.u64_in x ⟨h0, h1⟩
theorem last_f {f s : Int} (hf : U64 f) (hs : U64 s) (h1 : 0 < s) : span_Span_last.f f s = some (last f s) := by
  obtain ⟨f0, f1⟩ := hf
  obtain ⟨s0, s1⟩ := hs
  unfold span_Span_last.f last
  rw [uw (x := s - 1) (by omega) (by omega), uw (x := 18446744073709551615 - f) (by omega) (by omega)]
  by_cases h : s - 1 > 18446744073709551615 - f
  · rw [if_pos h, if_pos h]
  · rw [if_neg h, if_neg h]
    rw [IntKind.wrap_u64, IntKind.wrap_u64]
    congr 1
    omega
theorem meet_f {a0 a1 b0 b1 : Int} (h0 : U64 a0) (h1 : U64 a1) (h2 : U64 b0) (h3 : U64 b1) : span_Meet.f a0 a1 b0 b1 = some (meet a0 a1 b0 b1) := by
  unfold span_Meet.f meet
  by_cases c1 : a1 > 0
  · rw [if_pos c1]
    by_cases c2 : b1 > 0
    · rw [if_pos c2, last_f h2 h3 c2, Option.bind_some]
      by_cases c3 : a0 ≤ last b0 b1
      · rw [if_pos c3, last_f h0 h1 c1, Option.bind_some]
        rw [decide_eq_true (show 0 < a1 from c1), decide_eq_true (show 0 < b1 from c2), decide_eq_true c3]
        rfl
      · rw [if_neg c3, decide_eq_false c3]
        simp
    · rw [if_neg c2, decide_eq_false (show ¬ 0 < b1 from c2)]
      simp
  · rw [if_neg c1, decide_eq_false (show ¬ 0 < a1 from c1)]
    simp
theorem meet_comm (a0 a1 b0 b1 : Int) : meet a0 a1 b0 b1 = meet b0 b1 a0 a1 := by
  unfold meet
  cases decide (0 < a1) <;> cases decide (0 < b1) <;> cases decide (a0 ≤ last b0 b1) <;> cases decide (b0 ≤ last a0 a1) <;> rfl
theorem meet_nil (a0 a1 b0 : Int) : meet a0 a1 b0 0 = false := by
  unfold meet
  simp
def Ok (l : List S25) : Prop := ∀ x ∈ l, U64 x.f0 ∧ U64 x.f1
def at_ (l : List S25) (i : Nat) : S25 := l.getD i z25
theorem rd_at (l : List S25) (i : Nat) : rd_T25 l (i : Int) = at_ l i := rfl
theorem at_mem {l : List S25} {i : Nat} (h : i < l.length) : at_ l i ∈ l := by
  unfold at_
  rw [List.getD_eq_getElem?_getD, List.getElem?_eq_getElem h]
  exact List.getElem_mem h
theorem at_take {l : List S25} {i n : Nat} (h : i < n) : at_ (l.take n) i = at_ l i := by
  unfold at_
  rw [List.getD_eq_getElem?_getD, List.getD_eq_getElem?_getD, List.getElem?_take, if_pos h]
def mt (l : List S25) (i k : Nat) : Bool := meet (at_ l i).f0 (at_ l i).f1 (at_ l k).f0 (at_ l k).f1
theorem mt_f {l : List S25} (hl : Ok l) {i k : Nat} (hi : i < l.length) (hk : k < l.length) : span_Meet.f (at_ l i).f0 (at_ l i).f1 (at_ l k).f0 (at_ l k).f1 = some (mt l i k) := by
  have h1 := hl _ (at_mem hi)
  have h2 := hl _ (at_mem hk)
  exact meet_f h1.1 h1.2 h2.1 h2.2
theorem w64 {n : Nat} (h : n < 9223372036854775807) : wrap64 ((n : Int) + 1) = ((n + 1 : Nat) : Int) := by
  unfold wrap64
  omega
/-- one inner round -/
theorem l1_step {l : List S25} (hl : Ok l) (hn : l.length ≤ 9223372036854775807) {kk i : Nat} (hk : kk < l.length) (hi : i < kk) (n : Nat) :
    span_Clash.l1 (n + 1) l (kk : Int) l (l.length : Int) (kk : Int) (l.take kk) (kk : Int) (i : Int) (at_ l kk).f0 (at_ l kk).f1 =
      if mt l i kk = true then some ((i : Int), (kk : Int), true) else span_Clash.l1 n l (kk : Int) l (l.length : Int) (kk : Int) (l.take kk) (kk : Int) ((i + 1 : Nat) : Int) (at_ l kk).f0 (at_ l kk).f1 := by
  simp only [span_Clash.l1]
  rw [if_pos (by omega), if_pos (by omega), if_pos (by rw [List.length_take]; omega), rd_at, at_take hi, mt_f hl (by omega) hk, Option.bind_some, w64 (by omega)]
theorem l1_end {l : List S25} (hl : Ok l) (hn : l.length ≤ 9223372036854775807) {kk : Nat} (hk : kk < l.length) (n : Nat) :
    span_Clash.l1 (n + 1) l (kk : Int) l (l.length : Int) (kk : Int) (l.take kk) (kk : Int) (kk : Int) (at_ l kk).f0 (at_ l kk).f1 = span_Clash.l0 n l l (l.length : Int) ((kk + 1 : Nat) : Int) := by
  simp only [span_Clash.l1]
  rw [if_neg (by omega), w64 (by omega)]
theorem l0_step {l : List S25} (hl : Ok l) (hn : l.length ≤ 9223372036854775807) {kk : Nat} (hk : kk < l.length) (n : Nat) :
    span_Clash.l0 (n + 1) l l (l.length : Int) (kk : Int) = span_Clash.l1 n l (kk : Int) l (l.length : Int) (kk : Int) (l.take kk) (kk : Int) ((0 : Nat) : Int) (at_ l kk).f0 (at_ l kk).f1 := by
  simp only [span_Clash.l0]
  rw [if_pos (by omega), if_pos (by omega), if_pos (by omega), if_pos (by omega), Option.bind_some, rd_at, Int.toNat_natCast]
  have e : ((l.take kk).length : Int) = (kk : Int) := by rw [List.length_take]; omega
  rw [e]
  rfl
theorem l0_end {l : List S25} (hl : Ok l) (hn : l.length ≤ 9223372036854775807) (n : Nat) : span_Clash.l0 (n + 1) l l (l.length : Int) (l.length : Int) = some (0, 0, false) := by
  simp only [span_Clash.l0]
  rw [if_neg (by omega)]
/-- what the inner loop tells from i on -/
theorem l1_ev {l : List S25} (hl : Ok l) (hn : l.length ≤ 9223372036854775807) {kk : Nat} (hk : kk < l.length) {r : Int × Int × Bool} (d : Nat) : ∀ i, i ≤ kk → kk - i = d →
    (match (List.range' i (kk - i)).find? (fun j => mt l j kk) with | some j => r = ((j : Int), (kk : Int), true) | none => Ev (fun n => span_Clash.l0 n l l (l.length : Int) ((kk + 1 : Nat) : Int)) r) →
    Ev (fun n => span_Clash.l1 n l (kk : Int) l (l.length : Int) (kk : Int) (l.take kk) (kk : Int) (i : Int) (at_ l kk).f0 (at_ l kk).f1) r := by
  induction d with
  | zero =>
    intro i h0 h1 h
    obtain rfl : i = kk := by omega
    rw [Nat.sub_self] at h
    exact Ev.step (l1_end hl hn hk) h
  | succ d ih =>
    intro i h0 h1 h
    refine Ev.step (l1_step hl hn hk (by omega)) ?_
    rw [show kk - i = (kk - (i + 1)) + 1 by omega, List.range'_succ, List.find?_cons] at h
    cases hm : mt l i kk with
    | true =>
      rw [hm] at h
      simp only at h
      simp only [if_true]
      rw [h]
      exact Ev.now _
    | false =>
      rw [hm] at h
      simp only [Bool.false_eq_true, if_false]
      exact ih (i + 1) (by omega) (by omega) h
def clashFrom (l : List S25) (k : Nat) : Int × Int × Bool :=
  match (List.range' k (l.length - k)).findSome? (fun kk => ((List.range' 0 kk).find? (fun j => mt l j kk)).map (fun j => (j, kk))) with
  | some (j, kk) => ((j : Int), (kk : Int), true)
  | none => (0, 0, false)
theorem l0_ev {l : List S25} (hl : Ok l) (hn : l.length ≤ 9223372036854775807) (d : Nat) : ∀ k, k ≤ l.length → l.length - k = d → Ev (fun n => span_Clash.l0 n l l (l.length : Int) (k : Int)) (clashFrom l k) := by
  induction d with
  | zero =>
    intro k h0 h1
    obtain rfl : k = l.length := by omega
    unfold clashFrom
    rw [Nat.sub_self]
    exact Ev.step (l0_end hl hn) (Ev.now _)
  | succ d ih =>
    intro k h0 h1
    refine Ev.step (l0_step hl hn (show k < l.length by omega)) (l1_ev hl hn (by omega) k 0 (by omega) rfl ?_)
    have h2 := ih (k + 1) (by omega) (by omega)
    unfold clashFrom at h2 ⊢
    rw [show l.length - k = (l.length - (k + 1)) + 1 by omega, List.range'_succ, List.findSome?_cons, Nat.sub_zero]
    cases hf : (List.range' 0 k).find? (fun j => mt l j k) with
    | some j => rfl
    | none => exact h2
theorem clash_ev {l : List S25} (hl : Ok l) (hn : l.length ≤ 9223372036854775807) : Ev (fun n => span_Clash.f n l) (clashFrom l 0) := l0_ev hl hn _ 0 (by omega) rfl
/-- is b's begin not ahead of a's end -/
def blw (a b : S25) : Bool := if a.f1 = 0 then decide (a.f0 ≤ b.f0) else decide (last a.f0 a.f1 < b.f0)
theorem last_ge {f s : Int} (hf : U64 f) (hs : 0 < s) : f ≤ last f s := by
  unfold last
  obtain ⟨f0, f1⟩ := hf
  split <;> omega
theorem blw_le {a b : S25} (ha : U64 a.f0 ∧ U64 a.f1) (h : blw a b = true) : a.f0 ≤ b.f0 := by
  unfold blw at h
  split at h
  · simpa using h
  · have := last_ge ha.1 (show 0 < a.f1 by have := ha.2.1; omega)
    simp at h
    omega
theorem blw_trans {a b c : S25} (ha : U64 a.f0 ∧ U64 a.f1) (hb : U64 b.f0 ∧ U64 b.f1) (h : blw a b = true) (h' : blw b c = true) : blw a c = true := by
  have hbc := blw_le hb h'
  unfold blw at h ⊢
  split at h
  · rename_i e
    rw [if_pos e]
    simp at h ⊢
    omega
  · rename_i e
    rw [if_neg e]
    simp at h ⊢
    omega
theorem blw_meet {a b : S25} (h : blw a b = true) : meet a.f0 a.f1 b.f0 b.f1 = false := by
  unfold blw at h
  unfold meet
  split at h
  · rename_i e
    simp [e]
  · simp at h
    rw [decide_eq_false (show ¬ b.f0 ≤ last a.f0 a.f1 by omega)]
    simp
def rises (l : List S25) (i : Nat) : Bool := (List.range' i (l.length - i)).all (fun j => blw (at_ l (j - 1)) (at_ l j))
theorem r0_step {l : List S25} (hl : Ok l) (hn : l.length ≤ 9223372036854775807) {i : Nat} (h1 : 1 ≤ i) (hi : i < l.length) (n : Nat) :
    span_Rising.l0 (n + 1) l (i : Int) = if blw (at_ l (i - 1)) (at_ l i) = true then span_Rising.l0 n l ((i + 1 : Nat) : Int) else some false := by
  have ha := hl _ (at_mem (show i - 1 < l.length by omega))
  have hb := hl _ (at_mem hi)
  simp only [span_Rising.l0]
  have e : wrap64 ((i : Int) - 1) = ((i - 1 : Nat) : Int) := by unfold wrap64; omega
  rw [e, rd_at, rd_at, if_pos (by omega), if_pos (by omega), if_pos (by omega), if_pos (by omega), w64 (by omega)]
  by_cases c1 : (at_ l (i - 1)).f0 > (at_ l i).f0
  · rw [if_pos c1, if_neg]
    intro h
    have := blw_le ha h
    omega
  · rw [if_neg c1]
    by_cases c2 : (at_ l (i - 1)).f1 > 0
    · rw [if_pos c2, last_f ha.1 ha.2 c2, Option.bind_some]
      unfold blw
      rw [if_neg (show ¬ (at_ l (i - 1)).f1 = 0 by omega)]
      by_cases c3 : last (at_ l (i - 1)).f0 (at_ l (i - 1)).f1 ≥ (at_ l i).f0
      · rw [if_pos c3, decide_eq_false (by omega)]
        rfl
      · rw [if_neg c3, decide_eq_true (by omega)]
        rfl
    · rw [if_neg c2]
      unfold blw
      have := ha.2.1
      rw [if_pos (show (at_ l (i - 1)).f1 = 0 by omega), decide_eq_true (by omega)]
      rfl
theorem r0_ev {l : List S25} (hl : Ok l) (hn : l.length ≤ 9223372036854775807) (d : Nat) : ∀ i, 1 ≤ i → l.length - i = d → Ev (fun n => span_Rising.l0 n l (i : Int)) (rises l i) := by
  induction d with
  | zero =>
    intro i h0 h1
    unfold rises
    rw [h1]
    refine Ev.step (f := fun _ => some true) (fun n => ?_) (Ev.now _)
    simp only [span_Rising.l0]
    rw [if_neg (by omega)]
  | succ d ih =>
    intro i h0 h1
    refine Ev.step (r0_step hl hn h0 (by omega)) ?_
    have h2 := ih (i + 1) (by omega) (by omega)
    unfold rises at h2 ⊢
    rw [show l.length - i = (l.length - (i + 1)) + 1 by omega, List.range'_succ, List.all_cons]
    cases hm : blw (at_ l (i - 1)) (at_ l i) with
    | true => simpa using h2
    | false =>
      simp only [Bool.false_eq_true, if_false, Bool.false_and]
      exact Ev.now _
theorem rising_ev {l : List S25} (hl : Ok l) (hn : l.length ≤ 9223372036854775807) : Ev (fun n => span_Rising.f n l) (rises l 1) := r0_ev hl hn _ 1 (by omega) rfl
theorem rises_below {l : List S25} (hl : Ok l) (h : rises l 1 = true) (d : Nat) : ∀ i k, i < k → k < l.length → k - i = d + 1 → blw (at_ l i) (at_ l k) = true := by
  have hs : ∀ k, 1 ≤ k → k < l.length → blw (at_ l (k - 1)) (at_ l k) = true := by
    intro k h1 h2
    unfold rises at h
    rw [List.all_eq_true] at h
    exact h k (List.mem_range'_1.2 (by omega))
  induction d with
  | zero =>
    intro i k h1 h2 h3
    have := hs k (by omega) h2
    rwa [show k - 1 = i by omega] at this
  | succ d ih =>
    intro i k h1 h2 h3
    exact blw_trans (hl _ (at_mem (by omega))) (hl _ (at_mem (by omega))) (ih i (k - 1) (by omega) (by omega) (by omega)) (hs k (by omega) h2)
theorem rises_clash {l : List S25} (hl : Ok l) (h : rises l 1 = true) : (clashFrom l 0).2.2 = false := by
  unfold clashFrom
  have : (List.range' 0 (l.length - 0)).findSome? (fun kk => ((List.range' 0 kk).find? (fun j => mt l j kk)).map (fun j => (j, kk))) = none := by
    rw [List.findSome?_eq_none_iff]
    intro kk hk
    have hk := (List.mem_range'_1.1 hk).2
    rw [Option.map_eq_none_iff, List.find?_eq_none]
    intro j hj
    have hj := (List.mem_range'_1.1 hj).2
    have := blw_meet (rises_below hl h (kk - j - 1) j kk (by omega) (by omega) (by omega))
    unfold mt
    simp [this]
  rw [this]
end Go.Proofs.Yteohkpfacjjaeaa.SpanPureT

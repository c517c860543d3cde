/- The law DynBack, told as a plain Lean function, answers true for every input. -/
import Derived.Test.YteohkpfacjjaeaaRDynx9
import Derived.Test.YteohkpfacjjaeaaQDynDynTellsP
namespace Go.Proofs.Yteohkpfacjjaeaa.QDynDynP
open Go.RowKit Go.Proofs.YteohkpfacjjaeaaW.PrintWords Go.Proofs.YteohkpfacjjaeaaW.PrintLast Go.Proofs.YteohkpfacjjaeaaW.PrintMore Go.Proofs.Yteohkpfacjjaeaa.QDyn Go.Proofs.Yteohkpfacjjaeaa.Num Go.Proofs.Yteohkpfacjjaeaa.QDynWire Go.Proofs.Yteohkpfacjjaeaa.QDynRow
set_option linter.unusedVariables false
set_option linter.unusedSimpArgs false
theorem seg_mid {P e R : List Int} {a w : Nat} (h1 : P.length = a) (h2 : e.length = w) : seg (P ++ (e ++ R)) a w = e := by
  subst h1 h2
  unfold seg
  rw [List.drop_left, List.take_left]
theorem flat_split (w : Nat) (big : Bool) {l : List D} {i : Nat} (h : i < l.length) (tail : List Int) : flat w big l ++ tail = flat w big (l.take i) ++ (enc w big l[i].f0 ++ (enc w big l[i].f1 ++ (flat w big (l.drop (i + 1)) ++ tail))) := by
  have e : l = l.take i ++ (l[i] :: l.drop (i + 1)) := by rw [← drop1 h, List.take_append_drop]
  conv => lhs; rw [e]
  unfold flat
  rw [List.flatMap_append, List.flatMap_cons]
  simp only [one, List.append_assoc]
theorem num_fit {w : Nat} {big : Bool} {v : Int} (h0 : 0 ≤ v) (h : v < 256 ^ w) : num big (enc w big v) = v := by
  rw [num_enc]
  exact Int.emod_eq_of_lt h0 h
theorem fit_of {w : Nat} {l : List D} (hf : l.all (fitD w) = true) {i : Nat} (hi : i < l.length) : l[i].f0 < 256 ^ w ∧ l[i].f1 < 256 ^ w := by
  have h := List.all_eq_true.1 hf _ (List.getElem_mem hi)
  unfold fitD at h
  simpa using h
theorem take_len {α : Type} {l : List α} {i : Nat} (h : i ≤ l.length) : (l.take i).length = i := by rw [List.length_take]; omega
theorem allD_step {l : List D} (hl : ∀ x ∈ l, okD x) {w : Nat} {big : Bool} (hf : l.all (fitD w) = true) (tail : List Int) {i : Nat} (hi : i < l.length) (d : Nat) :
    allD (flat w big l ++ tail) w big (d + 1) (i * (2 * w)) (l.take i) = if l[i].f0 = 0 then (l.take i, none) else allD (flat w big l ++ tail) w big d ((i + 1) * (2 * w)) (l.take (i + 1)) := by
  have hx := hl _ (List.getElem_mem hi)
  have hv := fit_of hf hi
  have hP : (flat w big (l.take i)).length = i * (2 * w) := by rw [flat_length, take_len (by omega)]
  have s0 : seg (flat w big l ++ tail) (i * (2 * w)) w = enc w big l[i].f0 := by
    rw [flat_split w big hi tail]
    exact seg_mid hP (enc_length ..)
  have s1 : seg (flat w big l ++ tail) (i * (2 * w) + w) w = enc w big l[i].f1 := by
    rw [flat_split w big hi tail, ← List.append_assoc]
    exact seg_mid (by rw [List.length_append, hP, enc_length]) (enc_length ..)
  have hm : (i + 1) * (2 * w) ≤ l.length * (2 * w) := Nat.mul_le_mul (by omega) (Nat.le_refl _)
  rw [Nat.add_mul, Nat.one_mul] at hm
  conv => lhs; unfold allD
  rw [if_neg (by rw [List.length_append, flat_length]; omega), s0, s1, num_fit hx.1.1 hv.1, num_fit hx.2.1 hv.2, ← take1 hi, Nat.add_mul, Nat.one_mul]
theorem allD_go {l : List D} (hl : ∀ x ∈ l, okD x) {w : Nat} {big : Bool} (hf : l.all (fitD w) = true) (tail : List Int) {n : Nat} (hn : n ≤ l.length) (hz : ∀ i (h : i < n), (l[i]'(by omega)).f0 ≠ 0) (d : Nat) (m : Nat) : ∀ i, i ≤ n → n - i = m →
    allD (flat w big l ++ tail) w big (d + m) (i * (2 * w)) (l.take i) = allD (flat w big l ++ tail) w big d (n * (2 * w)) (l.take n) := by
  induction m with
  | zero =>
    intro i h0 h1
    obtain rfl : i = n := by omega
    rfl
  | succ m ih =>
    intro i h0 h1
    rw [← Nat.add_assoc, allD_step hl hf tail (by omega), if_neg (hz i (by omega))]
    exact ih (i + 1) (by omega) (by omega)
theorem all_fuel {l : List D} (hl : ∀ x ∈ l, okD x) {w : Nat} (hw : 0 < w) {big : Bool} (hf : l.all (fitD w) = true) (tail : List Int) {n : Nat} (hn : n ≤ l.length) (hz : ∀ i (h : i < n), (l[i]'(by omega)).f0 ≠ 0) :
    ∃ d, allD (flat w big l ++ tail) w big ((flat w big l ++ tail).length + 1) 0 [] = allD (flat w big l ++ tail) w big (d + 1) (n * (2 * w)) (l.take n) := by
  have hlen : (flat w big l ++ tail).length = l.length * (2 * w) + tail.length := by rw [List.length_append, flat_length]
  have h2 : l.length * 1 ≤ l.length * (2 * w) := Nat.mul_le_mul (Nat.le_refl _) (by omega)
  refine ⟨(flat w big l ++ tail).length - n, ?_⟩
  have h := allD_go (big := big) hl hf tail hn hz ((flat w big l ++ tail).length - n + 1) n 0 (by omega) (by omega)
  rw [Nat.zero_mul, List.take_zero] at h
  rw [← h]
  congr 1
  omega
/-- up to the first one of Tag 0 -/
theorem all_zero {l : List D} (hl : ∀ x ∈ l, okD x) {w : Nat} (hw : 0 < w) {big : Bool} (hf : l.all (fitD w) = true) (tail : List Int) {n : Nat} (hn : n < l.length) (hz : ∀ i (h : i < n), (l[i]'(by omega)).f0 ≠ 0) (h0 : l[n].f0 = 0) :
    allD (flat w big l ++ tail) w big ((flat w big l ++ tail).length + 1) 0 [] = (l.take n, none) := by
  obtain ⟨d, e⟩ := all_fuel hl hw hf tail (by omega) hz (big := big)
  rw [e, allD_step hl hf tail hn, if_pos h0]
theorem num_zeros (wide big : Bool) : num big (List.replicate (wd wide) 0) = 0 := by cases wide <;> cases big <;> kernel_rfl
theorem all_zeros {l : List D} (hl : ∀ x ∈ l, okD x) (wide : Bool) {big : Bool} (hf : l.all (fitD (wd wide)) = true) (rest : List Int) (hz : ∀ i (h : i < l.length), (l[i]'(by omega)).f0 ≠ 0) :
    allD (flat (wd wide) big l ++ (List.replicate 16 0 ++ rest)) (wd wide) big ((flat (wd wide) big l ++ (List.replicate 16 0 ++ rest)).length + 1) 0 [] = (l.take l.length, none) := by
  have hw := wd_cases wide
  obtain ⟨d, e⟩ := all_fuel hl (show 0 < wd wide by omega) hf (List.replicate 16 0 ++ rest) (Nat.le_refl _) hz (big := big)
  rw [e]
  have hs : seg (flat (wd wide) big l ++ (List.replicate 16 0 ++ rest)) (l.length * (2 * wd wide)) (wd wide) = List.replicate (wd wide) 0 := by
    have e16 : (List.replicate 16 0 ++ rest : List Int) = List.replicate (wd wide) 0 ++ (List.replicate (16 - wd wide) 0 ++ rest) := by
      rw [← List.append_assoc, List.replicate_append_replicate, show wd wide + (16 - wd wide) = 16 by omega]
    rw [e16]
    exact seg_mid (flat_length ..) (by simp)
  unfold allD
  rw [if_neg (by rw [List.length_append, List.length_append, flat_length, List.length_replicate]; omega), hs, num_zeros, if_pos rfl]
theorem all_end {l : List D} (hl : ∀ x ∈ l, okD x) {w : Nat} (hw : 0 < w) {big : Bool} (hf : l.all (fitD w) = true) (hz : ∀ i (h : i < l.length), (l[i]'(by omega)).f0 ≠ 0) :
    (allD (flat w big l) w big ((flat w big l).length + 1) 0 []) = ([], some (l.length * (2 * w))) := by
  obtain ⟨d, e⟩ := all_fuel hl hw hf [] (Nat.le_refl _) hz (big := big)
  rw [List.append_nil] at e
  rw [e]
  unfold allD
  rw [if_pos (by rw [flat_length]; omega)]
theorem zeros_B : B (List.replicate 16 0) := by
  intro x hx
  rw [List.mem_replicate] at hx
  omega
theorem B_app {a b : List Int} (ha : B a) (hb : B b) : B (a ++ b) := by
  intro x hx
  rcases List.mem_append.1 hx with h | h
  · exact ha x h
  · exact hb x h
theorem flat_B (w : Nat) (big : Bool) (l : List D) : B (flat w big l) := by
  intro x hx
  unfold flat at hx
  obtain ⟨y, hy, hx⟩ := List.mem_flatMap.1 hx
  exact B_app (enc_B w big y.f0) (enc_B w big y.f1) x hx
theorem wide_fit {l : List D} (hl : ∀ x ∈ l, okD x) : l.all (fitD (wd true)) = true := by
  rw [List.all_eq_true]
  intro x hx
  obtain ⟨⟨a, b⟩, ⟨c, d⟩⟩ := hl x hx
  unfold fitD
  have e : (256 : Int) ^ wd true = 18446744073709551616 := by decide
  rw [e]
  simp
  omega
theorem j2_ev {l : List D} (hl : ∀ x ∈ l, okD x) (hlen : l.length ≤ 100) {rest : List Int} (hb : B rest) (hm : rest.length ≤ 1000) (wide big : Bool) {n : Nat} (hn : n ≤ l.length) (hz : ∀ i (h : i < n), (l[i]'(by omega)).f0 ≠ 0) (h0 : ∀ h : n < l.length, l[n].f0 = 0) :
    Ev (fun k => bezantlaw10_DynBack.j2 k l rest true (n : Int) wide big) true := by
  refine Ev.step (fun k => by rw [bezantlaw10_DynBack.j2]) ?_
  refine Ev.bind (put_d hl (by omega) wide big) ?_
  unfold putD
  by_cases c : l.all (fitD (wd wide)) = true
  · have hw := wd_cases wide
    have hfl := flat_length (wd wide) big l
    have hmul : l.length * (2 * wd wide) ≤ 100 * 16 := Nat.mul_le_mul (by omega) (by omega)
    simp only [if_pos c, Bool.false_eq_true, if_false, Option.bind_some, List.nil_append, List.length_nil]
    have e1 : 0 + (flat (wd wide) big l).length < 140737488355328 := by omega
    have e2 : (flat (wd wide) big l).length + 16 < 140737488355328 := by omega
    have e3 : (flat (wd wide) big l ++ List.replicate 16 0).length + rest.length < 140737488355328 := by rw [List.length_append, List.length_replicate]; omega
    simp only [if_pos e1, if_pos e2, if_pos e3]
    rw [List.append_assoc]
    have hfull : allD (flat (wd wide) big l ++ (List.replicate 16 0 ++ rest)) (wd wide) big ((flat (wd wide) big l ++ (List.replicate 16 0 ++ rest)).length + 1) 0 [] = (l.take n, none) := by
      by_cases h : n < l.length
      · exact all_zero hl (by omega) c _ h hz (h0 h)
      · obtain rfl : n = l.length := by omega
        exact all_zeros hl wide c rest hz
    have hA := all_ev (b := flat (wd wide) big l ++ (List.replicate 16 0 ++ rest)) (B_app (flat_B _ _ _) (B_app zeros_B hb)) (by rw [List.length_append, List.length_append, List.length_replicate]; omega) wide big
    rw [hfull] at hA
    refine Ev.bind hA ?_
    have hA2 := all_ev (b := flat (wd wide) big l) (flat_B _ _ _) (by omega) wide big
    refine Ev.bind hA2 ?_
    have i0 : (0 : Int) ≤ (n : Int) := by omega
    have i1 : (n : Int) ≤ (l.length : Int) := by omega
    simp only [toldA, if_true, Bool.false_eq_true, if_false, if_pos i0, if_pos i1, Int.toNat_natCast]
    refine Ev.bind (same_ev (l.take n) (by rw [List.length_take]; omega)) ?_
    simp only [if_true]
    have ht : ((!(toldA (allD (flat (wd wide) big l) (wd wide) big ((flat (wd wide) big l).length + 1) 0 [])).2.1) == decide ((n : Int) < (l.length : Int))) = true := by
      by_cases h : n < l.length
      · have z := all_zero hl (show 0 < wd wide by omega) (big := big) c [] h hz (h0 h)
        rw [List.append_nil] at z
        rw [z, decide_eq_true (by omega)]
        rfl
      · obtain rfl : n = l.length := by omega
        rw [all_end hl (by omega) c hz, decide_eq_false (by omega)]
        rfl
    have ht' := ht
    simp only [toldA] at ht'
    rw [ht']
    exact Ev.now _
  · have hwide : wide = false := by
      cases wide
      · rfl
      · exact absurd (wide_fit hl) c
    subst hwide
    simp only [if_neg c, if_true, Bool.not_false]
    exact Ev.now _
theorem b_l0 {l : List D} (hl : ∀ x ∈ l, okD x) (hlen : l.length ≤ 100) {rest : List Int} (hb : B rest) (hm : rest.length ≤ 1000) (wide big : Bool) (d : Nat) : ∀ i, i ≤ l.length → l.length - i = d → (∀ j (h : j < i) (h2 : j < l.length), l[j].f0 ≠ 0) →
    Ev (fun k => bezantlaw10_DynBack.l0 k l rest true (i : Int) wide big) true := by
  induction d with
  | zero =>
    intro i h0 h1 hz
    obtain rfl : i = l.length := by omega
    refine Ev.step (fun k => by rw [bezantlaw10_DynBack.l0, if_neg (by omega)]) ?_
    exact j2_ev hl hlen hb hm wide big (Nat.le_refl _) (fun i h => hz i h h) (fun h => absurd h (by omega))
  | succ d ih =>
    intro i h0 h1 hz
    have hi : i < l.length := by omega
    by_cases c : l[i].f0 = 0
    · refine Ev.step (fun k => by rw [bezantlaw10_DynBack.l0, if_pos (by omega), if_pos (by omega), rdT hi, if_pos c]) ?_
      exact j2_ev hl hlen hb hm wide big h0 (fun j h => hz j h (by omega)) (fun _ => c)
    · refine Ev.step (fun k => by rw [bezantlaw10_DynBack.l0, if_pos (by omega), if_pos (by omega), rdT hi, if_neg c, w64n (by omega)]) ?_
      refine ih (i + 1) (by omega) (by omega) (fun j h h2 => ?_)
      by_cases e : j = i
      · subst e
        exact c
      · exact hz j (by omega) h2
theorem DynBack' {l : List D} (hl : ∀ x ∈ l, okD x) {b : List Int} (hb : B b) (wide big : Bool) : ∃ k, bezantlaw10_DynBack.f k l wide big b = some true := by
  refine Ev.rounds ?_
  unfold bezantlaw10_DynBack.f
  refine Ev.bind up_ev ?_
  have out : Ev (fun k => bezantlaw10_DynBack.j0 k l b true true wide big) true := by
    refine Ev.step (f := fun _ => some true) (fun k => ?_) (Ev.now _)
    rw [bezantlaw10_DynBack.j0, if_pos rfl]
  by_cases c : (l.length : Int) > 100
  · simp only [if_pos c]
    exact out
  · simp only [if_neg c]
    by_cases c2 : (b.length : Int) > 1000
    · rw [decide_eq_true c2]
      exact out
    · rw [decide_eq_false c2]
      refine Ev.step (fun k => by rw [bezantlaw10_DynBack.j0, if_neg (by simp)]) ?_
      exact b_l0 hl (by omega) hb (by omega) wide big l.length 0 (by omega) (by omega) (fun j h => absurd h (by omega))
end Go.Proofs.Yteohkpfacjjaeaa.QDynDynP

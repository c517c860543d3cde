/- The walk of ProgBack. No statement of the set is proved in this text. -/
import Derived.Test.YteohkpfacjjaeabPvProgB
namespace Go.Proofs.Yteohkpfacjjaeab.PvW
open Go.RowKit Go.Proofs.Yteohkpfacjjaeab.Cd Go.Proofs.Yteohkpfacjjaeab.AbP Go.Proofs.Yteohkpfacjjaeab.Num Go.Proofs.Yteohkpfacjjaeab.Pv
set_option maxRecDepth 100000
set_option maxHeartbeats 4000000
set_option linter.unusedVariables false
set_option linter.unusedSimpArgs false
abbrev dProg : Ab.D := (.cons (.int .u32) (.cons (.int .u32) (.cons (.int .u64) (.cons (.int .u64) (.cons (.int .u64) (.cons (.int .u64) (.cons (.int .u64) (.cons (.int .u64) .nil))))))))
theorem prog_same (p0 p1 p2 p3 p4 p5 p6 p7 : Int) : EqS Try.prog 25 [.int .u32 p0, .int .u32 p1, .int .u64 p2, .int .u64 p3, .int .u64 p4, .int .u64 p5, .int .u64 p6, .int .u64 p7] [.int .u32 p0, .int .u32 p1, .int .u64 p2, .int .u64 p3, .int .u64 p4, .int .u64 p5, .int .u64 p6, .int .u64 p7] true :=
  EqS.same dProg (by decide) (by kernel_rfl) (by kernel_rfl) (by decide) (p0, p1, p2, p3, p4, p5, p6, p7, ()) rfl
section
variable {K : PV → List OB → Prop} {p0 p1 p2 p3 p4 p5 p6 p7 : Int}
theorem progV_put {w big : Bool} {b : List Int} {n : Int} (hn : n = (b.length : Int)) (hok : rowOk (progP w p0 p1 p2 p3 p4 p5 p6 p7) = true) (hU : ∀ x ∈ [p0, p1, p2, p3, p4, p5, p6, p7], U64 x) (u0 : p0 ≤ 4294967295) (u1 : p1 ≤ 4294967295) {c : List Int} : progV w (gets (b ++ rowB big (progP w p0 p1 p2 p3 p4 p5 p6 p7) ++ c) big n (progW w)) = .agg [.int .u32 p0, .int .u32 p1, .int .u64 p2, .int .u64 p3, .int .u64 p4, .int .u64 p5, .int .u64 p6, .int .u64 p7] := by
  simp only [List.forall_mem_cons] at hU
  obtain ⟨g0, g1, g2, g3, g4, g5, g6, g7, -⟩ := hU
  have e0 := w32' g0 u0
  have e1 := w32' g1 u1
  rw [List.append_assoc, hn]
  cases w
  · have h := gets_put (big := big) (progP false p0 p1 p2 p3 p4 p5 p6 p7) b c hok (by
      intro q hq
      simp only [progP, prs, List.map_cons, List.map_nil, ↓reduceIte, Bool.false_eq_true, List.mem_cons, List.not_mem_nil, or_false] at hq
      rcases hq with rfl | rfl | rfl | rfl | rfl | rfl | rfl | rfl
      · exact g0.1
      · exact g2.1
      · exact g3.1
      · exact g4.1
      · exact g5.1
      · exact g6.1
      · exact g1.1
      · exact g7.1)
    have h2 : gets (b ++ (rowB big (progP false p0 p1 p2 p3 p4 p5 p6 p7) ++ c)) big b.length (progW false) = [p0, p2, p3, p4, p5, p6, p1, p7] := h
    rw [h2]
    show PV.agg [.int .u32 (IntKind.u32.wrap p0), .int .u32 (IntKind.u32.wrap p1), .int .u64 p2, .int .u64 p3, .int .u64 p4, .int .u64 p5, .int .u64 p6, .int .u64 p7] = _
    rw [e0, e1]
  · have h := gets_put (big := big) (progP true p0 p1 p2 p3 p4 p5 p6 p7) b c hok (by
      intro q hq
      simp only [progP, prs, List.map_cons, List.map_nil, List.cons_append, List.nil_append, ↓reduceIte, List.mem_cons, List.not_mem_nil, or_false] at hq
      rcases hq with rfl | rfl | rfl | rfl | rfl | rfl | rfl | rfl
      · exact g0.1
      · exact g1.1
      · exact g2.1
      · exact g3.1
      · exact g4.1
      · exact g5.1
      · exact g6.1
      · exact g7.1)
    have h2 : gets (b ++ (rowB big (progP true p0 p1 p2 p3 p4 p5 p6 p7) ++ c)) big b.length (progW true) = [p0, p1, p2, p3, p4, p5, p6, p7] := h
    rw [h2]
    show PV.agg [.int .u32 (IntKind.u32.wrap p0), .int .u32 (IntKind.u32.wrap p1), .int .u64 p2, .int .u64 p3, .int .u64 p4, .int .u64 p5, .int .u64 p6, .int .u64 p7] = _
    rw [e0, e1]
theorem prow_len {w big : Bool} : (rowB big (progP w p0 p1 p2 p3 p4 p5 p6 p7)).length = if w = true then 56 else 32 := by
  have hl : ∀ (v : Int) (n : Int), wideB n = true → (putSpec v n big).length = n.toNat := fun v n h => by rw [putSpec_len, if_pos h]
  cases w
  · simp only [rowB, progP, prs, List.map_cons, List.map_nil, ↓reduceIte, Bool.false_eq_true, List.flatMap_cons, List.flatMap_nil, List.length_append, hl _ 4 rfl, List.length_nil]
    rfl
  · simp only [rowB, progP, prs, List.map_cons, List.map_nil, List.cons_append, List.nil_append, ↓reduceIte, List.flatMap_cons, List.flatMap_nil, List.length_append, hl _ 4 rfl, hl _ 8 rfl, List.length_nil]
    rfl
theorem pwide_ok (hU : ∀ x ∈ [p0, p1, p2, p3, p4, p5, p6, p7], U64 x) (h0 : p0 ≤ 4294967295) (h1 : p1 ≤ 4294967295) : rowOk (progP true p0 p1 p2 p3 p4 p5 p6 p7) = true := by
  simp only [List.forall_mem_cons] at hU
  obtain ⟨g0, g1, g2, g3, g4, g5, g6, g7, -⟩ := hU
  simp only [progP, rowOk, prs, List.cons_append, List.nil_append, List.map_cons, List.map_nil, List.all_cons, List.all_nil, if_pos, fits4' h0, fits4' h1, fits8' g2, fits8' g3, fits8' g4, fits8' g5, fits8' g6, fits8' g7, Bool.and_true]
theorem prog_got {w big : Bool} {b : List Int} (hB : B b) {a : Int} (ha : U64 a) (h : a + (if w = true then 56 else 32) ≤ (b.length : Int)) : ∃ (sz : Nat) (m0 m1 m2 m3 m4 m5 m6 m7 : Int), 32 ≤ sz ∧ sz ≤ 56 ∧ a + sz ≤ (b.length : Int) ∧ progV w (gets b big a (progW w)) = .agg [.int .u32 m0, .int .u32 m1, .int .u64 m2, .int .u64 m3, .int .u64 m4, .int .u64 m5, .int .u64 m6, .int .u64 m7] ∧ (∀ x ∈ [m0, m1, m2, m3, m4, m5, m6, m7], U64 x) ∧ m0 ≤ 4294967295 ∧ m1 ≤ 4294967295 ∧ rowOk (progP w m0 m1 m2 m3 m4 m5 m6 m7) = true ∧ rowB big (progP w m0 m1 m2 m3 m4 m5 m6 m7) = (b.take (a.toNat + sz)).drop a.toNat ∧ ((b.take (a.toNat + sz)).drop a.toNat).length = sz := by
  obtain ⟨a, rfl⟩ : ∃ a' : Nat, a = (a' : Int) := ⟨a.toNat, (Int.toNat_of_nonneg ha.1).symm⟩
  obtain ⟨h1, h2, h3⟩ := put_gets (big := big) hB (progW w) a (progW_wide w) (by rw [progW_sum]; exact h)
  rw [progW_sum] at h2
  have hG : ∃ m0 m1 m2 m3 m4 m5 m6 m7 : Int, gets b big a (progW w) = [m0, m1, m2, m3, m4, m5, m6, m7] := by cases w <;> exact ⟨_, _, _, _, _, _, _, _, rfl⟩
  obtain ⟨m0, m1, m2, m3, m4, m5, m6, m7, hG⟩ := hG
  rw [hG] at h1 h2 h3 ⊢
  rw [Int.toNat_natCast]
  simp only [List.forall_mem_cons] at h3
  obtain ⟨g0, g1, g2, g3, g4, g5, g6, g7, -⟩ := h3
  cases w
  · have hok : rowOk (progP false m0 m6 m1 m2 m3 m4 m5 m7) = true := h1
    have hrow : rowB big (progP false m0 m6 m1 m2 m3 m4 m5 m7) = (b.take (a + 32)).drop a := h2
    simp only [rowOk, progP, prs, List.map_cons, List.map_nil, ↓reduceIte, Bool.false_eq_true, List.all_cons, Bool.and_eq_true] at h1
    have e := hok
    simp only [rowOk, progP, prs, List.map_cons, List.map_nil, ↓reduceIte, Bool.false_eq_true, List.all_cons, Bool.and_eq_true] at e
    obtain ⟨f0, -, -, -, -, -, f6, -⟩ := e
    have b0 := fits4 f0 rfl
    have b6 := fits4 f6 rfl
    refine ⟨32, m0, m6, m1, m2, m3, m4, m5, m7, by decide, by decide, h, ?_, ?_, b0, b6, hok, hrow, by rw [← hrow, prow_len]; rfl⟩
    · show PV.agg [.int .u32 (IntKind.u32.wrap m0), .int .u32 (IntKind.u32.wrap m6), .int .u64 m1, .int .u64 m2, .int .u64 m3, .int .u64 m4, .int .u64 m5, .int .u64 m7] = _
      rw [w32' g0 b0, w32' g6 b6]
    · simp only [List.forall_mem_cons]
      exact ⟨g0, g6, g1, g2, g3, g4, g5, g7, fun x hx => by cases hx⟩
  · have hok : rowOk (progP true m0 m1 m2 m3 m4 m5 m6 m7) = true := h1
    have hrow : rowB big (progP true m0 m1 m2 m3 m4 m5 m6 m7) = (b.take (a + 56)).drop a := h2
    have e := hok
    simp only [rowOk, progP, prs, List.map_cons, List.map_nil, List.cons_append, List.nil_append, ↓reduceIte, List.all_cons, Bool.and_eq_true] at e
    obtain ⟨f0, f1, -⟩ := e
    have b0 := fits4 f0 rfl
    have b1 := fits4 f1 rfl
    refine ⟨56, m0, m1, m2, m3, m4, m5, m6, m7, by decide, by decide, h, ?_, ?_, b0, b1, hok, hrow, by rw [← hrow, prow_len]; rfl⟩
    · show PV.agg [.int .u32 (IntKind.u32.wrap m0), .int .u32 (IntKind.u32.wrap m1), .int .u64 m2, .int .u64 m3, .int .u64 m4, .int .u64 m5, .int .u64 m6, .int .u64 m7] = _
      rw [w32' g0 b0, w32' g1 b1]
    · simp only [List.forall_mem_cons]
      exact ⟨g0, g1, g2, g3, g4, g5, g6, g7, fun x hx => by cases hx⟩
theorem pback_core {w big : Bool} {b : List Int} {a : Int} (hU : ∀ x ∈ [p0, p1, p2, p3, p4, p5, p6, p7], U64 x) (u0 : p0 ≤ 4294967295) (u1 : p1 ≤ 4294967295) (hB : B b) (ha : U64 a) :
    PCalls Try.prog 3 [.agg [.int .u32 p0, .int .u32 p1, .int .u64 p2, .int .u64 p3, .int .u64 p4, .int .u64 p5, .int .u64 p6, .int .u64 p7], .agg [.bool w, .bool big], .sl (.int .u8) b, .int .u64 a] [] fun p _ => p = .bool true := by
  refine told_callP bezantlaw05_ProgBack.told fun Z hZ => ?_
  unfold bezantlaw05_ProgBack.c
  by_cases hlen : 1000 < (b.length : Int)
  · refine W1 trivial @DD @pup_spec ?_
    rfl
  have hbl : (b.length : Int) ≤ 1000 := by omega
  have hb0 : b.length ≤ 1000 := by omega
  have heq := prog_same p0 p1 p2 p3 p4 p5 p6 p7
  refine W2 trivial @DD (And.intro @pup_spec @pput_spec) ?_ ?_
  · intro ok
    have hC := rowB_B big (progP w p0 p1 p2 p3 p4 p5 p6 p7)
    have hcz := prow_len (w := w) (big := big) (p0 := p0) (p1 := p1) (p2 := p2) (p3 := p3) (p4 := p4) (p5 := p5) (p6 := p6) (p7 := p7)
    have hS : progV w (gets (b ++ rowB big (progP w p0 p1 p2 p3 p4 p5 p6 p7) ++ b) big (b.length : Int) (progW w)) = _ := progV_put rfl ok hU u0 u1
    generalize rowB big (progP w p0 p1 p2 p3 p4 p5 p6 p7) = C at *
    have hcl : C.length ≤ 56 := by rw [hcz]; cases w <;> decide
    refine W1 trivial @DD (@oArr 3 (.int .u8)) ?_
    have hlc : (b.length : Int) + (if w = true then 56 else 32) ≤ ((b ++ C ++ b).length : Int) := by
      have : (C.length : Int) = if w = true then 56 else 32 := by rw [hcz]; cases w <;> rfl
      rw [← this]
      simp only [List.length_append]
      omega
    have hcc : decide (¬ (C.length : Int) = if w = true then 56 else 32) = false := by rw [hcz]; cases w <;> rfl
    refine pget_spec ⟨B_append (B_append hB hC) hB⟩ ⟨by simp only [List.length_append]; omega⟩ ⟨⟨by omega, by omega⟩⟩ (fun _ => ?_) (fun hle => absurd hlc hle)
    rw [hS]
    refine W1 trivial (And.intro @DD @hcc) @psize_spec ?_
    refine W1 trivial @DD trivial ?_
    refine pget_spec ⟨hB⟩ ⟨by omega⟩ ⟨ha⟩ (fun hle => ?_) (fun hle => ?_)
    · obtain ⟨sz, m0, m1, m2, m3, m4, m5, m6, m7, hz2, hz3, hle', hS, hU', c0, c1, hok', hr', hD0⟩ := prog_got (big := big) hB ha hle
      rw [hS]
      have q0 := ha.1
      have q1 := ha.2
      refine W1 trivial @DD trivial ?_
      refine pput_spec ⟨hU'⟩ ⟨c0⟩ ⟨c1⟩ (fun _ => ?_) (fun no => absurd hok' (by rw [no]; decide))
      rw [hr']
      generalize hD : (b.take (a.toNat + sz)).drop a.toNat = D at *
      refine W1 trivial @DD trivial ?_
      have e : (a + (D.length : Int)).toNat = a.toNat + sz := by omega
      rw [e, hD]
      exact congrArg PV.bool (beq_self_eq_true (sOf D).toList)
    · refine W1 trivial @DD trivial ?_
      rfl
  · intro no
    cases w
    · refine W1 trivial @DD trivial ?_
      refine W1 trivial @DD trivial ?_
      refine pget_spec ⟨hB⟩ ⟨by omega⟩ ⟨ha⟩ (fun hle => ?_) (fun hle => ?_)
      · obtain ⟨sz, m0, m1, m2, m3, m4, m5, m6, m7, hz2, hz3, hle', hS, hU', c0, c1, hok', hr', hD0⟩ := prog_got (big := big) hB ha hle
        rw [hS]
        have q0 := ha.1
        have q1 := ha.2
        refine W1 trivial @DD trivial ?_
        refine pput_spec ⟨hU'⟩ ⟨c0⟩ ⟨c1⟩ (fun _ => ?_) (fun no => absurd hok' (by rw [no]; decide))
        rw [hr']
        generalize hD : (b.take (a.toNat + sz)).drop a.toNat = D at *
        refine W1 trivial @DD trivial ?_
        have e : (a + (D.length : Int)).toNat = a.toNat + sz := by omega
        rw [e, hD]
        exact congrArg PV.bool (beq_self_eq_true (sOf D).toList)
      · refine W1 trivial @DD trivial ?_
        rfl
    · rw [pwide_ok hU u0 u1] at no
      cases no
end
theorem all8 {p0 p1 p2 p3 p4 p5 p6 p7 : Int} (h0 : U64 p0) (h1 : U64 p1) (h2 : U64 p2) (h3 : U64 p3) (h4 : U64 p4) (h5 : U64 p5) (h6 : U64 p6) (h7 : U64 p7) : ∀ x ∈ [p0, p1, p2, p3, p4, p5, p6, p7], U64 x := by
  simp only [List.forall_mem_cons]
  exact ⟨h0, h1, h2, h3, h4, h5, h6, h7, fun x hx => by cases hx⟩
theorem pback_walk (x0 : ((.st (.cons (.int .u32) (.cons (.int .u32) (.cons (.int .u64) (.cons (.int .u64) (.cons (.int .u64) (.cons (.int .u64) (.cons (.int .u64) (.cons (.int .u64) .nil))))))))) : Ab.D).T) (g0 : ((.st (.cons (.int .u32) (.cons (.int .u32) (.cons (.int .u64) (.cons (.int .u64) (.cons (.int .u64) (.cons (.int .u64) (.cons (.int .u64) (.cons (.int .u64) .nil))))))))) : Ab.D).good x0) (x1 : ((.st (.cons .bool (.cons .bool .nil))) : Ab.D).T) (g1 : ((.st (.cons .bool (.cons .bool .nil))) : Ab.D).good x1)
    (x2 : ((.sl (.int .u8)) : Ab.D).T) (g2 : ((.sl (.int .u8)) : Ab.D).good x2) (x3 : ((.int .u64) : Ab.D).T) (g3 : ((.int .u64) : Ab.D).good x3) :
    PCalls Try.prog 3 [pvD (.st (.cons (.int .u32) (.cons (.int .u32) (.cons (.int .u64) (.cons (.int .u64) (.cons (.int .u64) (.cons (.int .u64) (.cons (.int .u64) (.cons (.int .u64) .nil))))))))) x0, pvD (.st (.cons .bool (.cons .bool .nil))) x1, pvD (.sl (.int .u8)) x2, pvD (.int .u64) x3] [] fun p _ => p = .bool true := by
  obtain ⟨p0, p1, p2, p3, p4, p5, p6, p7, _⟩ := x0
  obtain ⟨w, big, _⟩ := x1
  obtain ⟨k0, k1, k2, k3, k4, k5, k6, k7, _⟩ := g0
  exact pback_core (all8 (u32_of k0).1 (u32_of k1).1 (u64_of k2) (u64_of k3) (u64_of k4) (u64_of k5) (u64_of k6) (u64_of k7)) (u32_of k0).2 (u32_of k1).2 (B_of g2.2) (u64_of g3)
end Go.Proofs.Yteohkpfacjjaeab.PvW

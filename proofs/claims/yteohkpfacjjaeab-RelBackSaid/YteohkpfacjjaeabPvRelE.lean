/- What the law's own functions on relocations yield, and that what is put is got. No statement of the set is proved in this text. -/
import Derived.Test.YteohkpfacjjaeabPvRelC
namespace Go.Proofs.Yteohkpfacjjaeab.PvW
open Go.RowKit Go.Proofs.Yteohkpfacjjaeab.Cd Go.Proofs.Yteohkpfacjjaeab.AbP Go.Proofs.Yteohkpfacjjaeab.Num Go.Proofs.Yteohkpfacjjaeab.Pv
set_option maxRecDepth 100000
set_option maxHeartbeats 4000000
set_option linter.unusedVariables false
set_option linter.unusedSimpArgs false
variable {K : PV → List OB → Prop}
abbrev dRelI : Ab.D := (.cons (.int .u64) (.cons (.int .u32) (.cons (.int .u32) (.cons (.int .i64) .nil))))
theorem rel_same (x : dRel.T) : EqS Try.prog 122 (encP dRel x) (encP dRel x) true :=
  EqS.same dRelI (by decide) (by kernel_rfl) (by kernel_rfl) (by decide) x rfl
theorem same9_spec {l l' : List dRel.T} (hl : Rf (l = l')) (hm : Om (l.length ≤ 100000)) (hk : K (.int .i64 1) []) :
    PCalls Try.prog 32 [.sl dRel l, .sl dRel l'] [] K := by
  obtain rfl := hl.o
  have hm := hm.o
  refine told_callP bezantlaw09_same.told fun Z hZ => ?_
  unfold bezantlaw09_same.c
  refine W1 trivial @DD trivial ?_
  refine w_lp (fun q e s => s = [] ∧ ∃ i : Nat, q + i = l.length ∧ e 0 = .sl dRel l ∧ e 1 = .sl dRel l ∧ e 5 = .int .i64 i) l.length ?_ ?_
  · exact ⟨rfl, 0, rfl, by exact lk trivial, by exact lk trivial, by exact lk trivial⟩
  rintro q e s ⟨rfl, i, hi, e0, e1, e5⟩
  by_cases hq : i < l.length
  · obtain ⟨x, hx⟩ : ∃ x, l[i]? = some x := ⟨l[i], by simp [hq]⟩
    have hs := rel_same x
    obtain ⟨off, sym, typ, add, _⟩ := x
    refine W1 (And.intro @e0 (And.intro @e1 @e5)) @DD trivial ?_
    exact ⟨q - 1, by omega, rfl, i + 1, by omega, by exact lk @e0, by exact lk @e1, by exact lk @e5⟩
  · refine W1 (And.intro @e0 (And.intro @e1 @e5)) @DD trivial ?_
    exact hk
theorem up9_spec (hk : K (.bool true) []) : PCalls Try.prog 25 [] [] K := by
  refine told_callP bezantlaw09_up.told fun Z hZ => ?_
  unfold bezantlaw09_up.c
  have hG1 : ∀ x ∈ [((1 : Int), (2 : Int), (3 : Int), (-1 : Int), ())], RelG x := by
    intro x hx
    rw [List.mem_singleton.1 hx]
    exact ⟨by decide, by decide, by decide, by decide⟩
  have hG2 : ∀ x ∈ [((0 : Int), (0 : Int), (0 : Int), (-1 : Int), ())], RelG x := by
    intro x hx
    rw [List.mem_singleton.1 hx]
    exact ⟨by decide, by decide, by decide, by decide⟩
  refine W1 trivial @DD (@aArr 0 dRel) ?_
  refine eput_spec (l := [(1, 2, 3, -1, ())]) ⟨hG1⟩ ⟨by decide⟩ (fun _ => ?_) (fun no => absurd no (by decide))
  have hl : (recB false (relP true true) [((1 : Int), (2 : Int), (3 : Int), (-1 : Int), ())]).length = 24 := by decide
  have h8 : (recB false (relP true true) [((1 : Int), (2 : Int), (3 : Int), (-1 : Int), ())]).getD 8 0 = 3 := by decide
  have h12 : (recB false (relP true true) [((1 : Int), (2 : Int), (3 : Int), (-1 : Int), ())]).getD 12 0 = 2 := by decide
  have h23 : (recB false (relP true true) [((1 : Int), (2 : Int), (3 : Int), (-1 : Int), ())]).getD 23 0 = 255 := by decide
  generalize recB false (relP true true) [((1 : Int), (2 : Int), (3 : Int), (-1 : Int), ())] = C at *
  have hl1 : (-1 : Int) ≠ 0 := by decide
  refine W1 (And.intro @h8 (And.intro @h12 @h23)) (And.intro @DD @hl) (@aArr 2 dRel) ?_
  refine eput_spec (l := [(0, 0, 0, -1, ())]) ⟨hG2⟩ ⟨by decide⟩ (fun no => absurd no (by decide)) (fun _ => ?_)
  have hs8 : ((relS false false : Nat) : Int) = 8 := rfl
  refine W1 (And.intro @h8 (And.intro @h12 @h23)) (And.intro @DD (And.intro @hl @hs8)) (And.intro @rsize_spec @code_spec) ?_
  exact hk
theorem relN_ge {w adds : Bool} {off sym typ add : Int} (h : RelN off sym typ add) : ∀ q ∈ relN w adds off sym typ add, 0 ≤ q.1 := by
  obtain ⟨⟨g0, h0⟩, ⟨g1, h1⟩, ⟨g2, h2⟩, ⟨g3, h3⟩⟩ := h
  have hI : 0 ≤ relI w sym typ := by unfold relI; split <;> omega
  have hA : 0 ≤ relA w add := by have := u64w add; unfold relA; split <;> omega
  intro q hq
  unfold relN at hq
  cases adds <;> simp at hq
  · rcases hq with rfl | rfl <;> assumption
  · rcases hq with rfl | rfl | rfl <;> assumption
theorem relP_ge {w adds : Bool} {x : dRel.T} (h : RelG x) : ∀ q ∈ relP w adds x, 0 ≤ q.1 := relN_ge h
theorem i64u (a : Int) (h0 : -9223372036854775808 ≤ a) (h1 : a ≤ 9223372036854775807) : IntKind.i64.wrap (IntKind.u64.wrap a) = a := by rw [wI64, wU64]; omega
theorem addN_u (a : Int) (h0 : -2147483648 ≤ a) (h1 : a ≤ 2147483647) : addN (IntKind.u64.wrap a % 4294967296) = a := by unfold addN; rw [wU64]; split <;> omega
theorem relN_ok {w adds : Bool} {off sym typ add : Int} (h : RelN off sym typ add) (hm : relM w adds off sym typ add = true) : rowOk (relN w adds off sym typ add) = true ∧ relD w adds ((relN w adds off sym typ add).map (·.1)) = (off, sym, typ, add, ()) := by
  obtain ⟨⟨g0, h0⟩, ⟨g1, h1⟩, ⟨g2, h2⟩, ⟨g3, h3⟩⟩ := h
  have hz : adds = true ∨ add = 0 := by
    simp only [relM, Bool.and_eq_true, Bool.or_eq_true, decide_eq_true_eq] at hm
    exact hm.1
  have hu := u64w add
  cases w
  · have hn : fitsB off 4 = true ∧ sym < 16777216 ∧ typ < 256 ∧ -2147483648 ≤ add ∧ add ≤ 2147483647 := by
      simp only [relM, Bool.false_or, Bool.and_eq_true, decide_eq_true_eq] at hm
      exact ⟨hm.2.1.1.1, hm.2.1.1.2, hm.2.1.2, hm.2.2.1, hm.2.2.2⟩
    obtain ⟨n0, n1, n2, n3, n4⟩ := hn
    have q1 := fitI4 n1 n2
    have q2 := fitA4 add
    have d1 : (256 * sym + typ) / 256 = sym := by omega
    have d2 : (256 * sym + typ) % 256 = typ := by omega
    have d3 := addN_u add n3 n4
    cases adds
    · obtain hz : add = 0 := by simpa using hz
      refine ⟨by show (fitsB off 4 && (fitsB (relI false sym typ) (wd false) && true)) = true; rw [n0, q1]; rfl, ?_⟩
      show (off, (256 * sym + typ) / 256, (256 * sym + typ) % 256, (0 : Int), ()) = _
      rw [d1, d2, hz]
    · refine ⟨by show (fitsB off 4 && (fitsB (relI false sym typ) (wd false) && (fitsB (relA false add) (wd false) && true))) = true; rw [n0, q1, q2]; rfl, ?_⟩
      show (off, (256 * sym + typ) / 256, (256 * sym + typ) % 256, addN (IntKind.u64.wrap add % 4294967296), ()) = _
      rw [d1, d2, d3]
  · have q0 : fitsB off 8 = true := fit8 h0
    have q1 := fitI8 h1 h2
    have q2 : fitsB (IntKind.u64.wrap add) 8 = true := fit8 hu.2
    have d1 : (4294967296 * sym + typ) / 4294967296 = sym := by omega
    have d2 : (4294967296 * sym + typ) % 4294967296 = typ := by omega
    have d3 := i64u add g3 h3
    cases adds
    · obtain hz : add = 0 := by simpa using hz
      refine ⟨by show (fitsB off 8 && (fitsB (relI true sym typ) (wd true) && true)) = true; rw [q0, q1]; rfl, ?_⟩
      show (off, (4294967296 * sym + typ) / 4294967296, (4294967296 * sym + typ) % 4294967296, (0 : Int), ()) = _
      rw [d1, d2, hz]
    · refine ⟨by show (fitsB off 8 && (fitsB (relI true sym typ) (wd true) && (fitsB (IntKind.u64.wrap add) 8 && true))) = true; rw [q0, q1, q2]; rfl, ?_⟩
      show (off, (4294967296 * sym + typ) / 4294967296, (4294967296 * sym + typ) % 4294967296, IntKind.i64.wrap (IntKind.u64.wrap add), ()) = _
      rw [d1, d2, d3]
theorem rel_ok {w adds : Bool} {x : dRel.T} (h : RelG x) (hm : relMay w adds x = true) : rowOk (relP w adds x) = true ∧ relD w adds ((relP w adds x).map (·.1)) = x := relN_ok h hm
theorem rel_back {w adds : Bool} (v : List Int) (hl : v.length = (relW w adds).length) (hU : ∀ x ∈ v, U64 x) (hok : rowOk (v.zip (relW w adds)) = true) : relP w adds (relD w adds v) = v.zip (relW w adds) ∧ RelG (relD w adds v) ∧ relMay w adds (relD w adds v) = true := by
  have p4 : (256 : Int) ^ 4 = 4294967296 := by decide
  cases adds
  · match v, hl with
    | [v0, v1], _ =>
    simp only [List.forall_mem_cons] at hU
    obtain ⟨⟨a0, b0⟩, ⟨a1, b1⟩, -⟩ := hU
    cases w
    · have hok : (fitsB v0 4 && (fitsB v1 4 && true)) = true := hok
      simp only [Bool.and_true, Bool.and_eq_true] at hok
      have f0 := fits_lt 4 hok.1 rfl
      have f1 := fits_lt 4 hok.2 rfl
      have d : 256 * (v1 / 256) + v1 % 256 = v1 := by omega
      refine ⟨?_, show RelN v0 (v1 / 256) (v1 % 256) 0 from ⟨⟨a0, by omega⟩, ⟨by omega, by omega⟩, ⟨by omega, by omega⟩, ⟨by decide, by decide⟩⟩, ?_⟩
      · show [(v0, wd false), (256 * (v1 / 256) + v1 % 256, wd false)] = _
        rw [d]
        rfl
      · show relM false false v0 (v1 / 256) (v1 % 256) 0 = true
        rw [relM_yes ⟨by omega, by omega, by decide, by decide⟩ (Or.inr rfl)]
        exact hok.1
    · have d : 4294967296 * (v1 / 4294967296) + v1 % 4294967296 = v1 := by omega
      refine ⟨?_, show RelN v0 (v1 / 4294967296) (v1 % 4294967296) 0 from ⟨⟨a0, by omega⟩, ⟨by omega, by omega⟩, ⟨by omega, by omega⟩, ⟨by decide, by decide⟩⟩, ?_⟩
      · show [(v0, wd true), (4294967296 * (v1 / 4294967296) + v1 % 4294967296, wd true)] = _
        rw [d]
        rfl
      · exact relM_wide (Or.inr rfl)
  · match v, hl with
    | [v0, v1, v2], _ =>
    simp only [List.forall_mem_cons] at hU
    obtain ⟨⟨a0, b0⟩, ⟨a1, b1⟩, ⟨a2, b2⟩, -⟩ := hU
    cases w
    · have hok : (fitsB v0 4 && (fitsB v1 4 && (fitsB v2 4 && true))) = true := hok
      simp only [Bool.and_true, Bool.and_eq_true] at hok
      have f0 := fits_lt 4 hok.1 rfl
      have f1 := fits_lt 4 hok.2.1 rfl
      have f2 := fits_lt 4 hok.2.2 rfl
      have d : 256 * (v1 / 256) + v1 % 256 = v1 := by omega
      have d2 : IntKind.u64.wrap (addN v2) % 4294967296 = v2 := by unfold addN; rw [wU64]; split <;> omega
      have d3 : -2147483648 ≤ addN v2 ∧ addN v2 ≤ 2147483647 := by unfold addN; split <;> omega
      refine ⟨?_, show RelN v0 (v1 / 256) (v1 % 256) (addN v2) from ⟨⟨a0, by omega⟩, ⟨by omega, by omega⟩, ⟨by omega, by omega⟩, ⟨by omega, by omega⟩⟩, ?_⟩
      · show [(v0, wd false), (256 * (v1 / 256) + v1 % 256, wd false), (IntKind.u64.wrap (addN v2) % 4294967296, wd false)] = _
        rw [d, d2]
        rfl
      · show relM false true v0 (v1 / 256) (v1 % 256) (addN v2) = true
        rw [relM_yes ⟨by omega, by omega, d3.1, d3.2⟩ (Or.inl rfl)]
        exact hok.1
    · have d : 4294967296 * (v1 / 4294967296) + v1 % 4294967296 = v1 := by omega
      have d2 : IntKind.u64.wrap (IntKind.i64.wrap v2) = v2 := by rw [wU64, wI64]; omega
      have d3 : -9223372036854775808 ≤ IntKind.i64.wrap v2 ∧ IntKind.i64.wrap v2 ≤ 9223372036854775807 := by rw [wI64]; omega
      refine ⟨?_, show RelN v0 (v1 / 4294967296) (v1 % 4294967296) (IntKind.i64.wrap v2) from ⟨⟨a0, by omega⟩, ⟨by omega, by omega⟩, ⟨by omega, by omega⟩, d3⟩, ?_⟩
      · show [(v0, wd true), (4294967296 * (v1 / 4294967296) + v1 % 4294967296, wd true), (IntKind.u64.wrap (IntKind.i64.wrap v2), wd true)] = _
        rw [d, d2]
        rfl
      · exact relM_wide (Or.inl rfl)
theorem relG_of {x : dRel.T} (h : dRel.good x) : RelG x := by
  obtain ⟨off, sym, typ, add, _⟩ := x
  obtain ⟨k0, k1, k2, k3, _⟩ := h
  exact ⟨u64_of k0, ⟨(u32_of k1).1.1, (u32_of k1).2⟩, ⟨(u32_of k2).1.1, (u32_of k2).2⟩, i64_of k3⟩
theorem rel_all (w adds big : Bool) {b : List Int} (hB : B b) {N : Nat} (hN : relS w adds = N) (hr : b.length % N = 0) : ∃ G, relsG w adds big b (b.length / N) = G ∧ b.length / N = G.length ∧ recB big (relP w adds) G = b ∧ relOk w adds G = true ∧ ∀ x ∈ G, RelG x := by
  have hs := relW_sum w adds
  rw [hN] at hs
  have hbk : b.length / N * N = b.length := by have := Nat.div_add_mod b.length N; rw [hr, Nat.add_zero, Nat.mul_comm] at this; exact this
  obtain ⟨h1, h2⟩ := rec_get_put (big := big) (P := relP w adds) (dec := relD w adds) hB (relW_wide w adds) hs (fun v hl hU hok => (rel_back v hl hU hok).1) (b.length / N) (Nat.le_of_eq hbk)
  rw [hbk, List.take_length] at h1
  have key : ∀ x ∈ relsG w adds big b (b.length / N), RelG x ∧ relMay w adds x = true := by
    intro x hx
    unfold relsG recG at hx
    obtain ⟨i, hi, rfl⟩ := List.mem_map.1 hx
    have hi := List.mem_range.1 hi
    have hle : i * N + N ≤ b.length := by
      rw [← Nat.succ_mul, ← hbk]
      exact Nat.mul_le_mul_right N hi
    obtain ⟨g1, g2, g3⟩ := put_gets (big := big) hB (relW w adds) (i * N) (relW_wide w adds) (by rw [hs]; omega)
    have e : sumL (relW w adds) * (i : Int) = ((i * N : Nat) : Int) := by rw [hs]; push_cast; exact Int.mul_comm _ _
    rw [e]
    exact (rel_back _ (by cases adds <;> rfl) g3 g1).2
  exact ⟨_, rfl, recG_len.symm, h1, List.all_eq_true.2 fun x hx => (key x hx).2, fun x hx => (key x hx).1⟩
end Go.Proofs.Yteohkpfacjjaeab.PvW

/- What rel's functions yield. No statement of the set is proved in this text. -/
import Derived.Test.YteohkpfacjjaeabPvSpot
import Derived.Test.YteohkpfacjjaeabTdRel
namespace Go.Proofs.Yteohkpfacjjaeab.PvW
open Go.RowKit Go.Proofs.Yteohkpfacjjaeab.Cd Go.Proofs.Yteohkpfacjjaeab.AbP Go.Proofs.Yteohkpfacjjaeab.Num Go.Proofs.Yteohkpfacjjaeab.Pv
set_option maxRecDepth 100000
set_option maxHeartbeats 4000000
set_option linter.unusedVariables false
set_option linter.unusedSimpArgs false
variable {K : PV → List OB → Prop}
abbrev dRel : Ab.D := (.st (.cons (.int .u64) (.cons (.int .u32) (.cons (.int .u32) (.cons (.int .i64) .nil)))))
structure RelN (off sym typ add : Int) : Prop where
  off : 0 ≤ off ∧ off ≤ 18446744073709551615
  sym : 0 ≤ sym ∧ sym ≤ 4294967295
  typ : 0 ≤ typ ∧ typ ≤ 4294967295
  add : -9223372036854775808 ≤ add ∧ add ≤ 9223372036854775807
def RelG (x : dRel.T) : Prop := RelN x.1 x.2.1 x.2.2.1 x.2.2.2.1
abbrev relW (w adds : Bool) : List Int := if adds = true then [wd w, wd w, wd w] else [wd w, wd w]
def relI (w : Bool) (sym typ : Int) : Int := if w = true then 4294967296 * sym + typ else 256 * sym + typ
def relA (w : Bool) (add : Int) : Int := if w = true then IntKind.u64.wrap add else IntKind.u64.wrap add % 4294967296
def relN (w adds : Bool) (off sym typ add : Int) : List (Int × Int) := if adds = true then [(off, wd w), (relI w sym typ, wd w), (relA w add, wd w)] else [(off, wd w), (relI w sym typ, wd w)]
def relP (w adds : Bool) (x : dRel.T) : List (Int × Int) := relN w adds x.1 x.2.1 x.2.2.1 x.2.2.2.1
def relM (w adds : Bool) (off sym typ add : Int) : Bool := (adds || decide (add = 0)) && (w || (fitsB off 4 && decide (sym < 16777216) && decide (typ < 256) && decide (-2147483648 ≤ add ∧ add ≤ 2147483647)))
def relMay (w adds : Bool) (x : dRel.T) : Bool := relM w adds x.1 x.2.1 x.2.2.1 x.2.2.2.1
def relOk (w adds : Bool) (l : List dRel.T) : Bool := l.all (relMay w adds)
theorem relOk_take {w adds : Bool} {l : List dRel.T} {i : Nat} {x : dRel.T} (h : l[i]? = some x) : relOk w adds (l.take (i + 1)) = (relOk w adds (l.take i) && relMay w adds x) := by
  rw [List.take_add_one, h]
  simp [relOk]
theorem relOk_bad {w adds : Bool} {l : List dRel.T} {i : Nat} {x : dRel.T} (h : l[i]? = some x) (hb : relMay w adds x = false) : relOk w adds l = false := by
  cases hr : relOk w adds l with
  | false => rfl
  | true =>
    have := List.all_eq_true.1 hr x (List.mem_of_getElem? h)
    rw [hb] at this
    cases this
theorem relW_wide (w adds : Bool) : ∀ n ∈ relW w adds, wideB n = true := by cases w <;> cases adds <;> decide
theorem relP_snd (w adds : Bool) (x : dRel.T) : (relP w adds x).map (·.2) = relW w adds := by cases adds <;> rfl
def relS (w adds : Bool) : Nat := if w = true then (if adds = true then 24 else 16) else (if adds = true then 12 else 8)
theorem relW_sum (w adds : Bool) : sumL (relW w adds) = relS w adds := by cases w <;> cases adds <;> rfl
theorem relS_le (w adds : Bool) : 8 ≤ relS w adds ∧ relS w adds ≤ 24 := by cases w <;> cases adds <;> decide
theorem relP_len (w adds big : Bool) (x : dRel.T) : (rowB big (relP w adds x)).length = relS w adds := by
  have h := rowB_sum (big := big) (relP w adds x) (fun q hq => relW_wide w adds q.2 (by rw [← relP_snd w adds x]; exact List.mem_map_of_mem hq))
  rw [relP_snd, relW_sum] at h
  exact_mod_cast h
theorem rwordT_spec {b : Bool} (hk : K (.int .i64 8) []) : PCalls Try.prog 68 [.agg [.bool true, .bool b]] [] K := by
  refine told_callP rel_word.told fun Z hZ => ?_
  unfold rel_word.c
  refine W1 trivial trivial trivial ?_
  exact hk
theorem rwordF_spec {b : Bool} (hk : K (.int .i64 4) []) : PCalls Try.prog 68 [.agg [.bool false, .bool b]] [] K := by
  refine told_callP rel_word.told fun Z hZ => ?_
  unfold rel_word.c
  refine W1 trivial trivial trivial ?_
  exact hk
theorem rsize_spec {w b adds : Bool} (hk : K (.int .i64 (relS w adds)) []) : PCalls Try.prog 33 [.agg [.bool w, .bool b], .bool adds] [] K := by
  refine told_callP rel_Size.told fun Z hZ => ?_
  unfold rel_Size.c
  cases w <;> cases adds
  all_goals
    refine W1 trivial trivial (And.intro @rwordT_spec @rwordF_spec) ?_
    exact hk
theorem rmay_spec {w b adds : Bool} {off sym typ add : Int} (hG : Am (RelN off sym typ add)) (hk : K (.bool (relM w adds off sym typ add)) []) :
    PCalls Try.prog 67 [.agg [.int .u64 off, .int .u32 sym, .int .u32 typ, .int .i64 add], .agg [.bool w, .bool b], .bool adds] [] K := by
  obtain ⟨⟨g0, h0⟩, ⟨g1, h1⟩, ⟨g2, h2⟩, ⟨g3, h3⟩⟩ := hG.o
  refine told_callP rel_may.told fun Z hZ => ?_
  unfold rel_may.c
  have e32 : ∀ q : Int, IntKind.i32.wrap q = q ∨ ¬ (-2147483648 ≤ q ∧ q ≤ 2147483647) := by intro q; rw [wI32]; omega
  have hw : -2147483648 ≤ IntKind.i32.wrap add ∧ IntKind.i32.wrap add ≤ 2147483647 := by rw [wI32]; omega
  have hwi : IntKind.i32.wrap add = add ↔ (-2147483648 ≤ add ∧ add ≤ 2147483647) := by rw [wI32]; omega
  by_cases hz : add = 0
  · subst hz
    cases w
    · cases f : fitsB off 4
      · have : relM false adds off sym typ 0 = false := by simp [relM, f]
        rw [this] at hk
        cases adds
        all_goals
          refine W1 @f @DD @fits_spec ?_
          exact hk
      · by_cases hs : sym < 16777216
        · by_cases ht : typ < 256
          · have : relM false adds off sym typ 0 = true := by simp [relM, f, hs, ht]
            rw [this] at hk
            cases adds
            all_goals
              refine W1 @f @DD @fits_spec ?_
              exact hk
          · have : relM false adds off sym typ 0 = false := by simp [relM, ht]
            rw [this] at hk
            cases adds
            all_goals
              refine W1 @f @DD @fits_spec ?_
              exact hk
        · have : relM false adds off sym typ 0 = false := by simp [relM, hs]
          rw [this] at hk
          cases adds
          all_goals
            refine W1 @f @DD @fits_spec ?_
            exact hk
    · have : relM true adds off sym typ 0 = true := by simp [relM]
      rw [this] at hk
      cases adds
      all_goals
        refine W1 trivial @DD trivial ?_
        exact hk
  · cases adds
    · have : relM w false off sym typ add = false := by simp [relM, hz]
      rw [this] at hk
      refine W1 trivial @DD trivial ?_
      exact hk
    · cases w
      · cases f : fitsB off 4
        · have : relM false true off sym typ add = false := by simp [relM, f]
          rw [this] at hk
          refine W1 @f @DD @fits_spec ?_
          exact hk
        · by_cases hs : sym < 16777216
          · by_cases ht : typ < 256
            · by_cases ha : -2147483648 ≤ add ∧ add ≤ 2147483647
              · have : relM false true off sym typ add = true := by simp [relM, f, hs, ht, ha]
                rw [this] at hk
                have ha2 := hwi.2 ha
                refine W1 @f (And.intro @DD @ha2) @fits_spec ?_
                exact hk
              · have : relM false true off sym typ add = false := by simp [relM, ha]
                rw [this] at hk
                have ha2 := fun h => ha (hwi.1 h)
                refine W1 @f @DD @fits_spec ?_
                exact hk
            · have : relM false true off sym typ add = false := by simp [relM, ht]
              rw [this] at hk
              refine W1 @f @DD @fits_spec ?_
              exact hk
          · have : relM false true off sym typ add = false := by simp [relM, hs]
            rw [this] at hk
            refine W1 @f @DD @fits_spec ?_
            exact hk
      · have : relM true true off sym typ add = true := by simp [relM]
        rw [this] at hk
        refine W1 trivial @DD trivial ?_
        exact hk
theorem nar_cases (sym typ add : Int) : (¬ sym < 16777216) ∨ (sym < 16777216 ∧ ¬ typ < 256) ∨ (sym < 16777216 ∧ typ < 256 ∧ ¬ -2147483648 ≤ add) ∨ (sym < 16777216 ∧ typ < 256 ∧ -2147483648 ≤ add ∧ ¬ add ≤ 2147483647) ∨ (sym < 16777216 ∧ typ < 256 ∧ -2147483648 ≤ add ∧ add ≤ 2147483647) := by omega
theorem relM_not {adds : Bool} {off sym typ add : Int} (h : ¬ (sym < 16777216 ∧ typ < 256 ∧ -2147483648 ≤ add ∧ add ≤ 2147483647)) : relM false adds off sym typ add = false := by
  cases hr : relM false adds off sym typ add with
  | false => rfl
  | true =>
    simp only [relM, Bool.false_or, Bool.and_eq_true, decide_eq_true_eq] at hr
    exact absurd ⟨hr.2.1.1.2, hr.2.1.2, hr.2.2.1, hr.2.2.2⟩ h
theorem relM_yes {adds : Bool} {off sym typ add : Int} (h : sym < 16777216 ∧ typ < 256 ∧ -2147483648 ≤ add ∧ add ≤ 2147483647) (hz : adds = true ∨ add = 0) : relM false adds off sym typ add = fitsB off 4 := by
  obtain ⟨h1, h2, h3, h4⟩ := h
  rcases hz with rfl | rfl <;> simp [relM, h1, h2, h3, h4]
theorem relM_wide {adds : Bool} {off sym typ add : Int} (hz : adds = true ∨ add = 0) : relM true adds off sym typ add = true := by
  rcases hz with rfl | rfl <;> simp [relM]
theorem relM_zero {w : Bool} {off sym typ add : Int} (hz : ¬ add = 0) : relM w false off sym typ add = false := by simp [relM, hz]
theorem fit8 {x : Int} (h : x ≤ 18446744073709551615) : fitsB x 8 = true := fitsn (m := 8) rfl rfl (by have : (256 : Int) ^ 8 = 18446744073709551616 := by decide
                                                                                                       omega)
theorem fit4 {x : Int} (h : x ≤ 4294967295) : fitsB x 4 = true := fitsn (m := 4) rfl rfl (by have : (256 : Int) ^ 4 = 4294967296 := by decide
                                                                                             omega)
theorem fitI4 {sym typ : Int} (h1 : sym < 16777216) (h2 : typ < 256) : fitsB (relI false sym typ) (wd false) = true := fit4 (show 256 * sym + typ ≤ _ by omega)
theorem fitI8 {sym typ : Int} (h1 : sym ≤ 4294967295) (h2 : typ ≤ 4294967295) : fitsB (relI true sym typ) (wd true) = true := fit8 (show 4294967296 * sym + typ ≤ _ by omega)
theorem fitA4 (add : Int) : fitsB (relA false add) (wd false) = true := fit4 (show IntKind.u64.wrap add % 4294967296 ≤ _ by omega)
theorem relsB_le {w adds big : Bool} (l : List dRel.T) {i : Nat} (h : l.length ≤ 100000) : (recB big (relP w adds) (l.take i)).length ≤ 2400000 := by
  rw [recB_len (relP_len w adds big), List.length_take]
  refine Nat.le_trans (Nat.mul_le_mul (Nat.le_trans (Nat.min_le_right _ _) h) (relS_le w adds).2) ?_
  decide
theorem u64w (a : Int) : 0 ≤ IntKind.u64.wrap a ∧ IntKind.u64.wrap a ≤ 18446744073709551615 := by rw [wU64]; omega
theorem putA (a : Int) (big : Bool) : putSpec (IntKind.u64.wrap a % 4294967296) 4 big = putSpec (IntKind.u64.wrap a) 4 big := putSpec_mod 4294967296 (by decide)
theorem relM_narrow {off sym typ add : Int} {adds : Bool} (h : relM false adds off sym typ add = true) : sym < 16777216 ∧ typ < 256 := by
  simp only [relM, Bool.false_or, Bool.and_eq_true, decide_eq_true_eq] at h
  exact ⟨h.2.1.1.2, h.2.1.2⟩
theorem eput_spec {w big adds : Bool} {l : List dRel.T} (hG : Am (∀ x ∈ l, RelG x)) (hm : Om (l.length ≤ 100000))
    (hk1 : relOk w adds l = true → K (.tup [.osl 0 (recB big (relP w adds) l).length, .nilI]) [.arr (.int .u8) (recB big (relP w adds) l)])
    (hk2 : relOk w adds l = false → K (.tup [.nilS, eCode 1]) []) :
    PCalls Try.prog 26 [.sl dRel l, .agg [.bool w, .bool big], .bool adds] [] K := by
  have hG := hG.o
  have hm := hm.o
  refine told_callP rel_Put.told fun Z hZ => ?_
  unfold rel_Put.c
  refine W1 trivial trivial (@xVirt 8 (.int .u8)) ?_
  refine w_lpG (fun q e s => ∃ i : Nat, q + i = l.length ∧ relOk w adds (l.take i) = true ∧ s = [.var [.bool w, .bool big], .arr (.int .u8) (recB big (relP w adds) (l.take i))] ∧ e 2 = .bool adds ∧ e 4 = .ptr 0 0 ∧ e 8 = .osl 1 (recB big (relP w adds) (l.take i)).length ∧ e 12 = .sl dRel l ∧ e 13 = .int .i64 l.length ∧ e 14 = .int .i64 i) l.length ?_ ?_
  · exact ⟨0, rfl, rfl, rfl, by exact lk trivial, by exact lk trivial, by exact lk trivial, by exact lk trivial, by exact lk trivial, by exact lk trivial⟩
  rintro q e s ⟨i, hi, hok, rfl, e2, e4, e8, e12, e13, e14⟩
  have hlen2 := relsB_le (w := w) (adds := adds) (big := big) l (i := i) hm
  by_cases hq : i < l.length
  · obtain ⟨x, hx⟩ : ∃ x, l[i]? = some x := ⟨l[i], by simp [hq]⟩
    have ht := recB_take (big := big) (P := relP w adds) hx
    have hto := relOk_take (w := w) (adds := adds) hx
    have hg : RelG x := hG x (List.mem_of_getElem? hx)
    have hb := relOk_bad (w := w) (adds := adds) hx
    rw [hok] at hto
    obtain ⟨off, sym, typ, add, ⟨⟩⟩ := x
    change RelN off sym typ add at hg
    obtain ⟨⟨g0, h0⟩, ⟨g1, h1⟩, ⟨g2, h2⟩, ⟨g3, h3⟩⟩ := id hg
    change relOk w adds (l.take (i + 1)) = (true && relM w adds off sym typ add) at hto
    change relM w adds off sym typ add = false → _ at hb
    have l0 := putSpec_le off 8 big
    have l1 := putSpec_le (4294967296 * sym + typ) 8 big
    have l2 := putSpec_le (IntKind.u64.wrap add) 8 big
    have l3 := putSpec_le off 4 big
    have l4 := putSpec_le (256 * sym + typ) 4 big
    have l5 := putSpec_le (IntKind.u64.wrap add) 4 big
    have hu := u64w add
    have rT3 : rowB big (relN true true off sym typ add) = putSpec off 8 big ++ putSpec (4294967296 * sym + typ) 8 big ++ putSpec (IntKind.u64.wrap add) 8 big := by simp [rowB, relN, relI, relA, wd]
    have rT2 : rowB big (relN true false off sym typ add) = putSpec off 8 big ++ putSpec (4294967296 * sym + typ) 8 big := by simp [rowB, relN, relI, relA, wd]
    have rF3 : rowB big (relN false true off sym typ add) = putSpec off 4 big ++ putSpec (256 * sym + typ) 4 big ++ putSpec (IntKind.u64.wrap add) 4 big := by simp [rowB, relN, relI, relA, wd, putA]
    have rF2 : rowB big (relN false false off sym typ add) = putSpec off 4 big ++ putSpec (256 * sym + typ) 4 big := by simp [rowB, relN, relI, relA, wd]
    change recB big (relP w adds) (l.take (i + 1)) = recB big (relP w adds) (l.take i) ++ rowB big (relN w adds off sym typ add) at ht
    cases hmay : relM w adds off sym typ add
    · refine W1 (And.intro @e2 (And.intro @e4 (And.intro @e8 (And.intro @e12 (And.intro @e13 (And.intro @e14 @hmay)))))) @DD @rmay_spec ?_
      exact hk2 (hb hmay)
    · rw [hmay] at hto
      cases w
      · obtain ⟨hs, ht2⟩ := relM_narrow hmay
        have hor := or_8 (x := sym) (y := typ) g1 (by omega) g2 (by omega)
        cases adds
        · rw [rF2] at ht
          refine W1 (And.intro @e2 (And.intro @e4 (And.intro @e8 (And.intro @e12 (And.intro @e13 (And.intro @e14 @hmay)))))) (And.intro @DD (And.intro @shl_8 @hor)) (And.intro @rmay_spec (And.intro @rwordF_spec @put_spec)) ?_
          exact ⟨q - 1, by omega, _, _, Gh.sel [0, 1] (by decide) (hz0 hZ), i + 1, by omega, by rw [hto]; rfl, by rw [ht]; simp only [← List.append_assoc]; rfl, by exact lk @e2, by exact lk @e4, by rw [ht]; simp only [List.length_append, ← List.append_assoc]; exact lk trivial, by exact lk @e12, by exact lk @e13, by exact lk @e14⟩
        · rw [rF3] at ht
          refine W1 (And.intro @e2 (And.intro @e4 (And.intro @e8 (And.intro @e12 (And.intro @e13 (And.intro @e14 @hmay)))))) (And.intro @DD (And.intro @shl_8 @hor)) (And.intro @rmay_spec (And.intro @rwordF_spec @put_spec)) ?_
          exact ⟨q - 1, by omega, _, _, Gh.sel [0, 1] (by decide) (hz0 hZ), i + 1, by omega, by rw [hto]; rfl, by rw [ht]; simp only [← List.append_assoc]; rfl, by exact lk @e2, by exact lk @e4, by rw [ht]; simp only [List.length_append, ← List.append_assoc]; exact lk trivial, by exact lk @e12, by exact lk @e13, by exact lk @e14⟩
      · cases adds
        · rw [rT2] at ht
          refine W1 (And.intro @e2 (And.intro @e4 (And.intro @e8 (And.intro @e12 (And.intro @e13 (And.intro @e14 @hmay)))))) (And.intro @DD (And.intro @shl_8 (And.intro @shl_32 @or_32))) (And.intro @rmay_spec (And.intro @rwordT_spec @put_spec)) ?_
          exact ⟨q - 1, by omega, _, _, Gh.sel [0, 1] (by decide) (hz0 hZ), i + 1, by omega, by rw [hto]; rfl, by rw [ht]; simp only [← List.append_assoc]; rfl, by exact lk @e2, by exact lk @e4, by rw [ht]; simp only [List.length_append, ← List.append_assoc]; exact lk trivial, by exact lk @e12, by exact lk @e13, by exact lk @e14⟩
        · rw [rT3] at ht
          refine W1 (And.intro @e2 (And.intro @e4 (And.intro @e8 (And.intro @e12 (And.intro @e13 (And.intro @e14 @hmay)))))) (And.intro @DD (And.intro @shl_8 (And.intro @shl_32 @or_32))) (And.intro @rmay_spec (And.intro @rwordT_spec @put_spec)) ?_
          exact ⟨q - 1, by omega, _, _, Gh.sel [0, 1] (by decide) (hz0 hZ), i + 1, by omega, by rw [hto]; rfl, by rw [ht]; simp only [← List.append_assoc]; rfl, by exact lk @e2, by exact lk @e4, by rw [ht]; simp only [List.length_append, ← List.append_assoc]; exact lk trivial, by exact lk @e12, by exact lk @e13, by exact lk @e14⟩
  · obtain rfl : i = l.length := by omega
    rw [List.take_length] at hok hlen2 e8 ⊢
    refine W1 (And.intro @e2 (And.intro @e4 (And.intro @e8 (And.intro @e12 (And.intro @e13 @e14))))) @DD trivial ?_
    exact hk1 hok
end Go.Proofs.Yteohkpfacjjaeab.PvW

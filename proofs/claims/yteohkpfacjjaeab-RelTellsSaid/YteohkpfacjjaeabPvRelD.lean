/- What the document's answer for relocations' bytes yields. No statement of the set is proved in this text. -/
import Derived.Test.YteohkpfacjjaeabPvRelC
namespace Go.Proofs.Yteohkpfacjjaeab.PvW
open Go.RowKit Go.Proofs.Yteohkpfacjjaeab.Cd Go.Proofs.Yteohkpfacjjaeab.AbP Go.Proofs.Yteohkpfacjjaeab.Num Go.Proofs.Yteohkpfacjjaeab.Pv
set_option maxRecDepth 100000
set_option maxHeartbeats 4000000
set_option linter.unusedVariables false
set_option linter.unusedSimpArgs false
variable {K : PV → List OB → Prop}
theorem eputs_spec {w big adds : Bool} {l : List dRel.T} (hG : Am (∀ x ∈ l, RelG x)) (hm : Om (l.length ≤ 100000))
    (hk1 : relOk w adds l = true → K (.tup [.osl 0 (recB big (relP w adds) l).length, .bool true]) [.arr (.int .u8) (recB big (relP w adds) l)])
    (hk2 : relOk w adds l = false → K (.tup [.nilS, .bool false]) []) :
    PCalls Try.prog 27 [.sl dRel l, .agg [.bool w, .bool big], .bool adds] [] K := by
  have hG := hG.o
  have hm := hm.o
  refine told_callP bezantref04_PutRels.told fun Z hZ => ?_
  unfold bezantref04_PutRels.c
  refine W1 trivial trivial (@xVirt 8 (.int .u8)) ?_
  refine w_lpG (fun q e s => ∃ i : Nat, q + i = l.length ∧ relOk w adds (l.take i) = true ∧ s = [.var [.bool w, .bool big], .arr (.int .u8) (recB big (relP w adds) (l.take i))] ∧ e 0 = .sl dRel l ∧ e 2 = .bool adds ∧ e 4 = .ptr 0 0 ∧ e 8 = .osl 1 (recB big (relP w adds) (l.take i)).length ∧ e 9 = .int .i64 i) l.length ?_ ?_
  · exact ⟨0, rfl, rfl, rfl, by exact lk trivial, by exact lk trivial, by exact lk trivial, by exact lk trivial, by exact lk trivial⟩
  rintro q e s ⟨i, hi, hok, rfl, e0, e2, e4, e8, e9⟩
  have hlen2 := relsB_le (w := w) (adds := adds) (big := big) l (i := i) hm
  by_cases hq : i < l.length
  · obtain ⟨x, hx⟩ : ∃ x, l[i]? = some x := ⟨l[i], by simp [hq]⟩
    have ht := recB_take (big := big) (P := relP w adds) hx
    have hto := relOk_take (w := w) (adds := adds) hx
    have hg : RelG x := hG x (List.mem_of_getElem? hx)
    have hb := relOk_bad (w := w) (adds := adds) hx
    have hxl := relP_len w adds big x
    have hxl2 := (relS_le w adds).2
    rw [← hxl] at hxl2
    clear hxl
    rw [hok] at hto
    obtain ⟨off, sym, typ, add, ⟨⟩⟩ := x
    change RelN off sym typ add at hg
    obtain ⟨⟨g0, h0⟩, ⟨g1, h1⟩, ⟨g2, h2⟩, ⟨g3, h3⟩⟩ := id hg
    change relOk w adds (l.take (i + 1)) = (true && relM w adds off sym typ add) at hto
    change relM w adds off sym typ add = false → _ at hb
    change (rowB big (relN w adds off sym typ add)).length ≤ 24 at hxl2
    have hu := u64w add
    change recB big (relP w adds) (l.take (i + 1)) = recB big (relP w adds) (l.take i) ++ rowB big (relN w adds off sym typ add) at ht
    have hG0 : ∀ a b c : Int, U64 a → U64 b → U64 c → ∀ x ∈ [a, b, c], U64 x := fun a b c h1 h2 h3 => by simp only [List.forall_mem_cons]; exact ⟨h1, h2, h3, fun _ h => by cases h⟩
    have hG2 : ∀ a b : Int, U64 a → U64 b → ∀ x ∈ [a, b], U64 x := fun a b h1 h2 => by simp only [List.forall_mem_cons]; exact ⟨h1, h2, fun _ h => by cases h⟩
    have p8 : (256 : Int) ^ 8 = 18446744073709551616 := by decide
    have p4 : (256 : Int) ^ 4 = 4294967296 := by decide
    cases adds
    · by_cases hz : @Eq Int add 0
      rotate_left
      · have hbad := hb (relM_zero hz)
        rcases nar_cases sym typ add with n | ⟨n1, n⟩ | ⟨n1, n2, n⟩ | ⟨n1, n2, n3, n⟩ | ⟨n1, n2, n3, n⟩
        all_goals
          refine W1 (And.intro @e0 (And.intro @e2 (And.intro @e4 (And.intro @e8 @e9)))) @DD trivial ?_
          exact hk2 hbad
      rcases nar_cases sym typ add with n | ⟨n1, n⟩ | ⟨n1, n2, n⟩ | ⟨n1, n2, n3, n⟩ | ⟨n1, n2, n3, n⟩
      rotate_right
      · cases w
        · have hM := relM_yes (adds := false) (off := off) ⟨n1, n2, n3, n⟩ (Or.inr hz)
          have hrow : rowOk (relN false false off sym typ add) = fitsB off 4 := by
            have q1 : fitsB (relI false sym typ) (wd false) = true := fitI4 n1 n2
            have q2 := trivial
            simp only [relN, rowOk, ↓reduceIte, Bool.false_eq_true, List.all_cons, List.all_nil, q1, q2, Bool.and_true]
            rfl
          cases hf : fitsB off 4
          · rw [hf] at hM hrow
            refine W1 (And.intro @e0 (And.intro @e2 (And.intro @e4 (And.intro @e8 @e9)))) (And.intro @DD @rem_c) @erow_spec ?_
            refine slG_row (D' := .int .u64) (l := [off, 256 * sym + typ, add % 4294967296]) rfl rfl rfl rfl rfl (g := 2) (by exact lk trivial) (by decide) (show _ ≤ (3 : Int) by decide) rfl rfl ?_
            refine W1 (And.intro @e0 (And.intro @e2 (And.intro @e4 (And.intro @e8 @e9)))) (And.intro @DD @rem_c) @erow_spec ?_
            refine row_spec (l := [off, 256 * sym + typ]) (ns := relW false false) ⟨hG2 _ _ ⟨g0, h0⟩ ⟨by omega, by omega⟩⟩ ⟨relW_wide false false⟩ ⟨Nat.le_refl _⟩ ⟨by show 2 ≤ 1000; decide⟩ ?_
            have hzp : ([off, 256 * sym + typ]).zip (relW false false) = relN false false off sym typ add := rfl
            rw [hzp]
            rw [hrow]
            refine W1 (And.intro @e0 (And.intro @e2 (And.intro @e4 (And.intro @e8 @e9)))) @DD trivial ?_
            exact hk2 (hb hM)
          · rw [hf] at hM hrow
            refine W1 (And.intro @e0 (And.intro @e2 (And.intro @e4 (And.intro @e8 @e9)))) (And.intro @DD @rem_c) @erow_spec ?_
            refine slG_row (D' := .int .u64) (l := [off, 256 * sym + typ, add % 4294967296]) rfl rfl rfl rfl rfl (g := 2) (by exact lk trivial) (by decide) (show _ ≤ (3 : Int) by decide) rfl rfl ?_
            refine W1 (And.intro @e0 (And.intro @e2 (And.intro @e4 (And.intro @e8 @e9)))) (And.intro @DD @rem_c) @erow_spec ?_
            refine row_spec (l := [off, 256 * sym + typ]) (ns := relW false false) ⟨hG2 _ _ ⟨g0, h0⟩ ⟨by omega, by omega⟩⟩ ⟨relW_wide false false⟩ ⟨Nat.le_refl _⟩ ⟨by show 2 ≤ 1000; decide⟩ ?_
            have hzp : ([off, 256 * sym + typ]).zip (relW false false) = relN false false off sym typ add := rfl
            rw [hzp]
            rw [hrow]
            refine W1 (And.intro @e0 (And.intro @e2 (And.intro @e4 (And.intro @e8 @e9)))) @DD trivial ?_
            exact ⟨q - 1, by omega, _, _, Gh.sel [0, 1] (by decide) (hz0 hZ), i + 1, by omega, by rw [hto, hM]; rfl, by rw [ht]; rfl, by exact lk @e0, by exact lk @e2, by exact lk @e4, by rw [ht, List.length_append]; exact lk trivial, by exact lk @e9⟩
        · have hM := relM_wide (adds := false) (off := off) (sym := sym) (typ := typ) (add := add) (Or.inr hz)
          have hrow : rowOk (relN true false off sym typ add) = true := by
            have q0 : fitsB off (wd true) = true := fit8 h0
            have q1 : fitsB (relI true sym typ) (wd true) = true := fitI8 h1 h2
            have q2 := trivial
            simp only [relN, rowOk, ↓reduceIte, Bool.false_eq_true, List.all_cons, List.all_nil, q0, q1, q2, Bool.and_true]
          refine W1 (And.intro @e0 (And.intro @e2 (And.intro @e4 (And.intro @e8 @e9)))) (And.intro @DD @rem_c) @erow_spec ?_
          refine slG_row (D' := .int .u64) (l := [off, 4294967296 * sym + typ, add]) rfl rfl rfl rfl rfl (g := 2) (by exact lk trivial) (by decide) (show _ ≤ (3 : Int) by decide) rfl rfl ?_
          refine W1 (And.intro @e0 (And.intro @e2 (And.intro @e4 (And.intro @e8 @e9)))) (And.intro @DD @rem_c) @erow_spec ?_
          refine row_spec (l := [off, 4294967296 * sym + typ]) (ns := relW true false) ⟨hG2 _ _ ⟨g0, h0⟩ ⟨by omega, by omega⟩⟩ ⟨relW_wide true false⟩ ⟨Nat.le_refl _⟩ ⟨by show 2 ≤ 1000; decide⟩ ?_
          have hzp : ([off, 4294967296 * sym + typ]).zip (relW true false) = relN true false off sym typ add := rfl
          rw [hzp]
          rw [hrow]
          refine W1 (And.intro @e0 (And.intro @e2 (And.intro @e4 (And.intro @e8 @e9)))) @DD trivial ?_
          exact ⟨q - 1, by omega, _, _, Gh.sel [0, 1] (by decide) (hz0 hZ), i + 1, by omega, by rw [hto, hM]; rfl, by rw [ht]; rfl, by exact lk @e0, by exact lk @e2, by exact lk @e4, by rw [ht, List.length_append]; exact lk trivial, by exact lk @e9⟩
      all_goals try (exfalso; omega; done)
      all_goals
        cases w
        · refine W1 (And.intro @e0 (And.intro @e2 (And.intro @e4 (And.intro @e8 @e9)))) @DD trivial ?_
          exact hk2 (hb (relM_not (by omega)))
        · have hM := relM_wide (adds := false) (off := off) (sym := sym) (typ := typ) (add := add) (Or.inr hz)
          have hrow : rowOk (relN true false off sym typ add) = true := by
            have q0 : fitsB off (wd true) = true := fit8 h0
            have q1 : fitsB (relI true sym typ) (wd true) = true := fitI8 h1 h2
            have q2 := trivial
            simp only [relN, rowOk, ↓reduceIte, Bool.false_eq_true, List.all_cons, List.all_nil, q0, q1, q2, Bool.and_true]
          refine W1 (And.intro @e0 (And.intro @e2 (And.intro @e4 (And.intro @e8 @e9)))) (And.intro @DD @rem_c) @erow_spec ?_
          refine slG_row (D' := .int .u64) (l := [off, 4294967296 * sym + typ, add]) rfl rfl rfl rfl rfl (g := 2) (by exact lk trivial) (by decide) (show _ ≤ (3 : Int) by decide) rfl rfl ?_
          refine W1 (And.intro @e0 (And.intro @e2 (And.intro @e4 (And.intro @e8 @e9)))) (And.intro @DD @rem_c) @erow_spec ?_
          refine row_spec (l := [off, 4294967296 * sym + typ]) (ns := relW true false) ⟨hG2 _ _ ⟨g0, h0⟩ ⟨by omega, by omega⟩⟩ ⟨relW_wide true false⟩ ⟨Nat.le_refl _⟩ ⟨by show 2 ≤ 1000; decide⟩ ?_
          have hzp : ([off, 4294967296 * sym + typ]).zip (relW true false) = relN true false off sym typ add := rfl
          rw [hzp]
          rw [hrow]
          refine W1 (And.intro @e0 (And.intro @e2 (And.intro @e4 (And.intro @e8 @e9)))) @DD trivial ?_
          exact ⟨q - 1, by omega, _, _, Gh.sel [0, 1] (by decide) (hz0 hZ), i + 1, by omega, by rw [hto, hM]; rfl, by rw [ht]; rfl, by exact lk @e0, by exact lk @e2, by exact lk @e4, by rw [ht, List.length_append]; exact lk trivial, by exact lk @e9⟩
    · have hz := trivial
      rcases nar_cases sym typ add with n | ⟨n1, n⟩ | ⟨n1, n2, n⟩ | ⟨n1, n2, n3, n⟩ | ⟨n1, n2, n3, n⟩
      rotate_right
      · cases w
        · have hM := relM_yes (adds := true) (off := off) ⟨n1, n2, n3, n⟩ (Or.inl rfl)
          have hrow : rowOk (relN false true off sym typ add) = fitsB off 4 := by
            have q1 : fitsB (relI false sym typ) (wd false) = true := fitI4 n1 n2
            have q2 : fitsB (relA false add) (wd false) = true := fitA4 add
            simp only [relN, rowOk, ↓reduceIte, Bool.false_eq_true, List.all_cons, List.all_nil, q1, q2, Bool.and_true]
            rfl
          cases hf : fitsB off 4
          · rw [hf] at hM hrow
            refine W1 (And.intro @e0 (And.intro @e2 (And.intro @e4 (And.intro @e8 @e9)))) (And.intro @DD @rem_c) @erow_spec ?_
            refine slG_row (D' := .int .u64) (l := [off, 256 * sym + typ, IntKind.u64.wrap add % 4294967296]) rfl rfl rfl rfl rfl (g := 3) (by exact lk trivial) (by decide) (show _ ≤ (3 : Int) by decide) rfl rfl ?_
            refine W1 (And.intro @e0 (And.intro @e2 (And.intro @e4 (And.intro @e8 @e9)))) (And.intro @DD @rem_c) @erow_spec ?_
            refine row_spec (l := [off, 256 * sym + typ, IntKind.u64.wrap add % 4294967296]) (ns := relW false true) ⟨hG0 _ _ _ ⟨g0, h0⟩ ⟨by omega, by omega⟩ ⟨by omega, by omega⟩⟩ ⟨relW_wide false true⟩ ⟨Nat.le_refl _⟩ ⟨by show 3 ≤ 1000; decide⟩ ?_
            have hzp : ([off, 256 * sym + typ, IntKind.u64.wrap add % 4294967296]).zip (relW false true) = relN false true off sym typ add := rfl
            rw [hzp]
            rw [hrow]
            refine W1 (And.intro @e0 (And.intro @e2 (And.intro @e4 (And.intro @e8 @e9)))) @DD trivial ?_
            exact hk2 (hb hM)
          · rw [hf] at hM hrow
            refine W1 (And.intro @e0 (And.intro @e2 (And.intro @e4 (And.intro @e8 @e9)))) (And.intro @DD @rem_c) @erow_spec ?_
            refine slG_row (D' := .int .u64) (l := [off, 256 * sym + typ, IntKind.u64.wrap add % 4294967296]) rfl rfl rfl rfl rfl (g := 3) (by exact lk trivial) (by decide) (show _ ≤ (3 : Int) by decide) rfl rfl ?_
            refine W1 (And.intro @e0 (And.intro @e2 (And.intro @e4 (And.intro @e8 @e9)))) (And.intro @DD @rem_c) @erow_spec ?_
            refine row_spec (l := [off, 256 * sym + typ, IntKind.u64.wrap add % 4294967296]) (ns := relW false true) ⟨hG0 _ _ _ ⟨g0, h0⟩ ⟨by omega, by omega⟩ ⟨by omega, by omega⟩⟩ ⟨relW_wide false true⟩ ⟨Nat.le_refl _⟩ ⟨by show 3 ≤ 1000; decide⟩ ?_
            have hzp : ([off, 256 * sym + typ, IntKind.u64.wrap add % 4294967296]).zip (relW false true) = relN false true off sym typ add := rfl
            rw [hzp]
            rw [hrow]
            refine W1 (And.intro @e0 (And.intro @e2 (And.intro @e4 (And.intro @e8 @e9)))) @DD trivial ?_
            exact ⟨q - 1, by omega, _, _, Gh.sel [0, 1] (by decide) (hz0 hZ), i + 1, by omega, by rw [hto, hM]; rfl, by rw [ht]; rfl, by exact lk @e0, by exact lk @e2, by exact lk @e4, by rw [ht, List.length_append]; exact lk trivial, by exact lk @e9⟩
        · have hM := relM_wide (adds := true) (off := off) (sym := sym) (typ := typ) (add := add) (Or.inl rfl)
          have hrow : rowOk (relN true true off sym typ add) = true := by
            have q0 : fitsB off (wd true) = true := fit8 h0
            have q1 : fitsB (relI true sym typ) (wd true) = true := fitI8 h1 h2
            have q2 : fitsB (relA true add) (wd true) = true := fit8 hu.2
            simp only [relN, rowOk, ↓reduceIte, Bool.false_eq_true, List.all_cons, List.all_nil, q0, q1, q2, Bool.and_true]
          refine W1 (And.intro @e0 (And.intro @e2 (And.intro @e4 (And.intro @e8 @e9)))) (And.intro @DD @rem_c) @erow_spec ?_
          refine slG_row (D' := .int .u64) (l := [off, 4294967296 * sym + typ, IntKind.u64.wrap add]) rfl rfl rfl rfl rfl (g := 3) (by exact lk trivial) (by decide) (show _ ≤ (3 : Int) by decide) rfl rfl ?_
          refine W1 (And.intro @e0 (And.intro @e2 (And.intro @e4 (And.intro @e8 @e9)))) (And.intro @DD @rem_c) @erow_spec ?_
          refine row_spec (l := [off, 4294967296 * sym + typ, IntKind.u64.wrap add]) (ns := relW true true) ⟨hG0 _ _ _ ⟨g0, h0⟩ ⟨by omega, by omega⟩ ⟨by omega, by omega⟩⟩ ⟨relW_wide true true⟩ ⟨Nat.le_refl _⟩ ⟨by show 3 ≤ 1000; decide⟩ ?_
          have hzp : ([off, 4294967296 * sym + typ, IntKind.u64.wrap add]).zip (relW true true) = relN true true off sym typ add := rfl
          rw [hzp]
          rw [hrow]
          refine W1 (And.intro @e0 (And.intro @e2 (And.intro @e4 (And.intro @e8 @e9)))) @DD trivial ?_
          exact ⟨q - 1, by omega, _, _, Gh.sel [0, 1] (by decide) (hz0 hZ), i + 1, by omega, by rw [hto, hM]; rfl, by rw [ht]; rfl, by exact lk @e0, by exact lk @e2, by exact lk @e4, by rw [ht, List.length_append]; exact lk trivial, by exact lk @e9⟩
      rotate_right
      · cases w
        · refine W1 (And.intro @e0 (And.intro @e2 (And.intro @e4 (And.intro @e8 @e9)))) @DD trivial ?_
          exact hk2 (hb (relM_not (by omega)))
        · have hM := relM_wide (adds := true) (off := off) (sym := sym) (typ := typ) (add := add) (Or.inl rfl)
          have hrow : rowOk (relN true true off sym typ add) = true := by
            have q0 : fitsB off (wd true) = true := fit8 h0
            have q1 : fitsB (relI true sym typ) (wd true) = true := fitI8 h1 h2
            have q2 : fitsB (relA true add) (wd true) = true := fit8 hu.2
            simp only [relN, rowOk, ↓reduceIte, Bool.false_eq_true, List.all_cons, List.all_nil, q0, q1, q2, Bool.and_true]
          refine W1 (And.intro @e0 (And.intro @e2 (And.intro @e4 (And.intro @e8 @e9)))) (And.intro @DD @rem_c) @erow_spec ?_
          refine slG_row (D' := .int .u64) (l := [off, 4294967296 * sym + typ, add]) rfl rfl rfl rfl rfl (g := 3) (by exact lk trivial) (by decide) (show _ ≤ (3 : Int) by decide) rfl rfl ?_
          refine W1 (And.intro @e0 (And.intro @e2 (And.intro @e4 (And.intro @e8 @e9)))) (And.intro @DD @rem_c) @erow_spec ?_
          refine row_spec (l := [off, 4294967296 * sym + typ, add]) (ns := relW true true) ⟨hG0 _ _ _ ⟨g0, h0⟩ ⟨by omega, by omega⟩ ⟨by omega, by omega⟩⟩ ⟨relW_wide true true⟩ ⟨Nat.le_refl _⟩ ⟨by show 3 ≤ 1000; decide⟩ ?_
          have hzp : ([off, 4294967296 * sym + typ, add]).zip (relW true true) = relN true true off sym typ add := by
            show _ = [(off, wd true), (4294967296 * sym + typ, wd true), (IntKind.u64.wrap add, wd true)]
            rw [show IntKind.u64.wrap add = add from uw (by omega) (by omega)]
            rfl
          rw [hzp]
          rw [hrow]
          refine W1 (And.intro @e0 (And.intro @e2 (And.intro @e4 (And.intro @e8 @e9)))) @DD trivial ?_
          exact ⟨q - 1, by omega, _, _, Gh.sel [0, 1] (by decide) (hz0 hZ), i + 1, by omega, by rw [hto, hM]; rfl, by rw [ht]; rfl, by exact lk @e0, by exact lk @e2, by exact lk @e4, by rw [ht, List.length_append]; exact lk trivial, by exact lk @e9⟩
      all_goals
        cases w
        · refine W1 (And.intro @e0 (And.intro @e2 (And.intro @e4 (And.intro @e8 @e9)))) @DD trivial ?_
          exact hk2 (hb (relM_not (by omega)))
        · have hM := relM_wide (adds := true) (off := off) (sym := sym) (typ := typ) (add := add) (Or.inl rfl)
          have hrow : rowOk (relN true true off sym typ add) = true := by
            have q0 : fitsB off (wd true) = true := fit8 h0
            have q1 : fitsB (relI true sym typ) (wd true) = true := fitI8 h1 h2
            have q2 : fitsB (relA true add) (wd true) = true := fit8 hu.2
            simp only [relN, rowOk, ↓reduceIte, Bool.false_eq_true, List.all_cons, List.all_nil, q0, q1, q2, Bool.and_true]
          refine W1 (And.intro @e0 (And.intro @e2 (And.intro @e4 (And.intro @e8 @e9)))) (And.intro @DD @rem_c) @erow_spec ?_
          refine slG_row (D' := .int .u64) (l := [off, 4294967296 * sym + typ, IntKind.u64.wrap add]) rfl rfl rfl rfl rfl (g := 3) (by exact lk trivial) (by decide) (show _ ≤ (3 : Int) by decide) rfl rfl ?_
          refine W1 (And.intro @e0 (And.intro @e2 (And.intro @e4 (And.intro @e8 @e9)))) (And.intro @DD @rem_c) @erow_spec ?_
          refine row_spec (l := [off, 4294967296 * sym + typ, IntKind.u64.wrap add]) (ns := relW true true) ⟨hG0 _ _ _ ⟨g0, h0⟩ ⟨by omega, by omega⟩ ⟨by omega, by omega⟩⟩ ⟨relW_wide true true⟩ ⟨Nat.le_refl _⟩ ⟨by show 3 ≤ 1000; decide⟩ ?_
          have hzp : ([off, 4294967296 * sym + typ, IntKind.u64.wrap add]).zip (relW true true) = relN true true off sym typ add := rfl
          rw [hzp]
          rw [hrow]
          refine W1 (And.intro @e0 (And.intro @e2 (And.intro @e4 (And.intro @e8 @e9)))) @DD trivial ?_
          exact ⟨q - 1, by omega, _, _, Gh.sel [0, 1] (by decide) (hz0 hZ), i + 1, by omega, by rw [hto, hM]; rfl, by rw [ht]; rfl, by exact lk @e0, by exact lk @e2, by exact lk @e4, by rw [ht, List.length_append]; exact lk trivial, by exact lk @e9⟩
  · obtain rfl : i = l.length := by omega
    rw [List.take_length] at hok hlen2 e8 ⊢
    refine W1 (And.intro @e0 (And.intro @e2 (And.intro @e4 (And.intro @e8 @e9)))) @DD trivial ?_
    exact hk1 hok
end Go.Proofs.Yteohkpfacjjaeab.PvW

/- The walk of VerBack. No statement of the set is proved in this text. -/
import Derived.Test.YtoieblaagkbncaaPvVerK
namespace Go.Proofs.Ytoieblaagkbncaa.PvW
open Go.RowKit Go.Proofs.Ytoieblaagkbncaa.Cd Go.Proofs.Ytoieblaagkbncaa.AbP Go.Proofs.Ytoieblaagkbncaa.Num Go.Proofs.Ytoieblaagkbncaa.Pv
set_option maxRecDepth 100000
set_option maxHeartbeats 4000000
set_option linter.unusedVariables false
set_option linter.unusedSimpArgs false
structure DefG (fl nd ha : Int) (names : List Int) : Prop where
  fl : 0 ≤ fl ∧ fl ≤ 65535
  nd : 0 ≤ nd ∧ nd ≤ 65535
  ha : 0 ≤ ha ∧ ha ≤ 4294967295
  na : ∀ x ∈ names, 0 ≤ x ∧ x ≤ 4294967295
theorem defG_of {l : List dDef.T} (h : ∀ x ∈ l, dDef.good x) : ∀ x ∈ l, DefG x.1 x.2.1 x.2.2.1 x.2.2.2.1 := fun x hx => by
  have hh := h x hx
  obtain ⟨fl, nd, ha, na, u⟩ := x
  obtain ⟨k0, k1, k2, k3, _⟩ := hh
  exact ⟨⟨(u16_of k0).1.1, (u16_of k0).2⟩, ⟨(u16_of k1).1.1, (u16_of k1).2⟩, ⟨(u32_of k2).1.1, (u32_of k2).2⟩, fun y hy => ⟨(u32_of (k3.2 y hy)).1.1, (u32_of (k3.2 y hy)).2⟩⟩
theorem needG_of {l : List dNeed.T} (h : ∀ x ∈ l, dNeed.good x) : ∀ x ∈ l, (0 ≤ (x.1 : Int) ∧ (x.1 : Int) ≤ 4294967295) ∧ ∀ y ∈ x.2.1, AuxN y.1 y.2.1 y.2.2.1 y.2.2.2.1 := fun x hx => by
  have hh := h x hx
  obtain ⟨fi, ax, u⟩ := x
  obtain ⟨k0, k1, _⟩ := hh
  refine ⟨⟨(u32_of k0).1.1, (u32_of k0).2⟩, fun y hy => ?_⟩
  have hy := k1.2 y hy
  obtain ⟨ha, fl, ot, na, u⟩ := y
  obtain ⟨j0, j1, j2, j3, _⟩ := hy
  exact ⟨⟨(u32_of j0).1.1, (u32_of j0).2⟩, ⟨(u16_of j1).1.1, (u16_of j1).2⟩, ⟨(u16_of j2).1.1, (u16_of j2).2⟩, ⟨(u32_of j3).1.1, (u32_of j3).2⟩⟩
theorem defsN_of {l : List dDef.T} (h : ∀ x ∈ l, DefG x.1 x.2.1 x.2.2.1 x.2.2.2.1) (hs : ∀ x ∈ l, x.2.2.2.1.length ≤ 100) : DefsN l := fun x hx => ⟨(h x hx).fl, (h x hx).nd, (h x hx).ha, (h x hx).na, hs x hx⟩
theorem needsN_of {l : List dNeed.T} (h : ∀ x ∈ l, (0 ≤ (x.1 : Int) ∧ (x.1 : Int) ≤ 4294967295) ∧ ∀ y ∈ x.2.1, AuxN y.1 y.2.1 y.2.2.1 y.2.2.2.1) (hs : ∀ x ∈ l, x.2.1.length ≤ 100) : NeedsN l := fun x hx => ⟨(h x hx).1, (h x hx).2, hs x hx⟩
theorem tmod_fix (n b : Int) (hb : 0 < b) : (n.tmod b < 0 → n.tmod b + b = n % b) ∧ (¬ n.tmod b < 0 → n.tmod b = n % b) ∧ -b < n.tmod b ∧ n.tmod b < b := by
  have h := Int.tmod_eq_emod (a := n) (b := b)
  have h1 := Int.emod_nonneg n (show b ≠ 0 by omega)
  have h2 := Int.emod_lt_of_pos n hb
  have h3 : (b.natAbs : Int) = b := by omega
  by_cases c : 0 ≤ n ∨ b ∣ n
  · rw [if_pos c] at h
    omega
  · rw [if_neg c, h3] at h
    have : n % b ≠ 0 := fun e => c (.inr (Int.dvd_of_emod_eq_zero e))
    omega
theorem all_fuel {σ τ : Type} {b : List Int} {size : Int} {rd : Int → Hd} {updR : σ → Int → τ} {inn : Nat → Int → τ → σ × Option (Int × Int)} (hs : 1 ≤ size) : ∀ (N N' : Nat) (a : Int) (x : σ), 1 ≤ N → 1 ≤ N' → (b.length : Int) < N + a → (b.length : Int) < N' + a → allG b size rd updR inn N a x = allG b size rd updR inn N' a x
  | 0, _, _, _, h, _, _, _ => absurd h (by decide)
  | _, 0, _, _, _, h, _, _ => absurd h (by decide)
  | k + 1, k' + 1, a, x, _, _, h1, h2 => by
    unfold allG
    by_cases c1 : a + size ≤ b.length
    · rw [if_pos c1, if_pos c1]
      by_cases c2 : (rd a).v ≠ 1 ∨ (rd a).m = 0 ∨ (rd a).f < size
      · rw [if_pos c2, if_pos c2]
      · rw [if_neg c2, if_neg c2]
        cases (inn (rd a).m.toNat (a + (rd a).f) (updR x a)).2 with
        | some e => rfl
        | none =>
          dsimp only
          by_cases c3 : (rd a).n = 0
          · rw [if_pos c3, if_pos c3]
          · rw [if_neg c3, if_neg c3]
            by_cases c4 : (rd a).n < size
            · rw [if_pos c4, if_pos c4]
            · rw [if_neg c4, if_neg c4]
              exact all_fuel hs k k' _ _ (by omega) (by omega) (by omega) (by omega)
    · rw [if_neg c1, if_neg c1]
section
variable {K : PV → List OB → Prop} {big : Bool}
theorem defsG_got {l : List dDef.T} {R : List Int} (hN : DefsN l) (hok : defsOk l = true) (hl : l ≠ []) (hl40 : l.length ≤ 40) : defsG (defsB big l ++ R) big = (l, none) := by
  unfold defsG
  rw [all_fuel (by decide) _ ((defsB big l ++ R).length + 41) 0 [] (by omega) (by omega) (by omega) (by omega)]
  exact defs_got hN hok hl hl40 (by omega)
theorem needsG_got {l : List dNeed.T} {R : List Int} (hN : NeedsN l) (hok : needsOk l = true) (hl : l ≠ []) (hl40 : l.length ≤ 40) : needsG (needsB big l ++ R) big = (l, none) := by
  unfold needsG
  rw [all_fuel (by decide) _ ((needsB big l ++ R).length + 41) 0 [] (by omega) (by omega) (by omega) (by omega)]
  exact needs_got hN hok hl hl40 (by omega)
theorem defsB_pos {l : List dDef.T} (hN : DefsN l) (hok : defsOk l = true) (hl : l ≠ []) (hl40 : l.length ≤ 40) : 0 < (defsB big l).length := by
  refine Nat.pos_of_ne_zero fun h => ?_
  have h := List.eq_nil_of_length_eq_zero h
  have := defsG_got (big := big) (R := []) hN hok hl hl40
  rw [h] at this
  simp [defsG, allG] at this
theorem needsB_pos {l : List dNeed.T} (hN : NeedsN l) (hok : needsOk l = true) (hl : l ≠ []) (hl40 : l.length ≤ 40) : 0 < (needsB big l).length := by
  refine Nat.pos_of_ne_zero fun h => ?_
  have h := List.eq_nil_of_length_eq_zero h
  have := needsG_got (big := big) (R := []) hN hok hl hl40
  rw [h] at this
  simp [needsG, allG] at this
theorem defsG_no {l : List dDef.T} {k : Nat} (hN : DefsN l) (hok : defsOk l = true) (hl : l ≠ []) (hl40 : l.length ≤ 40) (hk : k < (defsB big l).length) : ∃ e, (defsG ((defsB big l).take k) big).2 = some e := by
  have h := (defs_cut (big := big) (R := []) (cut := k) (N := ((defsB big l).take k).length + 41) hN hok hl hl40 (by rw [List.append_nil]; omega) (by omega)).2 (by omega)
  rw [List.append_nil] at h
  rw [all_fuel (by decide) _ (((defsB big l).take k).length + 1) 0 [] (by omega) (by omega) (by omega) (by omega)] at h
  exact Option.ne_none_iff_exists'.1 h
theorem needsG_no {l : List dNeed.T} {k : Nat} (hN : NeedsN l) (hok : needsOk l = true) (hl : l ≠ []) (hl40 : l.length ≤ 40) (hk : k < (needsB big l).length) : ∃ e, (needsG ((needsB big l).take k) big).2 = some e := by
  have h := (needs_cut (big := big) (R := []) (cut := k) (N := ((needsB big l).take k).length + 41) hN hok hl hl40 (by rw [List.append_nil]; omega) (by omega)).2 (by omega)
  rw [List.append_nil] at h
  rw [all_fuel (by decide) _ (((needsB big l).take k).length + 1) 0 [] (by omega) (by omega) (by omega) (by omega)] at h
  exact Option.ne_none_iff_exists'.1 h
theorem needsB_le2 {l : List dNeed.T} (hN : NeedsN l) : (needsB big l).length ≤ 1616 * l.length := idxB_le l 0 fun i x hx => by
  have h1 := needH_len big l.length i x.1 (x.2.1.length : Int)
  have h2 : (auxsB big x.2.1).length = 16 * x.2.1.length := idxB_len x.2.1 0 (fun i x _ => auxR_len big _ _ _)
  have h3 := (hN x hx).le
  unfold needB
  rw [List.length_append]
  omega
theorem pick_spec {n b : Int} (hb : Om (0 < b ∧ b ≤ 1000000)) (hk : K (.int .i64 (n % b)) []) : PCalls Try.prog 20 [.int .i64 n, .int .i64 b] [] K := by
  obtain ⟨h0, h1⟩ := hb.o
  refine told_callP bezantlaw00_Pick.told fun Z hZ => ?_
  unfold bezantlaw00_Pick.c
  have hd := Ab.b_rem .i64 n b (by omega)
  obtain ⟨f1, f2, f3, f4⟩ := tmod_fix n b h0
  generalize n.tmod b = t at *
  by_cases c : t < 0
  · rw [← f1 c] at hk
    refine W1 trivial (And.intro @DD @hd) trivial ?_
    exact hk
  · rw [← f2 c] at hk
    refine W1 trivial (And.intro @DD @hd) trivial ?_
    exact hk
end
theorem vback_core {big : Bool} {b : List Int} {l : List dDef.T} {m : List dNeed.T} {n : Int} (hg : ∀ x ∈ l, DefG x.1 x.2.1 x.2.2.1 x.2.2.2.1) (hgm : ∀ x ∈ m, (0 ≤ (x.1 : Int) ∧ (x.1 : Int) ≤ 4294967295) ∧ ∀ y ∈ x.2.1, AuxN y.1 y.2.1 y.2.2.1 y.2.2.2.1) (hB : B b) :
    PCalls Try.prog 4 [.sl dDef l, .sl dNeed m, .bool big, .sl (.int .u8) b, .int .i64 n] [] fun p _ => p = .bool true := by
  refine told_callP bezantlaw13_VerBack.told fun Z hZ => ?_
  unfold bezantlaw13_VerBack.c
  refine W1 trivial @DD @up13_spec ?_
  refine vsmall_spec (fun h1 h2 h3 h4 => ?_) ?_
  rotate_left
  · refine W1 trivial @DD trivial ?_
    rfl
  by_cases hb : 1000 < (b.length : Int)
  · refine W1 trivial @DD trivial ?_
    rfl
  have hN := defsN_of hg h3
  have hM := needsN_of hgm h4
  cases hd : defsOk l with
  | false =>
    refine W1 trivial @DD @vputDefs_no ?_
    cases hn : needsOk m with
    | false =>
      refine W1 trivial @DD @vputNeeds_no ?_
      rfl
    | true =>
      by_cases hm0 : m = []
      · have hm0' : (m.length : Int) = 0 := by rw [hm0]; rfl
        have hE0 : ((needsB big m).length : Int) = 0 := by rw [hm0]; rfl
        refine W1 trivial (And.intro @DD (And.intro @hm0' @hE0)) @vputNeeds_ok ?_
        rfl
      · have hm0' : 0 < m.length := List.length_pos_iff.2 hm0
        have hEp := needsB_pos (big := big) hM hn hm0 h2
        have hEg := needsG_got (big := big) (R := b) hM hn hm0 h2
        have hEn := fun k => needsG_no (big := big) (k := k) hM hn hm0 h2
        have hEl := needsB_le2 (big := big) hM
        have hEB := needsB_B big m
        refine W1 trivial @DD (And.intro @vputNeeds_ok (@oArr 1 (.int .u8))) ?_
        refine vneeds_spec ⟨B_append hEB hB⟩ ⟨by rw [List.length_append]; omega⟩ (fun h => absurd h (by rw [List.length_append]; omega)) (fun _ _ => ?_) (fun _ p c h => by rw [hEg] at h; cases h)
        rw [hEg]
        have hn0 := Int.emod_nonneg n (b := ((needsB big m).length : Int)) (by omega)
        have hn1 := Int.emod_lt_of_pos n (b := ((needsB big m).length : Int)) (by omega)
        refine Wp1 trivial @DD (And.intro (@oFrz 134) @pick_spec) ?_
        have hEt : B ((needsB big m).take (n % ((needsB big m).length : Int)).toNat) := fun x hx => hEB x (List.mem_of_mem_take hx)
        by_cases hk0 : n % ((needsB big m).length : Int) = 0
        · refine vneeds_spec ⟨hEt⟩ ⟨by rw [List.length_take]; omega⟩ (fun _ => ?_) (fun h => absurd (by rw [hk0]; rfl) h) (fun h => absurd (by rw [hk0]; rfl) h)
          refine W1 trivial @DD trivial ?_
          refine sneeds_spec ⟨by omega⟩ (fun x hx => Nat.le_trans (h4 x hx) (by decide)) ?_
          refine W1 trivial @DD trivial ?_
          rfl
        · obtain ⟨e, he⟩ := hEn (n % ((needsB big m).length : Int)).toNat (by omega)
          refine vneeds_spec ⟨hEt⟩ ⟨by rw [List.length_take]; omega⟩ (fun h => absurd h (by rw [List.length_take]; omega)) (fun _ h => by rw [he] at h; cases h) (fun _ p c _ => ?_)
          refine W1 trivial @DD trivial ?_
          refine sneeds_spec ⟨by omega⟩ (fun x hx => Nat.le_trans (h4 x hx) (by decide)) ?_
          refine W1 trivial @DD trivial ?_
          rfl
  | true =>
    by_cases hl0 : l = []
    · have hl0' : (l.length : Int) = 0 := by rw [hl0]; rfl
      refine W1 trivial (And.intro @DD @hl0') @vputDefs_ok ?_
      cases hn : needsOk m with
      | false =>
        refine W1 trivial @DD @vputNeeds_no ?_
        rfl
      | true =>
        by_cases hm0 : m = []
        · have hm0' : (m.length : Int) = 0 := by rw [hm0]; rfl
          have hE0 : ((needsB big m).length : Int) = 0 := by rw [hm0]; rfl
          refine W1 trivial (And.intro @DD (And.intro @hm0' @hE0)) @vputNeeds_ok ?_
          rfl
        · have hm0' : 0 < m.length := List.length_pos_iff.2 hm0
          have hEp := needsB_pos (big := big) hM hn hm0 h2
          have hEg := needsG_got (big := big) (R := b) hM hn hm0 h2
          have hEn := fun k => needsG_no (big := big) (k := k) hM hn hm0 h2
          have hEl := needsB_le2 (big := big) hM
          have hEB := needsB_B big m
          refine W1 trivial @DD (And.intro @vputNeeds_ok (@oArr 2 (.int .u8))) ?_
          refine vneeds_spec ⟨B_append hEB hB⟩ ⟨by rw [List.length_append]; omega⟩ (fun h => absurd h (by rw [List.length_append]; omega)) (fun _ _ => ?_) (fun _ p c h => by rw [hEg] at h; cases h)
          rw [hEg]
          have hn0 := Int.emod_nonneg n (b := ((needsB big m).length : Int)) (by omega)
          have hn1 := Int.emod_lt_of_pos n (b := ((needsB big m).length : Int)) (by omega)
          refine Wp1 trivial @DD (And.intro (@oFrz 134) @pick_spec) ?_
          have hEt : B ((needsB big m).take (n % ((needsB big m).length : Int)).toNat) := fun x hx => hEB x (List.mem_of_mem_take hx)
          by_cases hk0 : n % ((needsB big m).length : Int) = 0
          · refine vneeds_spec ⟨hEt⟩ ⟨by rw [List.length_take]; omega⟩ (fun _ => ?_) (fun h => absurd (by rw [hk0]; rfl) h) (fun h => absurd (by rw [hk0]; rfl) h)
            refine W1 trivial @DD trivial ?_
            refine sneeds_spec ⟨by omega⟩ (fun x hx => Nat.le_trans (h4 x hx) (by decide)) ?_
            refine W1 trivial @DD trivial ?_
            rfl
          · obtain ⟨e, he⟩ := hEn (n % ((needsB big m).length : Int)).toNat (by omega)
            refine vneeds_spec ⟨hEt⟩ ⟨by rw [List.length_take]; omega⟩ (fun h => absurd h (by rw [List.length_take]; omega)) (fun _ h => by rw [he] at h; cases h) (fun _ p c _ => ?_)
            refine W1 trivial @DD trivial ?_
            refine sneeds_spec ⟨by omega⟩ (fun x hx => Nat.le_trans (h4 x hx) (by decide)) ?_
            refine W1 trivial @DD trivial ?_
            rfl
    · have hl0' : 0 < l.length := List.length_pos_iff.2 hl0
      have hCp := defsB_pos (big := big) hN hd hl0 h1
      have hCg := defsG_got (big := big) (R := b) hN hd hl0 h1
      have hCn := fun k => defsG_no (big := big) (k := k) hN hd hl0 h1
      have hCl : (defsB big l).length ≤ 1656 * l.length := defsB_le hN
      have hCB := defsB_B big l
      refine W1 trivial @DD (And.intro @vputDefs_ok (@oArr 1 (.int .u8))) ?_
      refine vdefs_spec ⟨B_append hCB hB⟩ ⟨by rw [List.length_append]; omega⟩ (fun h => absurd h (by rw [List.length_append]; omega)) (fun _ _ => ?_) (fun _ p c h => by rw [hCg] at h; cases h)
      rw [hCg]
      have hn0 := Int.emod_nonneg n (b := ((defsB big l).length : Int)) (by omega)
      have hn1 := Int.emod_lt_of_pos n (b := ((defsB big l).length : Int)) (by omega)
      refine Wp1 trivial @DD (And.intro (@oFrz 70) @pick_spec) ?_
      have hCt : B ((defsB big l).take (n % ((defsB big l).length : Int)).toNat) := fun x hx => hCB x (List.mem_of_mem_take hx)
      by_cases hk0 : n % ((defsB big l).length : Int) = 0
      · refine vdefs_spec ⟨hCt⟩ ⟨by rw [List.length_take]; omega⟩ (fun _ => ?_) (fun h => absurd (by rw [hk0]; rfl) h) (fun h => absurd (by rw [hk0]; rfl) h)
        refine W1 trivial @DD trivial ?_
        refine sdefs_spec ⟨by omega⟩ (fun x hx => Nat.le_trans (h3 x hx) (by decide)) ?_
        clear hCt hCn hCg
        refine W1 trivial @DD trivial ?_
        clear hn0 hn1 hk0
        cases hn : needsOk m with
        | false =>
          refine W1 trivial @DD @vputNeeds_no ?_
          rfl
        | true =>
          by_cases hm0 : m = []
          · have hm0' : (m.length : Int) = 0 := by rw [hm0]; rfl
            have hE0 : ((needsB big m).length : Int) = 0 := by rw [hm0]; rfl
            refine W1 trivial (And.intro @DD (And.intro @hm0' @hE0)) @vputNeeds_ok ?_
            rfl
          · have hm0' : 0 < m.length := List.length_pos_iff.2 hm0
            have hEp := needsB_pos (big := big) hM hn hm0 h2
            have hEg := needsG_got (big := big) (R := b) hM hn hm0 h2
            have hEn := fun k => needsG_no (big := big) (k := k) hM hn hm0 h2
            have hEl := needsB_le2 (big := big) hM
            have hEB := needsB_B big m
            refine W1 trivial @DD (And.intro @vputNeeds_ok (@oArr 3 (.int .u8))) ?_
            refine vneeds_spec ⟨B_append hEB hB⟩ ⟨by rw [List.length_append]; omega⟩ (fun h => absurd h (by rw [List.length_append]; omega)) (fun _ _ => ?_) (fun _ p c h => by rw [hEg] at h; cases h)
            rw [hEg]
            have hn0 := Int.emod_nonneg n (b := ((needsB big m).length : Int)) (by omega)
            have hn1 := Int.emod_lt_of_pos n (b := ((needsB big m).length : Int)) (by omega)
            refine Wp1 trivial @DD (And.intro (@oFrz 134) @pick_spec) ?_
            have hEt : B ((needsB big m).take (n % ((needsB big m).length : Int)).toNat) := fun x hx => hEB x (List.mem_of_mem_take hx)
            by_cases hk0 : n % ((needsB big m).length : Int) = 0
            · refine vneeds_spec ⟨hEt⟩ ⟨by rw [List.length_take]; omega⟩ (fun _ => ?_) (fun h => absurd (by rw [hk0]; rfl) h) (fun h => absurd (by rw [hk0]; rfl) h)
              refine W1 trivial @DD trivial ?_
              refine sneeds_spec ⟨by omega⟩ (fun x hx => Nat.le_trans (h4 x hx) (by decide)) ?_
              refine W1 trivial @DD trivial ?_
              rfl
            · obtain ⟨e, he⟩ := hEn (n % ((needsB big m).length : Int)).toNat (by omega)
              refine vneeds_spec ⟨hEt⟩ ⟨by rw [List.length_take]; omega⟩ (fun h => absurd h (by rw [List.length_take]; omega)) (fun _ h => by rw [he] at h; cases h) (fun _ p c _ => ?_)
              refine W1 trivial @DD trivial ?_
              refine sneeds_spec ⟨by omega⟩ (fun x hx => Nat.le_trans (h4 x hx) (by decide)) ?_
              refine W1 trivial @DD trivial ?_
              rfl
      · obtain ⟨e, he⟩ := hCn (n % ((defsB big l).length : Int)).toNat (by omega)
        refine vdefs_spec ⟨hCt⟩ ⟨by rw [List.length_take]; omega⟩ (fun h => absurd h (by rw [List.length_take]; omega)) (fun _ h => by rw [he] at h; cases h) (fun _ p c _ => ?_)
        refine W1 trivial @DD trivial ?_
        refine sdefs_spec ⟨by omega⟩ (fun x hx => Nat.le_trans (h3 x hx) (by decide)) ?_
        refine W1 trivial @DD trivial ?_
        clear hn0 hn1 hk0
        cases hn : needsOk m with
        | false =>
          refine W1 trivial @DD @vputNeeds_no ?_
          rfl
        | true =>
          by_cases hm0 : m = []
          · have hm0' : (m.length : Int) = 0 := by rw [hm0]; rfl
            have hE0 : ((needsB big m).length : Int) = 0 := by rw [hm0]; rfl
            refine W1 trivial (And.intro @DD (And.intro @hm0' @hE0)) @vputNeeds_ok ?_
            rfl
          · have hm0' : 0 < m.length := List.length_pos_iff.2 hm0
            have hEp := needsB_pos (big := big) hM hn hm0 h2
            have hEg := needsG_got (big := big) (R := b) hM hn hm0 h2
            have hEn := fun k => needsG_no (big := big) (k := k) hM hn hm0 h2
            have hEl := needsB_le2 (big := big) hM
            have hEB := needsB_B big m
            refine W1 trivial @DD (And.intro @vputNeeds_ok (@oArr 3 (.int .u8))) ?_
            refine vneeds_spec ⟨B_append hEB hB⟩ ⟨by rw [List.length_append]; omega⟩ (fun h => absurd h (by rw [List.length_append]; omega)) (fun _ _ => ?_) (fun _ p c h => by rw [hEg] at h; cases h)
            rw [hEg]
            have hn0 := Int.emod_nonneg n (b := ((needsB big m).length : Int)) (by omega)
            have hn1 := Int.emod_lt_of_pos n (b := ((needsB big m).length : Int)) (by omega)
            refine Wp1 trivial @DD (And.intro (@oFrz 134) @pick_spec) ?_
            have hEt : B ((needsB big m).take (n % ((needsB big m).length : Int)).toNat) := fun x hx => hEB x (List.mem_of_mem_take hx)
            by_cases hk0 : n % ((needsB big m).length : Int) = 0
            · refine vneeds_spec ⟨hEt⟩ ⟨by rw [List.length_take]; omega⟩ (fun _ => ?_) (fun h => absurd (by rw [hk0]; rfl) h) (fun h => absurd (by rw [hk0]; rfl) h)
              refine W1 trivial @DD trivial ?_
              refine sneeds_spec ⟨by omega⟩ (fun x hx => Nat.le_trans (h4 x hx) (by decide)) ?_
              refine W1 trivial @DD trivial ?_
              rfl
            · obtain ⟨e, he⟩ := hEn (n % ((needsB big m).length : Int)).toNat (by omega)
              refine vneeds_spec ⟨hEt⟩ ⟨by rw [List.length_take]; omega⟩ (fun h => absurd h (by rw [List.length_take]; omega)) (fun _ h => by rw [he] at h; cases h) (fun _ p c _ => ?_)
              refine W1 trivial @DD trivial ?_
              refine sneeds_spec ⟨by omega⟩ (fun x hx => Nat.le_trans (h4 x hx) (by decide)) ?_
              refine W1 trivial @DD trivial ?_
              rfl
theorem vback_walk (x0 : ((.sl (.st (.cons (.int .u16) (.cons (.int .u16) (.cons (.int .u32) (.cons (.sl (.int .u32)) .nil)))))) : Ab.D).T) (g0 : ((.sl (.st (.cons (.int .u16) (.cons (.int .u16) (.cons (.int .u32) (.cons (.sl (.int .u32)) .nil)))))) : Ab.D).good x0) (x1 : ((.sl (.st (.cons (.int .u32) (.cons (.sl (.st (.cons (.int .u32) (.cons (.int .u16) (.cons (.int .u16) (.cons (.int .u32) .nil)))))) .nil)))) : Ab.D).T) (g1 : ((.sl (.st (.cons (.int .u32) (.cons (.sl (.st (.cons (.int .u32) (.cons (.int .u16) (.cons (.int .u16) (.cons (.int .u32) .nil)))))) .nil)))) : Ab.D).good x1) (x2 : (.bool : Ab.D).T) (g2 : (.bool : Ab.D).good x2) (x3 : ((.sl (.int .u8)) : Ab.D).T) (g3 : ((.sl (.int .u8)) : Ab.D).good x3) (x4 : ((.int .i64) : Ab.D).T) (g4 : ((.int .i64) : Ab.D).good x4) :
    PCalls Try.prog 4 [pvD (.sl (.st (.cons (.int .u16) (.cons (.int .u16) (.cons (.int .u32) (.cons (.sl (.int .u32)) .nil)))))) x0, pvD (.sl (.st (.cons (.int .u32) (.cons (.sl (.st (.cons (.int .u32) (.cons (.int .u16) (.cons (.int .u16) (.cons (.int .u32) .nil)))))) .nil)))) x1, pvD .bool x2, pvD (.sl (.int .u8)) x3, pvD (.int .i64) x4] [] fun p _ => p = .bool true := 
  vback_core (defG_of g0.2) (needG_of g1.2) (B_of g3.2)
end Go.Proofs.Ytoieblaagkbncaa.PvW

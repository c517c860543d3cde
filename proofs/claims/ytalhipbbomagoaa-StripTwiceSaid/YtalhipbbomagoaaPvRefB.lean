/- What the document's answers for a segment, and for names, yield; stretches that rise, two by two. No statement of the set is proved in this text. -/
import Derived.Test.YtalhipbbomagoaaPvRefA
namespace Go.Proofs.Ytalhipbbomagoaa.PvW
open Go.RowKit Go.Proofs.Ytalhipbbomagoaa.Cd Go.Proofs.Ytalhipbbomagoaa.AbP Go.Proofs.Ytalhipbbomagoaa.Num Go.Proofs.Ytalhipbbomagoaa.Pv
set_option maxRecDepth 100000
set_option maxHeartbeats 4000000
set_option linter.unusedVariables false
set_option linter.unusedSimpArgs false
/-! rising, two by two -/
theorem bad_trans {a s b t c : Int} (hs : 0 ≤ s) (h1 : ¬ badP a s b) (h2 : ¬ badP b t c) : ¬ badP a s c := by
  unfold badP at *
  intro h
  have e1 : ¬ b < a := fun h => h1 (.inl h)
  have e2 : ¬ c < b := fun h => h2 (.inl h)
  rcases h with h | ⟨h3, h4⟩
  · omega
  · exact h1 (.inr ⟨h3, by omega⟩)
abbrev RisR (x y : dSpan.T) : Prop := ¬ badP x.1 x.2.1 y.1
theorem rising_cons {x : dSpan.T} {l : List dSpan.T} (h : RisingP (x :: l)) : RisingP l := fun i a b ha hb => h (i + 1) a b (by simpa using ha) (by simpa using hb)
theorem rising_all : ∀ {l : List dSpan.T} {x : dSpan.T}, (∀ y ∈ x :: l, SpanN y.1 y.2.1) → RisingP (x :: l) → ∀ y ∈ l, RisR x y
  | [], x, _, _, y, hy => by cases hy
  | z :: l, x, hN, h, y, hy => by
    have h0 : RisR x z := h 0 x z rfl rfl
    rcases List.mem_cons.1 hy with rfl | hy
    · exact h0
    · exact bad_trans (hN x (by simp)).s.1 h0 (rising_all (fun y hy => hN y (List.mem_cons_of_mem _ hy)) (rising_cons h) y hy)
theorem rising_pair : ∀ {l : List dSpan.T}, (∀ y ∈ l, SpanN y.1 y.2.1) → (RisingP l ↔ l.Pairwise RisR)
  | [], _ => ⟨fun _ => .nil, fun _ i x y hx => by simp at hx⟩
  | x :: l, hN => by
    have ih := rising_pair (l := l) (fun y hy => hN y (List.mem_cons_of_mem _ hy))
    rw [List.pairwise_cons]
    constructor
    · exact fun h => ⟨rising_all hN h, ih.1 (rising_cons h)⟩
    · rintro ⟨h1, h2⟩ i a b ha hb
      cases i with
      | zero =>
        obtain rfl : x = a := by simpa using ha
        exact h1 b (List.mem_of_getElem? (by simpa using hb : l[0]? = some b))
      | succ i => exact ih.2 h2 i a b (by simpa using ha) (by simpa using hb)
def loadF (s : dSeg.T) : Option dSpan.T := if @Eq Int s.1 1 then some (s.2.2.1, s.2.2.2.2.1, ()) else none
theorem loads_filter : ∀ l : List dSeg.T, loadsL l = l.filterMap loadF
  | [] => rfl
  | s :: l => by
    show (if @Eq Int s.1 1 then _ :: loadsL l else loadsL l) = _
    rw [List.filterMap_cons, loads_filter l]
    unfold loadF
    by_cases h : @Eq Int s.1 1
    · rw [if_pos h, if_pos h]
    · rw [if_neg h, if_neg h]
def belP (segs : List dSeg.T) (k i : Nat) : Prop := ∀ x y : dSeg.T, segs[k]? = some x → segs[i]? = some y → @Eq Int x.1 1 → @Eq Int y.1 1 → belowB x.2.2.1 x.2.2.2.2.1 y.2.2.1 = true
theorem rising_iff {segs : List dSeg.T} (hG : SegsN segs) : RisingP (loadsL segs) ↔ ∀ i k, k < i → belP segs k i := by
  rw [rising_pair (loads_N segs hG), loads_filter, List.pairwise_filterMap, List.pairwise_iff_getElem]
  constructor
  · intro h i k hki x y hx hy h1 h2
    obtain ⟨hk', rfl⟩ := List.getElem?_eq_some_iff.1 hx
    obtain ⟨hi', rfl⟩ := List.getElem?_eq_some_iff.1 hy
    have hx0 := hG _ (List.mem_of_getElem? hx)
    exact (below_iff hx0.va hx0.me.1).2 (h k i hk' hi' hki _ (if_pos h1) _ (if_pos h2))
  · intro h k i hk' hi' hki b hb b' hb'
    have hx0 := hG _ (List.getElem_mem hk')
    unfold loadF at hb hb'
    split at hb
    · rename_i h1
      split at hb'
      · rename_i h2
        obtain rfl := Option.some.inj hb
        obtain rfl := Option.some.inj hb'
        exact (below_iff hx0.va hx0.me.1).1 (h i k hki _ _ (List.getElem?_eq_getElem hk') (List.getElem?_eq_getElem hi') h1 h2)
      · cases hb'
    · cases hb
section
variable {K : PV → List OB → Prop} {w big : Bool} {o ab ty ma fl en st : Int} {segs : List dSeg.T} {secs : List dSec.T}
theorem rpower_ok {al : Int} (h : Am (andI al ((al - 1) % 18446744073709551616) = 0)) (ha : Om (0 ≤ al ∧ al ≤ 18446744073709551615)) (hk : K (.bool true) []) : PCalls Try.prog 91 [.int .u64 al] [] K := rpower_spec ha (by rw [decide_eq_true h.o]; exact hk)
theorem rpower_no {al : Int} (h : Am (¬ andI al ((al - 1) % 18446744073709551616) = 0)) (ha : Om (0 ≤ al ∧ al ≤ 18446744073709551615)) (hk : K (.bool false) []) : PCalls Try.prog 91 [.int .u64 al] [] K := rpower_spec ha (by rw [decide_eq_false h.o]; exact hk)
theorem rsegment_spec {sty sfl sva spa sme sal i off sz : Int} {own : List Int} (hG : Am (SegN sty sva spa sme sal i off sz own)) (hw : Am (w = false → sva ≤ 4294967295 ∧ sme ≤ 4294967295)) (hl : Om (segs.length ≤ 1000000)) (hL : ∀ s ∈ segs, s.2.2.2.2.2.2.1.2.2.2.1.length ≤ 1000000) (hk : K (.int .i64 (segC w segs sty sva sme sal i off sz own)) []) :
    PCalls Try.prog 43 [.agg [.bool w, .bool big, .int .u8 o, .int .u8 ab, .int .u16 ty, .int .u16 ma, .int .u32 fl, .int .u64 en, .sl dSeg segs, .sl dSec secs, .int .i64 st], .agg [.int .u32 sty, .int .u32 sfl, .int .u64 sva, .int .u64 spa, .int .u64 sme, .int .u64 sal, .int .i64 i, .int .u64 off, .int .u64 sz, .sl (.int .u8) own]] [] K := by
  obtain ⟨nty, nva, npa, nme, nal, noff, nsz, now, nbo⟩ := hG.o
  have hl := hl.o
  have hw := hw.o
  refine told_callP bezantref14_segment.told fun Z hZ => ?_
  unfold bezantref14_segment.c
  unfold segC at hk
  by_cases h1 : andI sal ((sal - 1) % 18446744073709551616) = 0
  rotate_left
  · rw [if_pos h1] at hk
    refine W1 trivial @DD @rpower_no ?_
    exact hk
  rw [if_neg (fun h => h h1)] at hk
  refine W1 trivial @DD @rpower_ok ?_
  refine rplace_spec14 ⟨noff⟩ ⟨nsz⟩ ⟨⟨hl, now⟩⟩ hL ?_
  cases hp : placeOk segs i off sz own with
  | false =>
    rw [if_pos (.inl hp)] at hk
    refine W1 trivial @DD trivial ?_
    exact hk
  | true =>
  by_cases h2 : sty = 1
  rotate_left
  · rw [if_neg (fun h => h.elim (fun h => by rw [hp] at h; cases h) fun h => h2 h.1), if_pos h2] at hk
    refine W1 trivial @DD trivial ?_
    exact hk
  by_cases h3 : i = -1
  rotate_left
  · rw [if_pos (.inr ⟨h2, h3⟩)] at hk
    refine W1 trivial @DD trivial ?_
    exact hk
  rw [if_neg (fun h => h.elim (fun h => by rw [hp] at h; cases h) fun h => h.2 h3), if_neg (fun h => h h2)] at hk
  by_cases h4 : sme < sz
  · rw [if_pos h4] at hk
    refine W1 trivial @DD trivial ?_
    exact hk
  rw [if_neg h4] at hk
  cases w
  · obtain ⟨b1, b2⟩ := hw rfl
    have hr : roomB false sva = 4294967296 - sva := by
      show (4294967296 - sva) % 18446744073709551616 = _
      omega
    rw [hr] at hk
    have hw1 : IntKind.wrap .u64 (sva + sme) = sva + sme := by rw [wU64]; omega
    by_cases h5 : 4294967296 < sva + sme
    · rw [if_pos ⟨by omega, by omega⟩] at hk
      refine W1 trivial (And.intro @DD @hw1) trivial ?_
      exact hk
    · rw [if_neg (by omega)] at hk
      refine W1 trivial (And.intro @DD @hw1) trivial ?_
      exact hk
  · have hr : roomB true sva = (0 - sva) % 18446744073709551616 := rfl
    rw [hr] at hk
    by_cases h5 : sva = 0
    · rw [if_neg (by omega)] at hk
      refine W1 trivial @DD trivial ?_
      exact hk
    have hw1 : IntKind.wrap .u64 (18446744073709551615 - sva) = 18446744073709551615 - sva := by rw [wU64]; omega
    have hw2 : IntKind.wrap .u64 (18446744073709551615 - sva + 1) = 18446744073709551616 - sva := by rw [wU64]; omega
    by_cases h6 : 18446744073709551616 - sva < sme
    · rw [if_pos ⟨by omega, by omega⟩] at hk
      refine W1 trivial (And.intro @DD (And.intro @hw1 @hw2)) trivial ?_
      exact hk
    · rw [if_neg (by omega)] at hk
      refine W1 trivial (And.intro @DD (And.intro @hw1 @hw2)) trivial ?_
      exact hk
theorem rnames_spec (hl : Om (secs.length ≤ 1000000)) (hN : Am (SecsN secs)) (hk : K (.int .i64 (namesC secs st)) []) : PCalls Try.prog 46 [.agg [.bool w, .bool big, .int .u8 o, .int .u8 ab, .int .u16 ty, .int .u16 ma, .int .u32 fl, .int .u64 en, .sl dSeg segs, .sl dSec secs, .int .i64 st]] [] K := by
  have hl := hl.o
  have hN := hN.o
  refine told_callP bezantref14_names.told fun Z hZ => ?_
  unfold bezantref14_names.c
  unfold namesC at hk
  by_cases h1 : st < 0
  · rw [if_pos (.inl h1)] at hk
    refine W1 trivial @DD trivial ?_
    exact hk
  by_cases h2 : (secs.length : Int) < st
  · rw [if_pos (.inr h2)] at hk
    refine W1 trivial @DD trivial ?_
    exact hk
  rw [if_neg (fun h => h.elim h1 h2)] at hk
  by_cases h3 : st = 0
  · rw [if_pos h3] at hk
    refine W1 trivial @DD trivial ?_
    refine w_lp (fun q e s => s = [.var [.bool w, .bool big, .int .u8 o, .int .u8 ab, .int .u16 ty, .int .u16 ma, .int .u32 fl, .int .u64 en, .sl dSeg segs, .sl dSec secs, .int .i64 st]] ∧ ∃ i : Nat, q + i = secs.length ∧ ((secs.take i).all fun s => decide (@Eq Int s.1 0)) = true ∧ e 1 = .ptr 0 0 ∧ e 3 = .int .i64 i) secs.length ?_ ?_
    · exact ⟨rfl, 0, rfl, rfl, by exact lk trivial, by exact lk trivial⟩
    rintro q e s ⟨rfl, i, hi, hall, e1, e3⟩
    by_cases hq : i < secs.length
    · obtain ⟨x, hx⟩ : ∃ x, secs[i]? = some x := ⟨secs[i], List.getElem?_eq_getElem hq⟩
      have hat := fun h => all_takeS (p := fun x : dSec.T => decide (@Eq Int x.1 0)) hx hall h
      have han := fun h => all_noS (p := fun x : dSec.T => decide (@Eq Int x.1 0)) hx h
      obtain ⟨nm, sty, sfl, sad, ssi, sli, ssf, sal, sen, ⟨si, so, sz, sown, u⟩, u2⟩ := x
      dsimp only at hat han
      by_cases h4 : @Eq Int nm 0
      · have ha := hat (decide_eq_true h4)
        refine W1 (And.intro @e1 @e3) @DD trivial ?_
        exact ⟨q - 1, by omega, rfl, i + 1, by omega, ha, by exact lk @e1, by exact lk @e3⟩
      · rw [if_neg (han (decide_eq_false h4))] at hk
        refine W1 (And.intro @e1 @e3) @DD trivial ?_
        exact hk
    · obtain rfl : i = secs.length := by omega
      rw [List.take_length] at hall
      rw [if_pos hall] at hk
      refine W1 (And.intro @e1 @e3) @DD trivial ?_
      exact hk
  rw [if_neg h3] at hk
  obtain ⟨y, hy⟩ : ∃ y, secs[(st - 1).toNat]? = some y := ⟨secs[(st - 1).toNat]'(by omega), List.getElem?_eq_getElem (by omega)⟩
  rw [hy] at hk
  have hy0 := hN y (List.mem_of_getElem? hy)
  obtain ⟨ynm, yty, yfl, yad, ysi, yli, ysf, yal, yen, ⟨yi, yo, yz, yown, yu⟩, yu2⟩ := y
  dsimp only at hk
  have hw1 : IntKind.wrap .i64 (st - 1) = st - 1 := by rw [wI64]; omega
  refine W1 trivial @DD trivial ?_
  refine w_lp (fun q e s => s = [.var [.bool w, .bool big, .int .u8 o, .int .u8 ab, .int .u16 ty, .int .u16 ma, .int .u32 fl, .int .u64 en, .sl dSeg segs, .sl dSec secs, .int .i64 st]] ∧ ∃ i : Nat, q + i = secs.length ∧ e 1 = .ptr 0 0 ∧ e 3 = .int .i64 i) secs.length ?_ ?_
  · exact ⟨rfl, 0, rfl, by exact lk trivial, by exact lk trivial⟩
  rintro q e s ⟨rfl, i, hi, e1, e3⟩
  by_cases hq : i < secs.length
  · refine W1 (And.intro @e1 @e3) @DD trivial ?_
    exact ⟨q - 1, by omega, rfl, i + 1, by omega, by exact lk @e1, by exact lk @e3⟩
  by_cases h4 : @Eq Int yty 3
  rotate_left
  · rw [if_pos (.inl h4)] at hk
    refine W1 (And.intro @e1 @e3) (And.intro @DD @hw1) trivial ?_
    exact hk
  by_cases h5 : @Eq Int yi (-1)
  rotate_left
  · rw [if_pos (.inr h5)] at hk
    refine W1 (And.intro @e1 @e3) (And.intro @DD @hw1) trivial ?_
    exact hk
  rw [if_neg (fun h => h.elim (fun h => h h4) fun h => h h5)] at hk
  refine W1 (And.intro @e1 @e3) (And.intro @DD @hw1) trivial ?_
  refine w_lpG (fun q e s => ∃ i : Nat, q + i = secs.length ∧ s = [.var [.bool w, .bool big, .int .u8 o, .int .u8 ab, .int .u16 ty, .int .u16 ma, .int .u32 fl, .int .u64 en, .sl dSeg segs, .sl dSec secs, .int .i64 st], .var [.int .u32 ynm, .int .u32 yty, .int .u64 yfl, .int .u64 yad, .int .u64 ysi, .int .u32 yli, .int .u32 ysf, .int .u64 yal, .int .u64 yen, .int .i64 yi, .int .u64 yo, .int .u64 yz, .sl (.int .u8) yown]] ∧ ((secs.take i).all fun x => okName yown x.1) = true ∧ e 1 = .ptr 0 0 ∧ e 4 = .ptr 1 0 ∧ e 5 = .int .i64 i) secs.length ?_ ?_
  · exact ⟨0, rfl, rfl, rfl, by exact lk @e1, by exact lk trivial, by exact lk trivial⟩
  clear e1 e3 hq hi
  rintro q e s ⟨i, hi, rfl, hall, e1, e4, e5⟩
  by_cases hq : i < secs.length
  · obtain ⟨x, hx⟩ : ∃ x, secs[i]? = some x := ⟨secs[i], List.getElem?_eq_getElem hq⟩
    have hx0 := (hN x (List.mem_of_getElem? hx)).nm
    have hat := fun h => all_takeS (p := fun x : dSec.T => okName yown x.1) hx hall h
    have han := fun h => all_noS (p := fun x : dSec.T => okName yown x.1) hx h
    obtain ⟨nm, sty, sfl, sad, ssi, sli, ssf, sal, sen, ⟨si, so, sz, sown, u⟩, u2⟩ := x
    dsimp only at hx0 hat han
    refine W1 (And.intro @e1 (And.intro @e4 @e5)) @DD trivial ?_
    refine rname_spec ⟨hy0.bo⟩ ⟨hy0.ow⟩ ⟨by omega⟩ (fun ok => ?_) (fun no => ?_)
    · have ha := hat ok
      refine W1 (And.intro @e1 (And.intro @e4 @e5)) @DD trivial ?_
      exact ⟨q - 1, by omega, _, _, Gh.sel [0, 1] (by decide) (hz0 hZ), i + 1, by omega, rfl, ha, by exact lk @e1, by exact lk @e4, by exact lk @e5⟩
    · rw [if_neg (han no)] at hk
      refine W1 (And.intro @e1 (And.intro @e4 @e5)) @DD trivial ?_
      exact hk
  · obtain rfl : i = secs.length := by omega
    rw [List.take_length] at hall
    rw [if_pos hall] at hk
    refine W1 (And.intro @e1 (And.intro @e4 @e5)) @DD trivial ?_
    exact hk
end
end Go.Proofs.Ytalhipbbomagoaa.PvW

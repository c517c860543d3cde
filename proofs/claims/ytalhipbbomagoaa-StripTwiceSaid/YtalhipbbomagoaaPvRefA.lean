/- What the document's small answers yield: stretches, names, powers of two, places. No statement of the set is proved in this text. -/
import Derived.Test.YtalhipbbomagoaaPvModelM
import Derived.Test.YtalhipbbomagoaaPvRow
import Derived.Test.YtalhipbbomagoaaTdRef14
namespace Go.Proofs.Ytalhipbbomagoaa.PvW
open Go.RowKit Go.Proofs.Ytalhipbbomagoaa.Cd Go.Proofs.Ytalhipbbomagoaa.AbP Go.Proofs.Ytalhipbbomagoaa.Num Go.Proofs.Ytalhipbbomagoaa.Pv
set_option maxRecDepth 100000
set_option maxHeartbeats 4000000
set_option linter.unusedVariables false
set_option linter.unusedSimpArgs false
/-- may a stretch stand ahead of another one -/
def belowB (f s g : Int) : Bool := if s = 0 then decide (f ≤ g) else decide (lastB f s < g)
theorem below_iff {f s g : Int} (hf : 0 ≤ f ∧ f ≤ 18446744073709551615) (hs : 0 ≤ s) : belowB f s g = true ↔ ¬ badP f s g := by
  unfold belowB badP lastB
  by_cases h : s = 0
  · rw [if_pos h, decide_eq_true_eq]
    omega
  · rw [if_neg h, decide_eq_true_eq]
    by_cases h1 : 18446744073709551615 - f < s - 1
    · simp only [if_pos h1]
      omega
    · simp only [if_neg h1]
      omega
/-- is it 0, or a power of two -/
abbrev powN (n : Nat) : Prop := n &&& (n - 1) = 0
theorem powN_half {n : Nat} (h1 : 1 < n) (h2 : n % 2 = 0) : powN n ↔ powN (n / 2) := by
  unfold powN
  have h3 := Nat.and_div_two (a := n) (b := n - 1)
  rw [show (n - 1) / 2 = n / 2 - 1 by omega] at h3
  have h4 : (n &&& (n - 1)) % 2 = 0 := by
    rw [← Nat.one_and_eq_mod_two, ← Nat.and_assoc, Nat.one_and_eq_mod_two, h2, Nat.zero_and]
  omega
theorem powN_odd {n : Nat} (h2 : ¬ (1 < n ∧ n % 2 = 0)) : powN n ↔ n ≤ 1 := by
  unfold powN
  have h3 := Nat.and_div_two (a := n) (b := n - 1)
  constructor
  · intro h
    rw [h] at h3
    by_cases h1 : 1 < n
    · rw [show (n - 1) / 2 = n / 2 by omega, Nat.and_self] at h3
      omega
    · omega
  · intro h
    have : n = 0 ∨ n = 1 := by omega
    rcases this with rfl | rfl <;> rfl
theorem andI_pow {al : Int} (h : 0 ≤ al ∧ al ≤ 18446744073709551615) : andI al ((al - 1) % 18446744073709551616) = 0 ↔ powN al.toNat := by
  unfold powN
  by_cases h0 : al = 0
  · subst h0
    rw [show ((0 : Int) - 1) % 18446744073709551616 = 18446744073709551615 by decide, andI_nat ⟨by omega, by omega⟩ ⟨by omega, by omega⟩]
    simp
  · rw [Int.emod_eq_of_lt (by omega) (by omega), andI_nat ⟨h.1, by omega⟩ ⟨by omega, by omega⟩, show (al - 1).toNat = al.toNat - 1 by omega]
    omega
theorem ixB_nil : ixB [] = -1 := rfl
theorem ixB_cons {x : Int} {l : List Int} (h : 0 ≤ x ∧ x ≤ 255) : ixB (x :: l) = if x = 0 then 0 else if ixB l = -1 then -1 else ixB l + 1 := by
  unfold ixB
  show (if UInt8.ofNat x.toNat == (0 : Int).toNat.toUInt8 then (0 : Int) else if Lib.indexByte (Lib.bytesOf l) (0 : Int).toNat.toUInt8 == -1 then -1 else Lib.indexByte (Lib.bytesOf l) (0 : Int).toNat.toUInt8 + 1) = _
  have e : (UInt8.ofNat x.toNat == (0 : Int).toNat.toUInt8) = decide (x = 0) := by
    rw [Bool.eq_iff_iff, beq_iff_eq, decide_eq_true_eq]
    constructor
    · intro h1
      have h2 := congrArg UInt8.toNat h1
      have h3 : (UInt8.ofNat x.toNat).toNat = x.toNat := by
        rw [UInt8.toNat_ofNat']
        exact Nat.mod_eq_of_lt (by omega)
      rw [h3] at h2
      have h4 : ((0 : Int).toNat.toUInt8).toNat = 0 := rfl
      omega
    · rintro rfl
      rfl
  rw [e]
  simp only [decide_eq_true_eq, beq_iff_eq]
theorem ix_first : ∀ {l : List Int} {j : Nat}, B l → (∀ k, k < j → l.getD k 0 ≠ 0) → j < l.length → l.getD j 0 = 0 → ixB l = j
  | [], j, _, _, h, _ => by simp at h
  | x :: l, 0, hB, _, _, h => by
    have h : x = 0 := h
    rw [ixB_cons (hB x (by simp)), if_pos h]
    rfl
  | x :: l, j + 1, hB, hall, hj, h => by
    have h0 : x ≠ 0 := hall 0 (by omega)
    have ih := ix_first (l := l) (j := j) (fun y hy => hB y (by simp [hy])) (fun k hk => by simpa using hall (k + 1) (by omega)) (by simpa using hj) (by simpa using h)
    rw [ixB_cons (hB x (by simp)), if_neg h0, ih, if_neg (by omega)]
    omega
theorem ix_none : ∀ {l : List Int}, B l → (∀ k, k < l.length → l.getD k 0 ≠ 0) → ixB l = -1
  | [], _, _ => rfl
  | x :: l, hB, hall => by
    have h0 : x ≠ 0 := hall 0 (by simp)
    have ih := ix_none (l := l) (fun y hy => hB y (by simp [hy])) (fun k hk => by simpa using hall (k + 1) (by simpa using hk))
    rw [ixB_cons (hB x (by simp)), if_neg h0, ih, if_pos rfl]
theorem drop_D {l : List Int} {a k : Nat} : (l.drop a).getD k 0 = l.getD (a + k) 0 := by
  rw [List.getD_eq_getElem?_getD, List.getElem?_drop, ← List.getD_eq_getElem?_getD]
section
variable {K : PV → List OB → Prop} {w big : Bool} {o ab ty ma fl en st : Int} {segs : List dSeg.T} {secs : List dSec.T}
theorem rlast_spec {f s : Int} (hf : Om (0 ≤ f ∧ f ≤ 18446744073709551615)) (hs : Om (1 ≤ s ∧ s ≤ 18446744073709551615)) (hk : K (.int .u64 (lastB f s)) []) : PCalls Try.prog 80 [.int .u64 f, .int .u64 s] [] K := by
  have hf := hf.o
  have hs := hs.o
  refine told_callP bezantref01_Last.told fun Z hZ => ?_
  unfold bezantref01_Last.c
  unfold lastB at hk
  by_cases h1 : 18446744073709551615 - f < s - 1
  · rw [if_pos h1] at hk
    have hw : IntKind.wrap .u64 (IntKind.wrap .u64 (f + s) - 1) = f + s - 1 - 18446744073709551616 := by
      rw [wU64, wU64]
      omega
    refine W1 trivial (And.intro @DD @hw) trivial ?_
    exact hk
  · rw [if_neg h1] at hk
    have hw : IntKind.wrap .u64 (IntKind.wrap .u64 (f + s) - 1) = f + s - 1 := by
      rw [wU64, wU64]
      omega
    refine W1 trivial (And.intro @DD @hw) trivial ?_
    exact hk
theorem rbelow_spec {f s g : Int} (hf : Om (0 ≤ f ∧ f ≤ 18446744073709551615)) (hs : Om (0 ≤ s ∧ s ≤ 18446744073709551615)) (hk : K (.bool (belowB f s g)) []) : PCalls Try.prog 44 [.int .u64 f, .int .u64 s, .int .u64 g] [] K := by
  have hf := hf.o
  have hs := hs.o
  refine told_callP bezantref01_Below.told fun Z hZ => ?_
  unfold bezantref01_Below.c
  unfold belowB at hk
  by_cases h : s = 0
  · rw [if_pos h] at hk
    refine W1 trivial @DD trivial ?_
    exact hk
  · rw [if_neg h] at hk
    refine W1 trivial @DD @rlast_spec ?_
    exact hk
theorem rname_spec {b : List Int} {off : Int} (hB : Am (B b)) (hb : Om (b.length ≤ 1000000)) (ho : Om (0 ≤ off ∧ off ≤ 18446744073709551615)) (hk1 : okName b off = true → K (.tup [.str (sOf ((b.drop off.toNat).take (ixB (b.drop off.toNat)).toNat)), .bool true]) []) (hk0 : okName b off = false → K (.tup [.str ⟨#[]⟩, .bool false]) []) :
    PCalls Try.prog 92 [.sl (.int .u8) b, .int .u64 off] [] K := by
  have hB := hB.o
  have hb := hb.o
  have ho := ho.o
  refine told_callP bezantref01_Name.told fun Z hZ => ?_
  unfold bezantref01_Name.c
  by_cases h1 : off < b.length
  rotate_left
  · have := hk0 (by simp [okName, h1])
    refine W1 trivial @DD trivial ?_
    exact this
  obtain ⟨a, rfl⟩ : ∃ a : Nat, off = a := ⟨off.toNat, by omega⟩
  rw [Int.toNat_natCast] at hk1
  have hBd : B (b.drop a) := fun x hx => hB x (List.mem_of_mem_drop hx)
  have hdl : (b.drop a).length = b.length - a := List.length_drop
  refine W1 trivial @DD trivial ?_
  refine w_lp (fun q e s => s = [] ∧ ∃ j : Nat, q + (a + j) = b.length ∧ (∀ k, k < j → b.getD (a + k) 0 ≠ 0) ∧ e 0 = .sl (.int .u8) b ∧ e 1 = .int .u64 a ∧ e 6 = .int .i64 ((a + j : Nat) : Int)) (b.length - a) ?_ ?_
  · exact ⟨rfl, 0, by omega, fun k hk => absurd hk (Nat.not_lt_zero k), by exact lk trivial, by exact lk trivial, by exact lk trivial⟩
  rintro q e s ⟨rfl, j, hj, hall, e0, e1, e6⟩
  by_cases hq : a + j < b.length
  · have hjb : b[a + j]? = some (b.getD (a + j) 0) := by rw [List.getD_eq_getElem?_getD, List.getElem?_eq_getElem hq]; rfl
    have hjr := hB _ (List.mem_of_getElem? hjb)
    generalize hx : b.getD (a + j) 0 = x at *
    by_cases hx0 : x = 0
    · have hi : ixB (b.drop a) = j := ix_first hBd (fun k hk => by rw [drop_D]; exact hall k hk) (by omega) (by rw [drop_D, hx]; exact hx0)
      have := hk1 (by simp [okName, h1, hi])
      rw [hi, Int.toNat_natCast] at this
      have ht : List.drop a (List.take (a + j) b) = (b.drop a).take j := by rw [List.drop_take]; congr 1; omega
      rw [← ht] at this
      refine W1 (And.intro @e0 (And.intro @e1 @e6)) (And.intro @DD @hx) trivial ?_
      exact this
    · refine W1 (And.intro @e0 (And.intro @e1 @e6)) (And.intro @DD @hx) trivial ?_
      exact ⟨q - 1, by omega, rfl, j + 1, by omega, fun k hk => by
        by_cases hkj : k < j
        · exact hall k hkj
        · obtain rfl : k = j := by omega
          rw [hx]; exact hx0, by exact lk @e0, by exact lk @e1, by exact lk @e6⟩
  · have hi : ixB (b.drop a) = -1 := ix_none hBd (fun k hk => by rw [drop_D]; exact hall k (by omega))
    have := hk0 (by simp [okName, hi])
    refine W1 (And.intro @e0 (And.intro @e1 @e6)) @DD trivial ?_
    exact this
theorem rpower_spec {al : Int} (ha : Om (0 ≤ al ∧ al ≤ 18446744073709551615)) (hk : K (.bool (decide (andI al ((al - 1) % 18446744073709551616) = 0))) []) : PCalls Try.prog 91 [.int .u64 al] [] K := by
  have ha := ha.o
  rw [decide_eq_decide.2 (andI_pow ha)] at hk
  refine told_callP bezantref14_power.told fun Z hZ => ?_
  unfold bezantref14_power.c
  refine W1 trivial @DD trivial ?_
  refine w_lp (fun q e s => s = [] ∧ ∃ x : Int, x = q ∧ x ≤ 18446744073709551615 ∧ (powN x.toNat ↔ powN al.toNat) ∧ e 0 = .int .u64 x) al.toNat ?_ ?_
  · exact ⟨rfl, al, by omega, ha.2, Iff.rfl, by exact lk trivial⟩
  rintro q e s ⟨rfl, x, hx, hx1, hp, e0⟩
  have hx0 : 0 ≤ x := by omega
  have hrem : Ab.abin .rem (.int .u64 x) (.int .u64 2) = some (.int .u64 (x % 2)) := rem_c hx0 (by omega)
  have hquo : Ab.abin .quo (.int .u64 x) (.int .u64 2) = some (.int .u64 (x / 2)) := by rw [quo_c hx0 (by omega), wU64]; congr 2; omega
  by_cases h1 : 1 < x
  · by_cases h2 : x % 2 = 0
    · have h3 := powN_half (n := x.toNat) (by omega) (by omega)
      refine W1 @e0 (And.intro @DD (And.intro @hrem @hquo)) trivial ?_
      exact ⟨(x / 2).toNat, by omega, rfl, x / 2, by omega, by omega, by rw [show (x / 2).toNat = x.toNat / 2 by omega, ← h3]; exact hp, by exact lk @e0⟩
    · have h3 := powN_odd (n := x.toNat) (fun h => by omega)
      have hde : decide (powN al.toNat) = decide (x.toNat ≤ 1) := decide_eq_decide.2 (hp.symm.trans h3)
      rw [hde] at hk
      rw [show decide (x.toNat ≤ 1) = false from decide_eq_false (by omega)] at hk
      refine W1 @e0 (And.intro @DD @hrem) trivial ?_
      exact hk
  · have h3 := powN_odd (n := x.toNat) (fun h => by omega)
    have hde : decide (powN al.toNat) = decide (x.toNat ≤ 1) := decide_eq_decide.2 (hp.symm.trans h3)
    rw [hde] at hk
    rw [show decide (x.toNat ≤ 1) = true from decide_eq_true (by omega)] at hk
    refine W1 @e0 @DD trivial ?_
    exact hk
theorem rplace_spec14 {i off sz : Int} {own : List Int} (ho : Om (0 ≤ off ∧ off ≤ 18446744073709551615)) (hz : Om (0 ≤ sz ∧ sz ≤ 18446744073709551615)) (hl : Om (segs.length ≤ 1000000 ∧ own.length ≤ 1000000)) (hL : ∀ s ∈ segs, s.2.2.2.2.2.2.1.2.2.2.1.length ≤ 1000000) (hk : K (.bool (placeOk segs i off sz own)) []) :
    PCalls Try.prog 45 [.agg [.bool w, .bool big, .int .u8 o, .int .u8 ab, .int .u16 ty, .int .u16 ma, .int .u32 fl, .int .u64 en, .sl dSeg segs, .sl dSec secs, .int .i64 st], .agg [.int .i64 i, .int .u64 off, .int .u64 sz, .sl (.int .u8) own]] [] K := by
  have ho := ho.o
  have hz := hz.o
  have hl := hl.o
  refine told_callP bezantref14_Place.told fun Z hZ => ?_
  unfold bezantref14_Place.c
  unfold placeOk at hk
  by_cases h1 : i = -1
  · rw [if_pos h1] at hk
    by_cases h2 : off = 0
    · simp only [decide_eq_true h2, Bool.true_and] at hk
      refine W1 trivial @DD trivial ?_
      exact hk
    · simp only [decide_eq_false h2, Bool.false_and] at hk
      refine W1 trivial @DD trivial ?_
      exact hk
  rw [if_neg h1] at hk
  by_cases h2 : i < 0 ∨ (segs.length : Int) ≤ i
  · rw [if_pos h2] at hk
    by_cases h3 : i < 0
    · refine W1 trivial @DD trivial ?_
      exact hk
    · have h2 : (segs.length : Int) ≤ i := by omega
      refine W1 trivial @DD trivial ?_
      exact hk
  rw [if_neg h2] at hk
  obtain ⟨s, hs⟩ : ∃ s, segs[i.toNat]? = some s := ⟨segs[i.toNat]'(by omega), List.getElem?_eq_getElem (by omega)⟩
  rw [hs] at hk
  have hsl := hL s (List.mem_of_getElem? hs)
  obtain ⟨sty, sfl, sva, spa, sme, sal, ⟨si, so, sz', sown, u⟩, u2⟩ := s
  dsimp only at hk hsl
  by_cases h3 : @Eq Int sty 1
  · rw [decide_eq_true h3] at hk
    by_cases h4 : own.length = 0
    · rw [decide_eq_true h4] at hk
      by_cases h5 : sz = 0
      · simp only [h5, ne_eq, not_true_eq_false, decide_false, Bool.false_and, Bool.and_false, Bool.true_and] at hk
        refine W1 trivial @DD @rwithin_spec ?_
        exact hk
      · simp only [h5, ne_eq, not_false_eq_true, decide_true, Bool.true_and] at hk
        refine W1 trivial @DD @rwithin_spec ?_
        exact hk
    · simp only [decide_eq_false h4, Bool.and_false, Bool.false_and] at hk
      refine W1 trivial @DD @rwithin_spec ?_
      exact hk
  · simp only [decide_eq_false h3, Bool.false_and] at hk
    refine W1 trivial @DD @rwithin_spec ?_
    exact hk
theorem rfit_spec {l : List Int} (hl : Om (l.length ≤ 1000000)) (hN : Am (∀ x ∈ l, 0 ≤ x ∧ x ≤ 18446744073709551615)) (hk : K (.bool (l.all (fitW w))) []) :
    PCalls Try.prog 42 [.agg [.bool w, .bool big], .sl (.int .u64) l] [] K := by
  have hl := hl.o
  have hN := hN.o
  refine told_callP bezantref14_fit.told fun Z hZ => ?_
  unfold bezantref14_fit.c
  refine W1 trivial @DD trivial ?_
  refine w_lp (fun q e s => s = [.var [.bool w, .bool big]] ∧ ∃ i : Nat, q + i = l.length ∧ (l.take i).all (fitW w) = true ∧ e 1 = .sl (.int .u64) l ∧ e 2 = .ptr 0 0 ∧ e 5 = .int .i64 i) l.length ?_ ?_
  · exact ⟨rfl, 0, by omega, rfl, by exact lk trivial, by exact lk trivial, by exact lk trivial⟩
  rintro q e s ⟨rfl, i, hi, hall, e1, e2, e5⟩
  by_cases hq : i < l.length
  · obtain ⟨x, hx⟩ : ∃ x, l[i]? = some x := ⟨l[i], List.getElem?_eq_getElem hq⟩
    have hx0 := hN x (List.mem_of_getElem? hx)
    have hgd : l.getD i 0 = x := by rw [List.getD_eq_getElem?_getD, hx]; rfl
    have hww : wideB (wd w) = true := by cases w <;> rfl
    refine W1 (And.intro @e1 (And.intro @e2 @e5)) (And.intro @DD @hgd) @word4_spec ?_
    rw [hgd]
    refine rfits_spec ⟨hx0⟩ ⟨hww⟩ ?_
    have hfw : fitsB x (wd w) = fitW w x := rfl
    rw [hfw]
    cases hf : fitW w x with
    | true =>
      have ha := all_takeS hx hall hf
      refine W1 (And.intro @e1 (And.intro @e2 @e5)) @DD trivial ?_
      exact ⟨q - 1, by omega, rfl, i + 1, by omega, ha, by exact lk @e1, by exact lk @e2, by exact lk @e5⟩
    | false =>
      have hk : K (.bool false) [] := by rwa [Bool.eq_false_iff.2 (all_noS hx hf)] at hk
      refine W1 (And.intro @e1 (And.intro @e2 @e5)) @DD trivial ?_
      exact hk
  · obtain rfl : i = l.length := by omega
    rw [List.take_length] at hall
    rw [hall] at hk
    refine W1 (And.intro @e1 (And.intro @e2 @e5)) @DD trivial ?_
    exact hk
end
end Go.Proofs.Ytalhipbbomagoaa.PvW

/- Plain lemmas on what wire's functions, and the document's answers for them, tell. -/
import Derived.Test.YteohkpfacjjaeaaRDynx2
import Derived.Test.YteohkpfacjjaeaaRDynx3
import Derived.Test.YteohkpfacjjaeaaRDynx4
import Derived.Test.YteohkpfacjjaeaaRDynx5
import Derived.Test.YteohkpfacjjaeaaRDynx7
import Derived.Test.YteohkpfacjjaeaaNum
import Derived.KernelRfl
namespace Go.Proofs.Yteohkpfacjjaeaa.QDynWire
open Go.RowKit Go.Proofs.YteohkpfacjjaeaaW.PrintWords Go.Proofs.YteohkpfacjjaeaaW.PrintLast Go.Proofs.YteohkpfacjjaeaaW.PrintMore Go.Proofs.Yteohkpfacjjaeaa.QDyn Go.Proofs.Yteohkpfacjjaeaa.Num
set_option linter.unusedVariables false
set_option linter.unusedSimpArgs false
def U64 (x : Int) : Prop := 0 ≤ x ∧ x ≤ 18446744073709551615
theorem uw {x : Int} (h0 : 0 ≤ x) (h1 : x ≤ 18446744073709551615) : IntKind.u64.wrap x = x := IntWalk.u64_in x ⟨h0, h1⟩
def wideB (n : Int) : Bool := decide (n = 1) || decide (n = 2) || decide (n = 4) || decide (n = 8)
theorem wide_f (n : Int) : wire_wide.f n = some (wideB n) := by
  unfold wire_wide.f wideB
  by_cases h1 : n = 1
  · simp [h1]
  · by_cases h2 : n = 2
    · simp [h1, h2]
    · by_cases h4 : n = 4
      · simp [h1, h2, h4]
      · simp only [h1, h2, h4, if_false, decide_false, Bool.false_or, Option.some.injEq]
        rw [Bool.eq_iff_iff]
        simp
theorem wideR_f (n : Int) : bezantref01_Wide.f n = some (wideB n) := wide_f n
theorem wide_cases {n : Int} (h : wideB n = true) : n = 1 ∨ n = 2 ∨ n = 4 ∨ n = 8 := by
  unfold wideB at h
  simp at h
  omega
theorem rev1 (a : Int) : slices_Reverse_byte_byte.f 10 [a] = some [a] := by kernel_rfl
theorem rev2 (a b : Int) : slices_Reverse_byte_byte.f 10 [a, b] = some [b, a] := by kernel_rfl
theorem rev4 (a b c d : Int) : slices_Reverse_byte_byte.f 10 [a, b, c, d] = some [d, c, b, a] := by kernel_rfl
theorem rev8 (a b c d e f g h : Int) : slices_Reverse_byte_byte.f 10 [a, b, c, d, e, f, g, h] = some [h, g, f, e, d, c, b, a] := by kernel_rfl
theorem put1 (v : Int) (big : Bool) : wire_Put.f 20 v 1 big = some (enc 1 big v) := by cases big <;> kernel_rfl
theorem put2 (v : Int) (big : Bool) : wire_Put.f 20 v 2 big = some (enc 2 big v) := by cases big <;> kernel_rfl
theorem put4 (v : Int) (big : Bool) : wire_Put.f 20 v 4 big = some (enc 4 big v) := by cases big <;> kernel_rfl
theorem put8 (v : Int) (big : Bool) : wire_Put.f 20 v 8 big = some (enc 8 big v) := by cases big <;> kernel_rfl
/-- What Put tells. -/
def putSpec (v n : Int) (big : Bool) : List Int := if wideB n = true then enc n.toNat big v else []
theorem put_f (v n : Int) (big : Bool) : wire_Put.f 20 v n big = some (putSpec v n big) := by
  unfold putSpec
  by_cases h : wideB n = true
  · rw [if_pos h]
    rcases wide_cases h with rfl | rfl | rfl | rfl
    · exact put1 v big
    · exact put2 v big
    · exact put4 v big
    · exact put8 v big
  · rw [if_neg h]
    unfold wire_Put.f
    rw [wide_f, Option.bind_some, if_neg h]
theorem put_ev (v n : Int) (big : Bool) : Ev (fun k => wire_Put.f k v n big) (putSpec v n big) := Ev.of (wire_Put.mono _ _ _) (put_f v n big)
theorem tdiv_u {v : Int} (h : U64 v) : IntKind.u64.wrap (Int.tdiv v 256) = v / 256 := by
  obtain ⟨h0, h1⟩ := h
  rw [Int.tdiv_eq_ediv_of_nonneg h0, uw (by omega) (by omega)]
theorem tmod_u {v : Int} (h : U64 v) : Int.tmod v 256 % 256 = v % 256 := by
  obtain ⟨h0, h1⟩ := h
  rw [Int.tmod_eq_emod_of_nonneg h0]
  omega
theorem div_pow (v : Int) (i : Nat) : v / 256 ^ i / 256 = v / 256 ^ (i + 1) := by
  rw [Int.pow_succ, ← Int.ediv_ediv_of_nonneg (Int.le_of_lt (pow_pos i))]
theorem u64_div {v : Int} (h : U64 v) (i : Nat) : U64 (v / 256 ^ i) := by
  obtain ⟨h0, h1⟩ := h
  have hp := pow_pos i
  refine ⟨Int.ediv_nonneg h0 (Int.le_of_lt hp), ?_⟩
  have := Int.ediv_le_self (256 ^ i) h0
  omega
theorem w64i {n : Nat} (h : n < 9223372036854775807) : wrap64 ((n : Int) + 1) = ((n + 1 : Nat) : Int) := by
  unfold wrap64
  omega
theorem w64 {x : Int} (h0 : -9223372036854775808 ≤ x) (h1 : x ≤ 9223372036854775807) : wrap64 x = x := IntWalk.wrap64_in x ⟨h0, h1⟩
theorem idx_le {a n i : Nat} (h : a + n ≤ 9223372036854775807) (hi : i < n) : wrap64 (wrap64 (wrap64 ((a : Int) + (n : Int)) - 1) - (i : Int)) = ((a + (n - 1 - i) : Nat) : Int) := by
  rw [w64 (x := (a : Int) + (n : Int)) (by omega) (by omega), w64 (x := (a : Int) + (n : Int) - 1) (by omega) (by omega), w64 (by omega) (by omega)]
  omega
theorem idx_lw {a n i : Nat} (h : a + n ≤ 9223372036854775807) (hi : i < n) : IntKind.u64.wrap ((a : Int) + IntKind.u64.wrap (wrap64 (wrap64 ((n : Int) - 1) - (i : Int)))) = ((a + (n - 1 - i) : Nat) : Int) := by
  rw [w64 (x := (n : Int) - 1) (by omega) (by omega), w64 (x := (n : Int) - 1 - (i : Int)) (by omega) (by omega), uw (x := (n : Int) - 1 - (i : Int)) (by omega) (by omega), uw (by omega) (by omega)]
  omega
theorem idx_bw {a i : Nat} (h : a + i ≤ 9223372036854775807) : IntKind.u64.wrap ((a : Int) + IntKind.u64.wrap (i : Int)) = ((a + i : Nat) : Int) := by
  rw [uw (x := (i : Int)) (by omega) (by omega), uw (by omega) (by omega)]
  omega
theorem sum_w {v b : Int} (h0 : 0 ≤ v) (h1 : v < 72057594037927936) (hb0 : 0 ≤ b) (hb1 : b ≤ 255) : IntKind.u64.wrap (IntKind.u64.wrap (256 * v) + IntKind.u64.wrap b) = v * 256 + b := by
  rw [uw (x := 256 * v) (by omega) (by omega), uw (x := b) (by omega) (by omega), uw (by omega) (by omega)]
  omega
theorem pow_mono {i j : Nat} (h : i ≤ j) : (256 : Int) ^ i ≤ 256 ^ j := by
  induction h with
  | refl => exact Int.le_refl _
  | step h ih =>
    rw [Int.pow_succ]
    have := pow_pos i
    omega
theorem rput_ev {v : Int} (hv : U64 v) (n : Nat) (hn : n ≤ 8) (big : Bool) (d : Nat) : ∀ i, i ≤ n → n - i = d → Ev (fun k => bezantref01_Put.l0 k (v / 256 ^ i) (n : Int) big (enc i big v) (i : Int)) (enc n big v) := by
  induction d with
  | zero =>
    intro i h0 h1
    obtain rfl : i = n := by omega
    refine Ev.step (f := fun _ => some (enc i big v)) (fun k => ?_) (Ev.now _)
    conv => lhs; unfold bezantref01_Put.l0
    rw [if_neg (by omega)]
  | succ d ih =>
    intro i h0 h1
    refine Ev.step (fun k => ?_) (ih (i + 1) (by omega) (by omega))
    conv => lhs; unfold bezantref01_Put.l0
    rw [if_pos (by omega), tdiv_u (u64_div hv i), tmod_u (u64_div hv i), div_pow, w64i (by omega)]
    have e : v / 256 ^ i % 256 = dig v i := rfl
    rw [e]
    have hl : (enc i big v).length < 100 := by rw [enc_length]; omega
    cases big with
    | true =>
      rw [if_pos rfl, Option.bind_some, if_pos (by simp only [List.length_singleton]; omega)]
      have : [dig v i] ++ enc i true v = enc (i + 1) true v := by simp [enc, le_succ]
      rw [this]
    | false =>
      rw [if_neg (by simp), if_pos (by omega)]
      have : enc i false v ++ [dig v i] = enc (i + 1) false v := by simp [enc, le_succ]
      rw [this]
theorem putR_ev {v : Int} (hv : U64 v) (n : Int) (big : Bool) : Ev (fun k => bezantref01_Put.f k v n big) (putSpec v n big) := by
  unfold bezantref01_Put.f putSpec
  rw [wideR_f]
  simp only [Option.bind_some]
  by_cases h : wideB n = true
  · simp only [if_pos h]
    obtain ⟨m, rfl, hm⟩ : ∃ m : Nat, n = (m : Int) ∧ m ≤ 8 := by
      rcases wide_cases h with rfl | rfl | rfl | rfl
      · exact ⟨1, rfl, by omega⟩
      · exact ⟨2, rfl, by omega⟩
      · exact ⟨4, rfl, by omega⟩
      · exact ⟨8, rfl, by omega⟩
    have := rput_ev hv m hm big m 0 (by omega) (by omega)
    have e : enc 0 big v = [] := by cases big <;> rfl
    rw [e] at this
    simpa using this
  · simp only [if_neg h]
    exact Ev.now _
def fitsB (v n : Int) : Bool := wideB n && decide (v < 256 ^ n.toNat)
theorem div_zero {v : Int} (hv : 0 ≤ v) (m : Int) (hm : 0 < m) : (v / m = 0) ↔ v < m := by
  constructor
  · intro h
    have := Int.emod_lt_of_pos v hm
    have e := Int.mul_ediv_add_emod v m
    rw [h] at e
    omega
  · intro h
    exact Int.ediv_eq_zero_of_lt hv h
theorem fits_f {v : Int} (hv : U64 v) (n : Int) : wire_Fits.f v n = some (fitsB v n) := by
  unfold wire_Fits.f fitsB
  rw [wide_f, Option.bind_some]
  obtain ⟨h0, h1⟩ := hv
  by_cases h : wideB n = true
  · rw [if_pos h, h, Bool.true_and]
    rcases wide_cases h with rfl | rfl | rfl | rfl
    · have e : shr .u64 v (wrap64 (8 * 1)) = v / 256 := by kernel_rfl
      rw [if_neg (by decide), if_pos (by decide +kernel), e]
      show some (v / 256 == 0) = some (decide (v < 256))
      congr 1
      rw [Bool.eq_iff_iff]
      simp
      omega
    · have e : shr .u64 v (wrap64 (8 * 2)) = v / 65536 := by kernel_rfl
      rw [if_neg (by decide), if_pos (by decide +kernel), e]
      show some (v / 65536 == 0) = some (decide (v < 65536))
      congr 1
      rw [Bool.eq_iff_iff]
      simp
      omega
    · have e : shr .u64 v (wrap64 (8 * 4)) = v / 4294967296 := by kernel_rfl
      rw [if_neg (by decide), if_pos (by decide +kernel), e]
      show some (v / 4294967296 == 0) = some (decide (v < 4294967296))
      congr 1
      rw [Bool.eq_iff_iff]
      simp
      omega
    · rw [if_pos rfl]
      show some true = some (decide (v < 18446744073709551616))
      rw [decide_eq_true (by omega)]
  · rw [if_neg h]
    simp [h]
theorem rfits_ev {v : Int} (hv : U64 v) (n : Nat) (hn : n ≤ 8) (d : Nat) : ∀ i, i ≤ n → n - i = d → Ev (fun k => bezantref01_Fits.l0 k (v / 256 ^ i) (n : Int) true (i : Int)) (decide (v < 256 ^ n)) := by
  induction d with
  | zero =>
    intro i h0 h1
    obtain rfl : i = n := by omega
    refine Ev.step (f := fun _ => some (decide (v < 256 ^ i))) (fun k => ?_) (Ev.now _)
    conv => lhs; unfold bezantref01_Fits.l0
    rw [if_neg (by omega), if_pos rfl]
    congr 1
    rw [Bool.eq_iff_iff]
    simp only [beq_iff_eq, decide_eq_true_eq]
    exact div_zero hv.1 _ (pow_pos i)
  | succ d ih =>
    intro i h0 h1
    refine Ev.step (fun k => ?_) (ih (i + 1) (by omega) (by omega))
    conv => lhs; unfold bezantref01_Fits.l0
    rw [if_pos (by omega), if_pos rfl, tdiv_u (u64_div hv i), div_pow, w64i (by omega)]
theorem fitsR_ev {v : Int} (hv : U64 v) (n : Int) (hn : n ≤ 9223372036854775807) : Ev (fun k => bezantref01_Fits.f k v n) (fitsB v n) := by
  unfold bezantref01_Fits.f fitsB
  rw [wideR_f]
  simp only [Option.bind_some]
  by_cases h : wideB n = true
  · rw [h, Bool.true_and]
    obtain ⟨m, rfl, hm⟩ : ∃ m : Nat, n = (m : Int) ∧ m ≤ 8 := by
      rcases wide_cases h with rfl | rfl | rfl | rfl
      · exact ⟨1, rfl, by omega⟩
      · exact ⟨2, rfl, by omega⟩
      · exact ⟨4, rfl, by omega⟩
      · exact ⟨8, rfl, by omega⟩
    have := rfits_ev hv m hm m 0 (by omega) (by omega)
    simpa using this
  · have h' : wideB n = false := by simpa using h
    rw [h', Bool.false_and]
    refine Ev.step (f := fun _ => some false) (fun k => ?_) (Ev.now _)
    conv => lhs; unfold bezantref01_Fits.l0
    by_cases c : 0 < n <;> simp [c]
def withinB (a n size : Int) : Bool := decide (a ≤ size) && decide (n ≤ size - a)
theorem within_f {a n size : Int} (ha : U64 a) (hs : U64 size) : wire_Within.f a n size = some (withinB a n size) := by
  obtain ⟨a0, a1⟩ := ha
  obtain ⟨s0, s1⟩ := hs
  unfold wire_Within.f withinB
  by_cases h : a ≤ size
  · rw [if_pos h, uw (by omega) (by omega), decide_eq_true h]
    rfl
  · rw [if_neg h, decide_eq_false h]
    rfl
/-- What Get tells. -/
def getSpec (l : List Int) (a n : Int) (big : Bool) : Int × Bool := if wideB n = true ∧ a + n ≤ l.length then (num big ((l.drop a.toNat).take n.toNat), true) else (0, false)
def seg (l : List Int) (a n : Nat) : List Int := (l.drop a).take n
theorem seg_length {l : List Int} {a n : Nat} (h : a + n ≤ l.length) : (seg l a n).length = n := by
  unfold seg
  rw [List.length_take, List.length_drop]
  omega
theorem rd_nat (l : List Int) (i : Nat) : rd l (i : Int) = l.getD i 0 := rfl
theorem seg_get {l : List Int} {a n j : Nat} (hj : j < n) : (seg l a n).getD j 0 = l.getD (a + j) 0 := by
  unfold seg
  rw [List.getD_eq_getElem?_getD, List.getD_eq_getElem?_getD, List.getElem?_take, if_pos hj, List.getElem?_drop]
theorem ord_get {l : List Int} {a n : Nat} (h : a + n ≤ l.length) (big : Bool) {i : Nat} (hi : i < n) : (ord big (seg l a n)).getD i 0 = l.getD (if big = true then a + i else a + (n - 1 - i)) 0 := by
  unfold ord
  cases big with
  | true => simp only [if_true]; exact seg_get hi
  | false =>
    simp only [Bool.false_eq_true, if_false]
    have hl := seg_length h
    rw [List.getD_eq_getElem?_getD, List.getElem?_reverse (by omega), hl, ← List.getD_eq_getElem?_getD, seg_get (by omega)]
theorem B_get {l : List Int} (h : B l) (i : Nat) : 0 ≤ l.getD i 0 ∧ l.getD i 0 ≤ 255 := by
  rw [List.getD_eq_getElem?_getD]
  cases e : l[i]? with
  | none => simp
  | some x => simpa using h x (List.mem_of_getElem? e)
theorem seg_B {l : List Int} (h : B l) (a n : Nat) : B (seg l a n) := fun x hx => h x (List.mem_of_mem_drop (List.mem_of_mem_take hx))
theorem take_snoc {o : List Int} {i : Nat} (h : i < o.length) : o.take (i + 1) = o.take i ++ [o.getD i 0] := by
  rw [List.take_add_one, List.getD_eq_getElem?_getD, List.getElem?_eq_getElem h]
  rfl
theorem part_range {o : List Int} (h : B o) {i : Nat} (hi : i ≤ 7) : 0 ≤ beNum (o.take i) ∧ beNum (o.take i) < 72057594037927936 := by
  have hr := beNum_range (l := o.take i) (fun x hx => h x (List.mem_of_mem_take hx))
  refine ⟨hr.1, Int.lt_of_lt_of_le hr.2 ?_⟩
  have : (o.take i).length ≤ 7 := by rw [List.length_take]; omega
  have h2 : (256 : Int) ^ (o.take i).length ≤ 256 ^ 7 := pow_mono this
  have : (256 : Int) ^ 7 = 72057594037927936 := by decide
  omega
theorem get_l0 {l : List Int} (hl : B l) (hm : l.length ≤ 9223372036854775807) {a n : Nat} (h : a + n ≤ l.length) (hn : n ≤ 8) (big : Bool) (d : Nat) : ∀ i, i ≤ n → n - i = d →
    Ev (fun k => wire_Get.l0 k l (a : Int) (n : Int) big (beNum ((ord big (seg l a n)).take i)) (n : Int) (i : Int)) (num big (seg l a n), true) := by
  have hlen : (ord big (seg l a n)).length = n := by rw [ord_length, seg_length h]
  induction d with
  | zero =>
    intro i h0 h1
    obtain rfl : i = n := by omega
    refine Ev.step (f := fun _ => some (num big (seg l a i), true)) (fun k => ?_) (Ev.now _)
    conv => lhs; unfold wire_Get.l0
    rw [if_neg (by omega), List.take_of_length_le (by omega)]
    rfl
  | succ d ih =>
    intro i h0 h1
    have hi : i < n := by omega
    refine Ev.step (fun k => ?_) (ih (i + 1) (by omega) (by omega))
    have hpr := part_range (ord_B (big := big) (seg_B hl a n)) (show i ≤ 7 by omega)
    have hg := ord_get h big hi
    rw [take_snoc (by omega), beNum_snoc, hg]
    generalize beNum ((ord big (seg l a n)).take i) = v at *
    conv => lhs; unfold wire_Get.l0
    rw [if_pos (by omega), w64i (by omega), uw (x := v * 256) (by omega) (by omega)]
    have hidx := idx_bw (a := a) (i := i) (by omega)
    have hidx2 := idx_lw (a := a) (n := n) (i := i) (Nat.le_trans h hm) hi
    cases big with
    | true =>
      have hb := B_get hl (a + i)
      rw [if_pos rfl, hidx, rd_nat, if_pos (by omega), if_pos (by omega)]
      simp only [if_true]
      rw [uw hb.1 (by omega), or_byte hpr.1 hpr.2 hb.1 hb.2]
    | false =>
      have hb := B_get hl (a + (n - 1 - i))
      rw [if_neg (by simp), hidx2, rd_nat, if_pos (by omega), if_pos (by omega)]
      simp only [Bool.false_eq_true, if_false]
      rw [uw hb.1 (by omega), or_byte hpr.1 hpr.2 hb.1 hb.2]
theorem rget_l0 {l : List Int} (hl : B l) (hm : l.length ≤ 9223372036854775807) {a n : Nat} (h : a + n ≤ l.length) (hn : n ≤ 8) (big : Bool) (d : Nat) : ∀ i, i ≤ n → n - i = d →
    Ev (fun k => bezantref01_Get.l0 k l (n : Int) big (a : Int) (beNum ((ord big (seg l a n)).take i)) (i : Int)) (num big (seg l a n), true) := by
  have hlen : (ord big (seg l a n)).length = n := by rw [ord_length, seg_length h]
  induction d with
  | zero =>
    intro i h0 h1
    obtain rfl : i = n := by omega
    refine Ev.step (f := fun _ => some (num big (seg l a i), true)) (fun k => ?_) (Ev.now _)
    conv => lhs; unfold bezantref01_Get.l0
    rw [if_neg (by omega), List.take_of_length_le (by omega)]
    rfl
  | succ d ih =>
    intro i h0 h1
    have hi : i < n := by omega
    refine Ev.step (fun k => ?_) (ih (i + 1) (by omega) (by omega))
    have hpr := part_range (ord_B (big := big) (seg_B hl a n)) (show i ≤ 7 by omega)
    have hg := ord_get h big hi
    rw [take_snoc (by omega), beNum_snoc, hg]
    generalize beNum ((ord big (seg l a n)).take i) = v at *
    conv => lhs; unfold bezantref01_Get.l0
    rw [if_pos (by omega), w64i (by omega)]
    have hidx : wrap64 ((a : Int) + (i : Int)) = ((a + i : Nat) : Int) := by rw [w64 (by omega) (by omega)]; omega
    have hidx2 := idx_le (a := a) (n := n) (i := i) (Nat.le_trans h hm) hi
    cases big with
    | true =>
      have hb := B_get hl (a + i)
      rw [if_pos rfl, hidx, rd_nat, if_pos (by omega), if_pos (by omega)]
      simp only [if_true]
      rw [sum_w hpr.1 hpr.2 hb.1 hb.2]
    | false =>
      have hb := B_get hl (a + (n - 1 - i))
      rw [if_neg (by simp), hidx2, rd_nat, if_pos (by omega), if_pos (by omega)]
      simp only [Bool.false_eq_true, if_false]
      rw [sum_w hpr.1 hpr.2 hb.1 hb.2]
theorem get_ev {l : List Int} (hl : B l) (hm : l.length ≤ 9223372036854775807) {a : Int} (ha : U64 a) (n : Int) (big : Bool) : Ev (fun k => wire_Get.f k l a n big) (getSpec l a n big) := by
  obtain ⟨a0, a1⟩ := id ha
  unfold wire_Get.f getSpec
  rw [wide_f]
  simp only [Option.bind_some]
  by_cases h : wideB n = true
  · have hn : 1 ≤ n ∧ n ≤ 8 := by rcases wide_cases h with rfl | rfl | rfl | rfl <;> omega
    simp only [if_pos h]
    rw [uw (x := n) (by omega) (by omega), uw (x := (l.length : Int)) (by omega) (by omega), within_f ha (by unfold U64; omega)]
    simp only [Option.bind_some]
    by_cases h2 : a + n ≤ l.length
    · have hw : withinB a n l.length = true := by unfold withinB; simp; omega
      rw [if_pos ⟨h, h2⟩, hw]
      obtain ⟨x, rfl⟩ := Int.eq_ofNat_of_zero_le a0
      obtain ⟨m, rfl⟩ := Int.eq_ofNat_of_zero_le (show 0 ≤ n by omega)
      refine Ev.step (fun k => ?_) (get_l0 hl hm (a := x) (n := m) (by omega) (by omega) big m 0 (by omega) (by omega))
      simp only [wire_Get.j0]
      rfl
    · have hw : withinB a n l.length = false := by
        unfold withinB
        rw [Bool.and_eq_false_iff]
        simp
        omega
      rw [if_neg (fun h => h2 h.2), hw]
      refine Ev.step (f := fun _ => some (0, false)) (fun k => ?_) (Ev.now _)
      simp only [wire_Get.j0]
      rfl
  · simp only [if_neg h]
    rw [if_neg (fun hh => h hh.1)]
    refine Ev.step (f := fun _ => some (0, false)) (fun k => ?_) (Ev.now _)
    conv => lhs; unfold wire_Get.j0
    rfl
theorem getR_ev {l : List Int} (hl : B l) (hm : l.length ≤ 9223372036854775807) {a : Int} (ha : U64 a) (n : Int) (big : Bool) : Ev (fun k => bezantref01_Get.f k l a n big) (getSpec l a n big) := by
  obtain ⟨a0, a1⟩ := id ha
  unfold bezantref01_Get.f getSpec
  rw [wideR_f]
  simp only [Option.bind_some]
  by_cases h : wideB n = true
  · have hn : 1 ≤ n ∧ n ≤ 8 := by rcases wide_cases h with rfl | rfl | rfl | rfl <;> omega
    simp only [if_pos h]
    rw [uw (x := (l.length : Int)) (by omega) (by omega)]
    by_cases c : a > l.length
    · rw [decide_eq_true c, if_neg (fun hh => by omega)]
      refine Ev.step (f := fun _ => some (0, false)) (fun k => ?_) (Ev.now _)
      conv => lhs; unfold bezantref01_Get.j0
      rfl
    · rw [decide_eq_false c]
      have e1 : wrap64 a = a := by unfold wrap64; omega
      have e2 : wrap64 ((l.length : Int) - a) = l.length - a := by unfold wrap64; omega
      by_cases h2 : a + n ≤ l.length
      · rw [if_pos ⟨h, h2⟩]
        obtain ⟨x, rfl⟩ := Int.eq_ofNat_of_zero_le a0
        obtain ⟨m, rfl⟩ := Int.eq_ofNat_of_zero_le (show 0 ≤ n by omega)
        refine Ev.step (fun k => ?_) (rget_l0 hl hm (a := x) (n := m) (by omega) (by omega) big m 0 (by omega) (by omega))
        simp only [bezantref01_Get.j0, Bool.false_eq_true, if_false]
        rw [e1, e2, if_neg (by omega)]
        rfl
      · rw [if_neg (fun hh => h2 hh.2)]
        refine Ev.step (f := fun _ => some (0, false)) (fun k => ?_) (Ev.now _)
        simp only [bezantref01_Get.j0, Bool.false_eq_true, if_false]
        rw [e1, e2, if_pos (by omega)]
  · simp only [if_neg h]
    rw [if_neg (fun hh => h hh.1)]
    refine Ev.step (f := fun _ => some (0, false)) (fun k => ?_) (Ev.now _)
    conv => lhs; unfold bezantref01_Get.j0
    rfl
end Go.Proofs.Yteohkpfacjjaeaa.QDynWire

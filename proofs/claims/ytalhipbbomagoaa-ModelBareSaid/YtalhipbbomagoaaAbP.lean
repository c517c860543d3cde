/- Plain lemmas on what wire's functions, and the document's answers for them, tell: no program in them. -/
import Derived.Test.YtalhipbbomagoaaNum
import Derived.Test.YtalhipbbomagoaaAbV
import Derived.KernelRfl
namespace Go.Proofs.Ytalhipbbomagoaa.AbP
open Go.RowKit Go.Proofs.Ytalhipbbomagoaa.Num Go.Proofs.Ytalhipbbomagoaa.Ab
set_option linter.unusedVariables false
set_option linter.unusedSimpArgs false
def U64 (x : Int) : Prop := 0 ≤ x ∧ x ≤ 18446744073709551615
theorem uw {x : Int} (h0 : 0 ≤ x) (h1 : x ≤ 18446744073709551615) : IntKind.u64.wrap x = x := IntWalk.u64_in x ⟨h0, h1⟩
def wideB (n : Int) : Bool := decide (n = 1) || decide (n = 2) || decide (n = 4) || decide (n = 8)
theorem wide_cases {n : Int} (h : wideB n = true) : n = 1 ∨ n = 2 ∨ n = 4 ∨ n = 8 := by
  unfold wideB at h
  simp at h
  omega
def putSpec (v n : Int) (big : Bool) : List Int := if wideB n = true then enc n.toNat big v else []
theorem tdiv_u {v : Int} (h : U64 v) : IntKind.u64.wrap (Int.tdiv v 256) = v / 256 := by
  obtain ⟨h0, h1⟩ := h
  rw [Int.tdiv_eq_ediv_of_nonneg h0, uw (by omega) (by omega)]
theorem div_pow (v : Int) (i : Nat) : v / 256 ^ i / 256 = v / 256 ^ (i + 1) := by
  rw [Int.pow_succ, ← Int.ediv_ediv_of_nonneg (Int.le_of_lt (pow_pos i))]
theorem u64_div {v : Int} (h : U64 v) (i : Nat) : U64 (v / 256 ^ i) := by
  obtain ⟨h0, h1⟩ := h
  have hp := pow_pos i
  refine ⟨Int.ediv_nonneg h0 (Int.le_of_lt hp), ?_⟩
  have := Int.ediv_le_self (256 ^ i) h0
  omega
theorem pow_mono {i j : Nat} (h : i ≤ j) : (256 : Int) ^ i ≤ 256 ^ j := by
  induction h with
  | refl => exact Int.le_refl _
  | step h ih =>
    rw [Int.pow_succ]
    have := pow_pos i
    omega
def fitsB (v n : Int) : Bool := wideB n && decide (v < 256 ^ n.toNat)
theorem div_zero {v : Int} (hv : 0 ≤ v) (m : Int) (hm : 0 < m) : (v / m = 0) ↔ v < m := by
  constructor
  · intro h
    have := Int.emod_lt_of_pos v hm
    have e := Int.mul_ediv_add_emod v m
    rw [h] at e
    omega
  · intro h
    exact Int.ediv_eq_zero_of_lt hv h
def withinB (a n size : Int) : Bool := decide (a ≤ size) && decide (n ≤ size - a)
def getSpec (l : List Int) (a n : Int) (big : Bool) : Int × Bool := if wideB n = true ∧ a + n ≤ l.length then (num big ((l.drop a.toNat).take n.toNat), true) else (0, false)
def seg (l : List Int) (a n : Nat) : List Int := (l.drop a).take n
theorem seg_length {l : List Int} {a n : Nat} (h : a + n ≤ l.length) : (seg l a n).length = n := by
  unfold seg
  rw [List.length_take, List.length_drop]
  omega
theorem seg_get {l : List Int} {a n j : Nat} (hj : j < n) : (seg l a n).getD j 0 = l.getD (a + j) 0 := by
  unfold seg
  rw [List.getD_eq_getElem?_getD, List.getD_eq_getElem?_getD, List.getElem?_take, if_pos hj, List.getElem?_drop]
theorem ord_get {l : List Int} {a n : Nat} (h : a + n ≤ l.length) (big : Bool) {i : Nat} (hi : i < n) : (ord big (seg l a n)).getD i 0 = l.getD (if big = true then a + i else a + (n - 1 - i)) 0 := by
  unfold ord
  cases big with
  | true => simp only [if_true]; exact seg_get hi
  | false =>
    simp only [Bool.false_eq_true, if_false]
    have hl := seg_length h
    rw [List.getD_eq_getElem?_getD, List.getElem?_reverse (by omega), hl, ← List.getD_eq_getElem?_getD, seg_get (by omega)]
theorem B_get {l : List Int} (h : B l) (i : Nat) : 0 ≤ l.getD i 0 ∧ l.getD i 0 ≤ 255 := by
  rw [List.getD_eq_getElem?_getD]
  cases e : l[i]? with
  | none => simp
  | some x => simpa using h x (List.mem_of_getElem? e)
theorem seg_B {l : List Int} (h : B l) (a n : Nat) : B (seg l a n) := fun x hx => h x (List.mem_of_mem_drop (List.mem_of_mem_take hx))
theorem take_snoc {o : List Int} {i : Nat} (h : i < o.length) : o.take (i + 1) = o.take i ++ [o.getD i 0] := by
  rw [List.take_add_one, List.getD_eq_getElem?_getD, List.getElem?_eq_getElem h]
  rfl
theorem part_range {o : List Int} (h : B o) {i : Nat} (hi : i ≤ 7) : 0 ≤ beNum (o.take i) ∧ beNum (o.take i) < 72057594037927936 := by
  have hr := beNum_range (l := o.take i) (fun x hx => h x (List.mem_of_mem_take hx))
  refine ⟨hr.1, Int.lt_of_lt_of_le hr.2 ?_⟩
  have : (o.take i).length ≤ 7 := by rw [List.length_take]; omega
  have h2 : (256 : Int) ^ (o.take i).length ≤ 256 ^ 7 := pow_mono this
  have : (256 : Int) ^ 7 = 72057594037927936 := by decide
  omega
/-- bytes as cells -/
def byV (l : List Int) : List Value := l.map fun x => .int .u8 x
theorem byV_len (l : List Int) : (byV l).length = l.length := by simp [byV]
theorem byV_append (a b : List Int) : byV (a ++ b) = byV a ++ byV b := by simp [byV]
theorem byV_get {l : List Int} {i : Nat} (h : i < l.length) : (byV l)[i]? = some (.int .u8 (l.getD i 0)) := by
  unfold byV
  rw [List.getElem?_map, List.getElem?_eq_getElem h, List.getD_eq_getElem?_getD, List.getElem?_eq_getElem h]
  rfl
theorem iw {x : Int} (h0 : -9223372036854775808 ≤ x) (h1 : x ≤ 9223372036854775807) : IntKind.i64.wrap x = x := IntWalk.i64_in x ⟨h0, h1⟩
theorem w8 {x : Int} (h0 : 0 ≤ x) (h1 : x ≤ 255) : IntKind.u8.wrap x = x := IntWalk.u8_in x ⟨h0, h1⟩
theorem w16 {x : Int} (h0 : 0 ≤ x) (h1 : x ≤ 65535) : IntKind.u16.wrap x = x := IntWalk.u16_in x ⟨h0, h1⟩
theorem w32 {x : Int} (h0 : 0 ≤ x) (h1 : x ≤ 4294967295) : IntKind.u32.wrap x = x := IntWalk.u32_in x ⟨h0, h1⟩
theorem dlt {x y : Int} (h : x < y) : decide (x < y) = true := decide_eq_true h
theorem dltF {x y : Int} (h : ¬ x < y) : decide (x < y) = false := decide_eq_false h
theorem dle {x y : Int} (h : x ≤ y) : decide (x ≤ y) = true := decide_eq_true h
theorem dleF {x y : Int} (h : ¬ x ≤ y) : decide (x ≤ y) = false := decide_eq_false h
theorem deq {x y : Int} (h : x = y) : decide (x = y) = true := decide_eq_true h
theorem deqF {x y : Int} (h : ¬ x = y) : decide (x = y) = false := decide_eq_false h
theorem dne {x y : Int} (h : ¬ x = y) : decide (¬ x = y) = true := decide_eq_true h
theorem dneF {x y : Int} (h : x = y) : decide (¬ x = y) = false := decide_eq_false (fun k => k h)
section
variable {P : Program} {K : Fr → Hp → Prop} {Q : QA} {f : Fr} {h : Hp} {cs : List CO} {d : Option Nat} {kp kq : Bool} {pr : List Operand}
theorem rowV_spot {h : Hp} {es : Nat} {a : Addr} {n c : Nat} {l : List Value} (hr : rowV h es (.slice (some a) n c) = some l) (hl : 0 < l.length) : a.spot = none := by
  have := rowV_cell hr (j := 0) (v := l[0]) (by simp [hl])
  rw [show a.add 0 = a from rfl] at this
  unfold Hp.cell? at this
  cases hs : a.spot with
  | none => rfl
  | some x =>
    simp only [hs, Option.isSome_some, if_true] at this
    split at this
    · obtain ⟨u, hu, _⟩ := Option.bind_eq_some_iff.1 this
      unfold World.cell? at hu
      split at hu
      · simp [hs] at hu
      · simp at hu
    · simp at this
/-- an index into a row that is read -/
theorem s_ix {t : Nat} {x i : Operand} {A : Option Addr} {n c : Nat} {j : Int} {k : IntKind} {l : List Value} {v : Value} (hx : evF f x = .slice A n c) (hi : evF f i = .int k j) (hr : rowV h 1 (.slice A n c) = some l) (h0 : 0 ≤ j) (h1 : j < n) (hv : l[j.toNat]? = some v) (hk : ∀ u, aops P (.tmp t :: pr) cs K (putF (putF f (some t) u) d v) h) :
    aops P pr (⟨some t, none, kp, .f (.iad 1 x i)⟩ :: ⟨d, none, kq, .f (.ld none (.tmp t))⟩ :: cs) K f h := by
  obtain ⟨a, rfl⟩ := rowV_some hr (by omega)
  refine s_f (v := .pointer (some (a.add (j.toNat * 1)))) (by simp only [FOp.run, hx, hi]; rw [if_pos ⟨h0, h1⟩]) ?_
  refine s_ld (a := a.add (j.toNat * 1)) (by show putF f (some t) _ t = _; simp [putF]) ?_ (hk _)
  rw [Nat.mul_one]
  exact rowV_cell hr hv
theorem u_lp {a : AC} (n : Nat) (hk : rnds (awp P a) Q n f h) : awp P (.loop a) Q f h := ⟨n, hk⟩
theorem u_st {a : AC} {n : Nat} (hk : awp P a (thenA (rnds (awp P a) Q n) Q) f h) : rnds (awp P a) Q (n + 1) f h := hk
end
theorem b_shl8 {k : IntKind} {x : Int} (h0 : 0 ≤ x) (h1 : x < 72057594037927936) : abin .shl (.int .u64 x) (.int k 8) = some (.int .u64 (x * 256)) := by
  rw [b_shl _ _ _ _ (by omega)]
  show some (Value.int .u64 (IntKind.u64.wrap (x * 256))) = _
  rw [uw (by omega) (by omega)]
theorem b_or8 {x b : Int} (h0 : 0 ≤ x) (h1 : x < 72057594037927936) (hb0 : 0 ≤ b) (hb1 : b ≤ 255) : abin .or (.int .u64 (x * 256)) (.int .u64 b) = some (.int .u64 (x * 256 + b)) := by
  rw [b_or]
  exact congrArg (fun z => some (Value.int .u64 z)) (or_byte h0 h1 hb0 hb1)
theorem add_b (b o i : Nat) : Addr.add ⟨b, o, none⟩ i = ⟨b, o + i, none⟩ := by
  unfold Addr.add
  split
  · rename_i h; rw [h]; rfl
  · rfl
section
variable {P : Program} {K : Fr → Hp → Prop} {f : Fr} {h : Hp} {cs : List CO} {d : Option Nat} {kp : Bool} {pr : List Operand}
/-- the address of an element of a block of one's own -/
theorem s_ia {es : Nat} {x i : Operand} {b n c : Nat} {k : IntKind} {j : Int} (hx : evF f x = .slice (some ⟨b, 0, none⟩) n c) (hi : evF f i = .int k j) (h0 : 0 ≤ j) (h1 : j < n) (hk : aops P pr cs K (putF f d (.pointer (some ⟨b, j.toNat * es, none⟩))) h) : aops P pr (⟨d, none, kp, .f (.iad es x i)⟩ :: cs) K f h :=
  s_f (v := .pointer (some ⟨b, j.toNat * es, none⟩)) (by simp only [FOp.run, hx, hi]; rw [if_pos ⟨h0, h1⟩, add_b, Nat.zero_add]) hk
end
theorem bits_or (k : IntKind) (a b : Int) : k.wrap (BitVec.ofInt k.bits a ||| BitVec.ofInt k.bits b).toNat = Go.bits .or k a b := rfl
theorem wide_nat {n : Int} (h : wideB n = true) : ∃ m : Nat, n = (m : Int) ∧ 1 ≤ m ∧ m ≤ 8 := by
  rcases wide_cases h with rfl | rfl | rfl | rfl
  · exact ⟨1, rfl, by omega, by omega⟩
  · exact ⟨2, rfl, by omega, by omega⟩
  · exact ⟨4, rfl, by omega, by omega⟩
  · exact ⟨8, rfl, by omega, by omega⟩
theorem putSpec_len (v n : Int) (big : Bool) : (putSpec v n big).length = if wideB n = true then n.toNat else 0 := by
  unfold putSpec
  split
  · rw [enc_length]
  · rfl
theorem putSpec_le (v n : Int) (big : Bool) : (putSpec v n big).length ≤ 8 := by
  rw [putSpec_len]
  split
  · rename_i h
    rcases wide_cases h with rfl | rfl | rfl | rfl <;> decide
  · omega
theorem putSpec_B (v n : Int) (big : Bool) : B (putSpec v n big) := by
  unfold putSpec
  split
  · exact enc_B _ _ _
  · intro x hx; cases hx
end Go.Proofs.Ytalhipbbomagoaa.AbP

/- The law WireTurned, told as a plain Lean function, answers true for every input; and its walk. -/
import Derived.Test.YteohkpfacjjaeaaNWirex5
import Derived.Test.YteohkpfacjjaeaaPureWireTells
import Derived.Test.YteohkpfacjjaeaaOpens
namespace Go.Proofs.Yteohkpfacjjaeaa.WireTurnedLaw
open Go.RowKit Go.Proofs.Yteohkpfacjjaeaa.MWire Go.Proofs.YteohkpfacjjaeaaW.PrintWords Go.Proofs.YteohkpfacjjaeaaW.PrintLast Go.Proofs.Yteohkpfacjjaeaa.Num Go.Proofs.Yteohkpfacjjaeaa.WirePure Go.Proofs.Yteohkpfacjjaeaa.Pure
set_option linter.unusedVariables false
theorem enc_not (n : Nat) (big : Bool) (v : Int) : enc n (!big) v = (enc n big v).reverse := by
  unfold enc
  cases big <;> simp
theorem enc_turned {n : Nat} (big : Bool) (v : Int) {i : Nat} (hi : i < n) : (enc n big v).getD i 0 = (enc n (!big) v).getD (n - 1 - i) 0 := by
  have hl := enc_length n big v
  rw [enc_not, List.getD_eq_getElem?_getD, List.getD_eq_getElem?_getD, List.getElem?_reverse (by omega), hl]
  congr 2
  omega
theorem pick4 (a : Int) : ∃ i : Nat, Int.tmod (wrap64 (Int.tmod a 4 + 4)) 4 = (i : Int) ∧ i < 4 := by
  have h1 : -4 < Int.tmod a 4 := by
    have := Int.lt_tmod_of_pos a (show (0 : Int) < 4 by decide)
    omega
  have h2 : Int.tmod a 4 < 4 := Int.tmod_lt_of_pos a (by decide)
  rw [w64 (by omega) (by omega), Int.tmod_eq_emod_of_nonneg (by omega)]
  exact ⟨((Int.tmod a 4 + 4) % 4).toNat, by omega, by omega⟩
theorem width (i : Nat) (h : i < 4) : ∃ n : Nat, rd [1, 2, 4, 8] (i : Int) = (n : Int) ∧ wideB (n : Int) = true ∧ n ≤ 8 ∧ 1 ≤ n := by
  have : i = 0 ∨ i = 1 ∨ i = 2 ∨ i = 3 := by omega
  rcases this with rfl | rfl | rfl | rfl
  · exact ⟨1, rfl, rfl, by omega, by omega⟩
  · exact ⟨2, rfl, rfl, by omega, by omega⟩
  · exact ⟨4, rfl, rfl, by omega, by omega⟩
  · exact ⟨8, rfl, rfl, by omega, by omega⟩
theorem j2_ev {l : List Int} (hl : B l) (hm : l.length ≤ 1000) {a : Int} (ha : U64 a) (n : Nat) (hw : wideB (n : Int) = true) (hn : n ≤ 8) (big : Bool) : Ev (fun k => bezantlaw01_WireTurned.j2 k l big a true (n : Int) false) true := by
  obtain ⟨a0, a1⟩ := id ha
  refine Ev.step (fun k => by simp only [bezantlaw01_WireTurned.j2, Bool.false_eq_true, if_false]; rfl) ?_
  refine Ev.bind (get_ev hl (by omega) ha n big) ?_
  rw [uw (x := (n : Int)) (by omega) (by omega), uw (x := (l.length : Int)) (by omega) (by omega), within_f ha (by unfold U64; omega)]
  simp only [Option.bind_some]
  unfold getSpec
  by_cases h : a + n ≤ l.length
  · rw [if_pos ⟨hw, h⟩, show withinB a n l.length = true by unfold withinB; simp; omega]
    simp only [bne_self_eq_false, Bool.false_eq_true, if_false, if_true]
    refine Ev.bind (put_ev _ _ _) ?_
    rw [w64 (x := a) (by omega) (by omega), w64 (x := a + n) (by omega) (by omega)]
    simp only [if_pos a0, if_pos (show a ≤ a + (n : Int) by omega), if_pos h]
    have e : putSpec (num big ((l.drop a.toNat).take (n : Int).toNat)) (n : Int) big = (l.drop a.toNat).take n := by
      unfold putSpec
      rw [if_pos hw, Int.toNat_natCast]
      have hB := seg_B hl a.toNat n
      have hL := seg_length (l := l) (a := a.toNat) (n := n) (by omega)
      have := enc_num (big := big) hB
      rw [hL] at this
      exact this
    have e2 : (l.take (a + (n : Int)).toNat).drop a.toNat = (l.drop a.toNat).take n := by
      rw [List.drop_take]
      congr 1
      omega
    rw [e, e2]
    simp only [beq_self_eq_true]
    exact Ev.now _
  · rw [if_neg (fun hh => h hh.2), show withinB a n l.length = false by unfold withinB; rw [Bool.and_eq_false_iff]; simp; omega]
    simp only [bne_self_eq_false, Bool.false_eq_true, if_false, if_true, beq_self_eq_true]
    exact Ev.now _
theorem B_append {a b : List Int} (ha : B a) (hb : B b) : B (a ++ b) := by
  intro x hx
  rcases List.mem_append.1 hx with h | h
  · exact ha x h
  · exact hb x h
theorem get_append {l c : List Int} (n : Nat) (hn : c.length = n) (hw : wideB (n : Int) = true) (big : Bool) : getSpec (l ++ c) (l.length : Int) (n : Int) big = (num big c, true) := by
  unfold getSpec
  rw [if_pos ⟨hw, by rw [List.length_append]; omega⟩, Int.toNat_natCast, Int.toNat_natCast, List.drop_left, List.take_of_length_le (by omega)]
theorem mod_fits {v : Int} (hv : U64 v) {n : Nat} (hw : wideB (n : Int) = true) : (v % 256 ^ n == v) = fitsB v n := by
  unfold fitsB
  rw [hw, Bool.true_and, Int.toNat_natCast, Bool.eq_iff_iff]
  simp only [beq_iff_eq, decide_eq_true_eq]
  have hp := pow_pos n
  constructor
  · intro h
    have := Int.emod_lt_of_pos v hp
    omega
  · intro h
    exact Int.emod_eq_of_lt hv.1 h
theorem l0_ev {l : List Int} (hl : B l) (hm : l.length ≤ 1000) {v a : Int} (hv : U64 v) (ha : U64 a) (n : Nat) (hw : wideB (n : Int) = true) (hn : n ≤ 8) (big : Bool) (d : Nat) : ∀ i, i ≤ n → n - i = d →
    Ev (fun k => bezantlaw01_WireTurned.l0 k l v big a true (n : Int) (enc n big v) (enc n (!big) v) (i : Int)) true := by
  have hc := enc_length n big v
  have hc' := enc_length n (!big) v
  induction d with
  | zero =>
    intro i h0 h1
    obtain rfl : i = n := by omega
    refine Ev.step (f := fun k => (wire_Get.f k (l ++ enc i big v) (l.length : Int) (i : Int) big).bind fun bt181 => (if bt181.2 = true then ((wire_Fits.f v i).bind fun t183 => (bezantlaw01_WireTurned.j2 k l big a true (i : Int) ((bt181.1 == v) != t183))) else (bezantlaw01_WireTurned.j2 k l big a true (i : Int) true))) (fun k => by
      conv => lhs; unfold bezantlaw01_WireTurned.l0
      rw [if_neg (by omega), Option.bind_some, if_pos (by simp only [List.length_nil]; omega), Option.bind_some, if_pos (by simp only [List.nil_append]; omega), List.nil_append, uw (x := (l.length : Int)) (by omega) (by omega)]) ?_
    refine Ev.bind (get_ev (B_append hl (enc_B i big v)) (by rw [List.length_append, enc_length]; omega) (show U64 (l.length : Int) by unfold U64; omega) i big) ?_
    rw [get_append i hc hw big]
    simp only [if_true]
    rw [fits_f hv]
    simp only [Option.bind_some]
    rw [num_enc, mod_fits hv hw, bne_self_eq_false]
    exact j2_ev hl hm ha i hw hn big
  | succ d ih =>
    intro i h0 h1
    have hi : i < n := by omega
    have e1 : wrap64 (wrap64 ((n : Int) - 1) - (i : Int)) = ((n - 1 - i : Nat) : Int) := by
      rw [w64 (x := (n : Int) - 1) (by omega) (by omega), w64 (by omega) (by omega)]
      omega
    refine Ev.step (fun k => by
      conv => lhs; unfold bezantlaw01_WireTurned.l0
      rw [if_pos (by omega), if_pos (by omega), if_pos (by omega), e1, if_pos (by omega), if_pos (by omega), rd_nat, rd_nat, if_pos (enc_turned big v hi), w64i (by omega)]
      ) (ih (i + 1) (by omega) (by omega))
theorem WireTurned' (l : List Int) (v a : Int) (big : Bool) (at_ : Int) (hm : l.length ≤ maxLen) (hl : ∀ x ∈ l, (Lit.int .u8 x).wf = true) (hv : (Lit.int .u64 v).wf = true) (hat : (Lit.int .u64 at_).wf = true) : ∃ k, bezantlaw01_WireTurned.f k l v a big at_ = some true := by
  have hB := B_of hl
  have hV := u64_of hv
  have hA := u64_of hat
  refine Ev.rounds ?_
  unfold bezantlaw01_WireTurned.f
  refine Ev.bind up_ev ?_
  by_cases c : (l.length : Int) > 1000
  · simp only [if_pos c]
    exact Ev.now _
  · simp only [if_neg c, Option.bind_some]
    obtain ⟨i, hi, hi4⟩ := pick4 a
    obtain ⟨n, hn, hw, h8, h1⟩ := width i hi4
    rw [hi, hn]
    simp only [if_pos (show (0 : Int) ≤ (i : Int) by omega), if_pos (show (i : Int) < (([1, 2, 4, 8] : List Int).length : Int) by simp only [List.length_cons, List.length_nil]; omega)]
    refine Ev.bind (put_ev v n big) ?_
    refine Ev.bind (put_ev v n (!big)) ?_
    unfold putSpec
    rw [if_pos hw, if_pos hw, Int.toNat_natCast]
    simp only [enc_length, if_true, bne_self_eq_false]
    refine Ev.step (fun k => by simp only [bezantlaw01_WireTurned.j0, Bool.false_eq_true, if_false]; rfl) (l0_ev hB (by omega) hV hA n hw h8 big n 0 (by omega) (by omega))
theorem walk (w : World) (A : Option Addr) (c : Nat) (l : List Int) (hr : (Kd.int .u8).C w A l.length l) (hc : l.length ≤ c) (hm : l.length ≤ maxLen) (hg : ∀ y ∈ l, (Lit.int .u8 y).wf = true)
    (v : Int) (hv : (Lit.int .u64 v).wf = true) (k : Int) (hk : (Lit.int .i64 k).wf = true) (big : Bool) (a : Int) (ha : (Lit.int .u64 a).wf = true) :
    Calls Try.prog 8 #[.slice A l.length c, .int .u64 v, .int .i64 k, .bool big, .int .u64 a] w fun e w' => e = .returned (.bool true) ∧ Below w.heap.size w w' := by
  obtain ⟨m, h⟩ := WireTurned' l v k big a hm hg hv ha
  exact bezantlaw01_WireTurned.calls m A c l _ _ _ _ true w hr hc h
end Go.Proofs.Yteohkpfacjjaeaa.WireTurnedLaw

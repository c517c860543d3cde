/- Plain lemmas: rows that are put and got. No statement of the set is proved in this text. -/
import Derived.Test.YtalhipbbomagoaaPvRow
namespace Go.Proofs.Ytalhipbbomagoaa.PvW
open Go.RowKit Go.Proofs.Ytalhipbbomagoaa.AbP Go.Proofs.Ytalhipbbomagoaa.Num Go.Proofs.Ytalhipbbomagoaa.Pv
set_option maxRecDepth 100000
set_option maxHeartbeats 4000000
set_option linter.unusedVariables false
set_option linter.unusedSimpArgs false
theorem fits_cases {v n : Int} (h : fitsB v n = true) : ∃ m : Nat, n = (m : Int) ∧ 1 ≤ m ∧ m ≤ 8 ∧ wideB n = true ∧ v < 256 ^ m := by
  unfold fitsB at h
  rw [Bool.and_eq_true] at h
  obtain ⟨m, rfl, h1, h2⟩ := wide_nat h.1
  refine ⟨m, rfl, h1, h2, h.1, ?_⟩
  have := h.2
  simpa using this
theorem putSpec_nat {v : Int} {m : Nat} {big : Bool} (hw : wideB (m : Int) = true) : putSpec v m big = enc m big v := by
  unfold putSpec
  rw [if_pos hw]
  rfl
/-- what was put is got, whatever stands around it -/
theorem gets_put {big : Bool} : ∀ (p : List (Int × Int)) (pre post : List Int), rowOk p = true → (∀ q ∈ p, 0 ≤ q.1) → gets (pre ++ (rowB big p ++ post)) big pre.length (p.map (·.2)) = p.map (·.1)
  | [], pre, post, _, _ => rfl
  | (v, n) :: p, pre, post, hok, h0 => by
    have hok' : fitsB v n = true ∧ rowOk p = true := by
      simp only [rowOk, List.all_cons, Bool.and_eq_true] at hok
      exact hok
    obtain ⟨m, rfl, h1, h2, hw, hv⟩ := fits_cases hok'.1
    have hrow : rowB big ((v, (m : Int)) :: p) = enc m big v ++ rowB big p := by
      show putSpec v m big ++ rowB big p = _
      rw [putSpec_nat hw]
    have hel : (enc m big v).length = m := enc_length _ _ _
    show (getSpec _ _ _ _).1 :: gets _ big _ (p.map (·.2)) = v :: p.map (·.1)
    rw [hrow]
    congr 1
    · unfold getSpec
      rw [if_pos ⟨hw, by simp only [List.length_append, hel]; omega⟩]
      show num big _ = v
      have : ((pre ++ (enc m big v ++ rowB big p ++ post)).drop ((pre.length : Int)).toNat).take ((m : Int)).toNat = enc m big v := by
        rw [Int.toNat_natCast, Int.toNat_natCast, List.drop_left, List.append_assoc]
        exact List.take_left' hel
      rw [this, num_enc]
      exact Int.emod_eq_of_lt (h0 (v, (m : Int)) (by simp)) hv
    · have := gets_put (big := big) p (pre ++ enc m big v) post hok'.2 (fun q hq => h0 q (by simp [hq]))
      rw [← this]
      simp only [List.length_append, hel, List.append_assoc]
      rfl
/-- what is got, put, is those bytes -/
theorem put_gets {b : List Int} {big : Bool} (hB : B b) : ∀ (ns : List Int) (a : Nat), (∀ n ∈ ns, wideB n = true) → (a : Int) + sumL ns ≤ b.length →
    rowOk ((gets b big a ns).zip ns) = true ∧ rowB big ((gets b big a ns).zip ns) = (b.take (a + (sumL ns).toNat)).drop a ∧ ∀ x ∈ gets b big a ns, U64 x
  | [], a, _, _ => by simp [gets, rowOk, rowB, sumL]
  | n :: ns, a, hw, h => by
    have hge := sumL_ge (ns := ns) (fun x hx => hw x (by simp [hx]))
    have hwn := hw n (by simp)
    obtain ⟨m, rfl, h1, h2⟩ := wide_nat hwn
    have h' : (a : Int) + ((m : Int) + sumL ns) ≤ b.length := h
    have ih := put_gets (big := big) hB ns (a + m) (fun x hx => hw x (by simp [hx])) (by push_cast; omega)
    have hseg : (seg b a m).length = m := seg_length (by omega)
    have hsB : B (seg b a m) := seg_B hB a m
    have hg : (getSpec b a m big).1 = num big (seg b a m) := by
      unfold getSpec seg
      rw [if_pos ⟨hwn, by omega⟩, Int.toNat_natCast, Int.toNat_natCast]
    have hr := num_range (big := big) hsB
    rw [hseg] at hr
    have hp8 : (256 : Int) ^ m ≤ 256 ^ 8 := pow_mono h2
    have he : gets b big a ((m : Int) :: ns) = num big (seg b a m) :: gets b big ((a + m : Nat) : Int) ns := by
      show (getSpec b a m big).1 :: gets b big ((a : Int) + m) ns = _
      rw [hg]
      rfl
    have hfit : fitsB (num big (seg b a m)) m = true := by
      unfold fitsB
      rw [hwn, Bool.true_and, Int.toNat_natCast]
      exact decide_eq_true hr.2
    obtain ⟨i1, i2, i3⟩ := ih
    rw [he]
    refine ⟨?_, ?_, ?_⟩
    · show (fitsB _ _ && rowOk ((gets b big ((a + m : Nat) : Int) ns).zip ns)) = true
      rw [hfit, i1]
      rfl
    · show putSpec (num big (seg b a m)) m big ++ rowB big ((gets b big ((a + m : Nat) : Int) ns).zip ns) = _
      rw [i2, putSpec_nat hwn]
      have : enc m big (num big (seg b a m)) = seg b a m := by
        have := enc_num (big := big) hsB
        rw [hseg] at this
        exact this
      rw [this]
      have e1 : (a + (sumL ((m : Int) :: ns)).toNat) = a + m + (sumL ns).toNat := by
        have : sumL ((m : Int) :: ns) = (m : Int) + sumL ns := rfl
        rw [this]
        omega
      rw [e1]
      unfold seg
      rw [List.drop_take, List.drop_take, ← List.drop_drop]
      have e2 : a + m + (sumL ns).toNat - a = m + (sumL ns).toNat := by omega
      have e3 : a + m + (sumL ns).toNat - (a + m) = (sumL ns).toNat := by omega
      rw [e2, e3, ← List.take_add]
    · intro x hx
      rcases List.mem_cons.1 hx with rfl | hx
      · have : (256 : Int) ^ 8 = 18446744073709551616 := by decide
        exact ⟨hr.1, by omega⟩
      · exact i3 x hx
theorem B_append {a b : List Int} (ha : B a) (hb : B b) : B (a ++ b) := by
  intro x hx
  rcases List.mem_append.1 hx with h | h
  · exact ha x h
  · exact hb x h
theorem fits4 {v n : Int} (h : fitsB v n = true) (hn : n = 4) : v ≤ 4294967295 := by
  subst hn
  obtain ⟨m, e, h1, h2, h3, h4⟩ := fits_cases h
  obtain rfl : m = 4 := by omega
  have : (256 : Int) ^ 4 = 4294967296 := by decide
  omega
theorem w32' {x : Int} (h : U64 x) (h1 : x ≤ 4294967295) : IntKind.u32.wrap x = x := w32 h.1 h1
end Go.Proofs.Ytalhipbbomagoaa.PvW

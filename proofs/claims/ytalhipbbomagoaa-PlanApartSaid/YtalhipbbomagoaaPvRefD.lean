/- The document's plan and the program's are one: plain laws. No statement of the set is proved in this text. -/
import Derived.Test.YtalhipbbomagoaaPvRefC
import Derived.Test.YtalhipbbomagoaaPvPlanC
namespace Go.Proofs.Ytalhipbbomagoaa.PvW
open Go.RowKit Go.Proofs.Ytalhipbbomagoaa.Cd Go.Proofs.Ytalhipbbomagoaa.AbP Go.Proofs.Ytalhipbbomagoaa.Num Go.Proofs.Ytalhipbbomagoaa.Pv
set_option maxRecDepth 100000
set_option maxHeartbeats 4000000
set_option linter.unusedVariables false
set_option linter.unusedSimpArgs false
/-- the next place, as the document has it -/
def nextI (a v al : Int) : Int :=
  if 65536 < a then 100000 else if al ≤ 1 then a else if 65536 < al then (if v % al < a then 100000 else v % al) else a + (v - a) % al
theorem next_mod {a v al j : Int} (hal : 0 < al) (h0 : 0 ≤ j) (h1 : j ≤ (v - a) % al) : (a + j) % al = v % al ↔ j = (v - a) % al := by
  have hd0 := Int.emod_nonneg (v - a) (show al ≠ 0 by omega)
  have hd1 := Int.emod_lt_of_pos (v - a) hal
  have e : v - (a + j) = ((v - a) % al - j) + al * ((v - a) / al) := by
    have := Int.mul_ediv_add_emod (v - a) al
    omega
  rw [eq_comm, Int.emod_eq_emod_iff_emod_sub_eq_zero, e, Int.add_mul_emod_self_left, Int.emod_eq_of_lt (by omega) (by omega)]
  omega
theorem pow_of : ∀ (n : Nat), 0 < n → powN n → ∃ k, n = 2 ^ k
  | n, h0, h => by
    by_cases h1 : 1 < n ∧ n % 2 = 0
    · obtain ⟨k, hk⟩ := pow_of (n / 2) (by omega) ((powN_half h1.1 h1.2).1 h)
      exact ⟨k + 1, by rw [Nat.pow_succ, ← hk]; omega⟩
    · have := (powN_odd h1).1 h
      exact ⟨0, by rw [Nat.pow_zero]; omega⟩
  termination_by n => n
  decreasing_by omega
theorem andI_mask {x al : Int} (hx : 0 ≤ x ∧ x ≤ 18446744073709551615) (ha : 1 ≤ al ∧ al ≤ 18446744073709551615) (hp : powN al.toNat) : andI x (al - 1) = x % al := by
  obtain ⟨k, hk⟩ := pow_of al.toNat (by omega) hp
  rw [andI_nat ⟨by omega, by omega⟩ ⟨by omega, by omega⟩, show (al - 1).toNat = 2 ^ k - 1 by omega, Nat.and_two_pow_sub_one_eq_mod, ← hk, Int.natCast_emod, Int.toNat_of_nonneg hx.1, Int.toNat_of_nonneg (by omega)]
theorem pow_dvd {al : Int} (ha : 1 ≤ al ∧ al ≤ 18446744073709551615) (hp : powN al.toNat) : al ∣ 18446744073709551616 ∧ al ≤ 9223372036854775808 := by
  obtain ⟨k, hk⟩ := pow_of al.toNat (by omega) hp
  have h64 : k < 64 := by
    rcases Nat.lt_or_ge k 64 with h | h
    · exact h
    · have := Nat.pow_le_pow_right (show 0 < 2 by decide) h
      have e : (2 : Nat) ^ 64 = 18446744073709551616 := by decide
      omega
  have h63 : 2 ^ k ≤ 2 ^ 63 := Nat.pow_le_pow_right (by decide) (by omega)
  have e : (2 : Nat) ^ 63 = 9223372036854775808 := by decide
  refine ⟨⟨(2 : Int) ^ (64 - k), ?_⟩, by omega⟩
  have : al = (2 : Int) ^ k := by
    have h : al = (al.toNat : Int) := by omega
    rw [h, hk]
    push_cast
    rfl
  rw [this, ← Int.pow_add, show k + (64 - k) = 64 by omega]
  rfl
/-- where a thing is laid, in plain words -/
theorem layA_eq {a v al : Int} (ha : 0 ≤ a ∧ a ≤ 65536) (hv : 0 ≤ v ∧ v ≤ 18446744073709551615) (hal : 0 ≤ al ∧ al ≤ 18446744073709551615) (hp : powN al.toNat) : layA a v al = if al ≤ 1 then a else a + (v - a) % al := by
  unfold layA mx1
  have hx0 := Int.emod_nonneg (v - a) (show (18446744073709551616 : Int) ≠ 0 by decide)
  have hx1 := Int.emod_lt_of_pos (v - a) (show (0 : Int) < 18446744073709551616 by decide)
  by_cases h1 : al ≤ 1
  · rw [if_pos h1]
    have e : (if al < 1 then (1 : Int) else al) - 1 = 0 := by split <;> omega
    rw [e, show (0 : Int) % 18446744073709551616 = 0 from rfl, andI_nat ⟨hx0, hx1⟩ ⟨by omega, by omega⟩]
    simp only [Int.toNat_zero, Nat.and_zero]
    omega
  · rw [if_neg h1, if_neg (by omega)]
    obtain ⟨d1, d2⟩ := pow_dvd ⟨by omega, hal.2⟩ hp
    rw [Int.emod_eq_of_lt (show 0 ≤ al - 1 by omega) (by omega), andI_mask ⟨hx0, by omega⟩ ⟨by omega, hal.2⟩ hp, Int.emod_emod_of_dvd _ d1]
    have h0 := Int.emod_nonneg (v - a) (show al ≠ 0 by omega)
    have h2 := Int.emod_lt_of_pos (v - a) (show 0 < al by omega)
    rw [Int.emod_eq_of_lt (by omega) (by omega)]
/-- the document's place, and the planner's -/
def PRel (p : PS) (r : Int) : Prop := (p.2 = false → r = p.1 ∧ 0 ≤ p.1 ∧ p.1 ≤ 65536) ∧ (p.2 = true → 65536 < r ∧ r ≤ 9223372036856775808)
theorem lay_key {x y n : Int} (hx : 0 ≤ x) (h1 : 65536 < x → 65536 < y ∧ y ≤ 9223372036854775808) (h2 : x ≤ 65536 → y = x) (hn : 0 ≤ n ∧ n ≤ 1000000) : PRel ((x + n) % 18446744073709551616, layO x n) ((y + n) % 18446744073709551616) ∧ (layO x n = false → y = x) := by
  by_cases h7 : 65536 < x
  · have e : layO x n = true := by unfold layO; rw [decide_eq_true h7, Bool.true_or]
    rw [e]
    obtain ⟨h3, h4⟩ := h1 h7
    exact ⟨⟨fun h => (by cases h), fun _ => ⟨by omega, by omega⟩⟩, fun h => (by cases h)⟩
  · obtain rfl := h2 (by omega)
    by_cases h8 : 65536 - y < n
    · have e : layO y n = true := by unfold layO; rw [decide_eq_true h8, Bool.or_true]
      rw [e]
      exact ⟨⟨fun h => (by cases h), fun _ => ⟨by omega, by omega⟩⟩, fun h => (by cases h)⟩
    · have e : layO y n = false := by unfold layO; rw [decide_eq_false h7, decide_eq_false h8]; rfl
      rw [e]
      refine ⟨⟨fun _ => ⟨rfl, ?_, ?_⟩, fun h => (by cases h)⟩, fun _ => rfl⟩
      · show 0 ≤ (y + n) % 18446744073709551616
        omega
      · show (y + n) % 18446744073709551616 ≤ 65536
        omega
theorem lay_rel {p : PS} {r n v al : Int} (hR : PRel p r) (hv : 0 ≤ v ∧ v ≤ 18446744073709551615) (hal : 0 ≤ al ∧ al ≤ 18446744073709551615) (hp : powN al.toNat) (hn : 0 ≤ n ∧ n ≤ 1000000) :
    PRel (layS p n v al) ((nextI r v al + n) % 18446744073709551616) ∧ ((layS p n v al).2 = false → p.2 = false ∧ nextI r v al = layR p v al) := by
  obtain ⟨a, ov⟩ := p
  cases ov
  · obtain ⟨h1, -⟩ := hR
    obtain ⟨h0, h2, h3⟩ := h1 rfl
    have h0 : r = a := h0
    have h2 : 0 ≤ a := h2
    have h3 : a ≤ 65536 := h3
    subst h0
    have hla := layA_eq ⟨h2, h3⟩ hv hal hp
    have hS : layS (r, false) n v al = ((layA r v al + n) % 18446744073709551616, layO (layA r v al) n) := rfl
    have hRr : layR (r, false) v al = layA r v al := rfl
    have fin : ∀ x, layA r v al = x → 0 ≤ x → (65536 < x → 65536 < nextI r v al ∧ nextI r v al ≤ 9223372036854775808) → (x ≤ 65536 → nextI r v al = x) → PRel (layS (r, false) n v al) ((nextI r v al + n) % 18446744073709551616) ∧ ((layS (r, false) n v al).2 = false → (r, false).2 = false ∧ nextI r v al = layR (r, false) v al) := by
      intro x hx hx0 k1 k2
      rw [hS, hRr, hx]
      obtain ⟨q1, q2⟩ := lay_key hx0 k1 k2 hn
      exact ⟨q1, fun h => ⟨rfl, q2 h⟩⟩
    by_cases h4 : al ≤ 1
    · rw [if_pos h4] at hla
      have hnx : nextI r v al = r := by unfold nextI; rw [if_neg (by omega), if_pos h4]
      exact fin r hla h2 (fun h => by omega) (fun _ => hnx)
    · rw [if_neg h4] at hla
      have hd0 := Int.emod_nonneg (v - r) (show al ≠ 0 by omega)
      have hd1 := Int.emod_lt_of_pos (v - r) (show 0 < al by omega)
      obtain ⟨-, d2⟩ := pow_dvd ⟨by omega, hal.2⟩ hp
      by_cases h5 : 65536 < al
      · have hw0 := Int.emod_nonneg v (show al ≠ 0 by omega)
        have hw1 := Int.emod_lt_of_pos v (show 0 < al by omega)
        by_cases h6 : v % al < r
        · have hnx : nextI r v al = 100000 := by unfold nextI; rw [if_neg (by omega), if_neg h4, if_pos h5, if_pos h6]
          have e : (v - r) % al = v % al - r + al := by
            have e1 : v - r = (v % al - r + al) + al * (v / al - 1) := by
              have := Int.mul_ediv_add_emod v al
              rw [Int.mul_sub]
              omega
            rw [e1, Int.add_mul_emod_self_left, Int.emod_eq_of_lt (by omega) (by omega)]
          rw [e] at hla
          exact fin _ hla (by omega) (fun _ => by omega) (fun h => by omega)
        · have hnx : nextI r v al = v % al := by unfold nextI; rw [if_neg (by omega), if_neg h4, if_pos h5, if_neg h6]
          have e : (v - r) % al = v % al - r := by
            have e1 : v - r = (v % al - r) + al * (v / al) := by
              have := Int.mul_ediv_add_emod v al
              omega
            rw [e1, Int.add_mul_emod_self_left, Int.emod_eq_of_lt (by omega) (by omega)]
          rw [e, show r + (v % al - r) = v % al by omega] at hla
          exact fin _ hla hw0 (fun h => by omega) (fun _ => hnx)
      · have hnx : nextI r v al = r + (v - r) % al := by unfold nextI; rw [if_neg (by omega), if_neg h4, if_neg h5]
        exact fin _ hla (by omega) (fun h => by omega) (fun _ => hnx)
  · obtain ⟨-, h1⟩ := hR
    obtain ⟨h2, h3⟩ := h1 rfl
    have hS : layS (a, true) n v al = (a, true) := rfl
    have hnx : nextI r v al = 100000 := by unfold nextI; rw [if_pos h2]
    rw [hS, hnx]
    exact ⟨⟨fun h => (by cases h), fun _ => ⟨by omega, by omega⟩⟩, fun h => (by cases h)⟩
/-! the document's passes -/
def rst1 (r : List Int × Int) (s : dSeg.T) : List Int × Int := if @Eq Int s.1 1 then (r.1 ++ [nextI r.2 s.2.2.1 s.2.2.2.2.2.1], (nextI r.2 s.2.2.1 s.2.2.2.2.2.1 + s.2.2.2.2.2.2.1.2.2.1) % 18446744073709551616) else (r.1 ++ [0], r.2)
def rst2 (A : List Int) (r : List Int × Int) (s : dSeg.T) : List Int × Int :=
  if ¬ @Eq Int s.2.2.2.2.2.2.1.1 (-1) then (r.1 ++ [(A.getD (@Int.toNat s.2.2.2.2.2.2.1.1) 0 + s.2.2.2.2.2.2.1.2.1) % 18446744073709551616], r.2)
  else if ¬ @Eq Int s.1 1 then (r.1 ++ [nextI r.2 0 8], (nextI r.2 0 8 + s.2.2.2.2.2.2.1.2.2.1) % 18446744073709551616) else (r.1 ++ [A.getD r.1.length 0], r.2)
def rst3 (A : List Int) (r : List Int × Int) (s : dSec.T) : List Int × Int :=
  if ¬ @Eq Int s.2.2.2.2.2.2.2.2.2.1.1 (-1) then (r.1 ++ [(A.getD (@Int.toNat s.2.2.2.2.2.2.2.2.2.1.1) 0 + s.2.2.2.2.2.2.2.2.2.1.2.1) % 18446744073709551616], r.2)
  else (r.1 ++ [nextI r.2 0 8], (nextI r.2 0 8 + s.2.2.2.2.2.2.2.2.2.1.2.2.1) % 18446744073709551616)
theorem rst1_len (r : List Int × Int) (s : dSeg.T) : (rst1 r s).1.length = r.1.length + 1 := by unfold rst1; split <;> simp
theorem rst2_len (A : List Int) (r : List Int × Int) (s : dSeg.T) : (rst2 A r s).1.length = r.1.length + 1 := by unfold rst2; split; simp; split <;> simp
theorem rst3_len (A : List Int) (r : List Int × Int) (s : dSec.T) : (rst3 A r s).1.length = r.1.length + 1 := by unfold rst3; split <;> simp
theorem rfold_len {α : Type} {f : List Int × Int → α → List Int × Int} (hf : ∀ r s, (f r s).1.length = r.1.length + 1) : ∀ (l : List α) (r : List Int × Int), (l.foldl f r).1.length = r.1.length + l.length
  | [], r => rfl
  | x :: l, r => by rw [List.foldl_cons, rfold_len hf l, hf, List.length_cons]; omega
/-- both, side by side; p0: what it began with -/
def QRel (p0 : PS) (c : List Int × PS) (r : List Int × Int) : Prop := PRel c.2 r.2 ∧ (c.2.2 = false → p0.2 = false ∧ c.1 = r.1)
theorem fold_rel {α : Type} {f : List Int × PS → α → List Int × PS} {g : List Int × Int → α → List Int × Int} {p0 : PS} : ∀ (l : List α), (∀ c r x, x ∈ l → QRel p0 c r → QRel p0 (f c x) (g r x)) → ∀ c r, QRel p0 c r → QRel p0 (l.foldl f c) (l.foldl g r)
  | [], _, c, r, h => h
  | x :: l, hf, c, r, h => fold_rel l (fun c r y hy => hf c r y (List.mem_cons_of_mem _ hy)) _ _ (hf c r x (by simp) h)
theorem lay_rel' {p0 : PS} {c : List Int × PS} {r : List Int × Int} {n v al : Int} (hQ : QRel p0 c r) (hv : 0 ≤ v ∧ v ≤ 18446744073709551615) (hal : 0 ≤ al ∧ al ≤ 18446744073709551615) (hp : powN al.toNat) (hn : 0 ≤ n ∧ n ≤ 1000000) :
    QRel p0 (c.1 ++ [layR c.2 v al], layS c.2 n v al) (r.1 ++ [nextI r.2 v al], (nextI r.2 v al + n) % 18446744073709551616) := by
  obtain ⟨h1, h2⟩ := lay_rel hQ.1 hv hal hp hn
  refine ⟨h1, fun h => ?_⟩
  obtain ⟨h3, h4⟩ := h2 h
  obtain ⟨h5, h6⟩ := hQ.2 h3
  exact ⟨h5, by show c.1 ++ [layR c.2 v al] = r.1 ++ [nextI r.2 v al]; rw [h4, h6]⟩
theorem pow8 : powN (8 : Int).toNat := rfl
end Go.Proofs.Ytalhipbbomagoaa.PvW

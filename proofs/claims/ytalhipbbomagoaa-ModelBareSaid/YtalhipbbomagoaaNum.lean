/- Plain lemmas on numbers as bytes: no program in them. -/
import Derived.Laws.BitsLemmas
import Derived.IntWalk
import Derived.RowKit
namespace Go.Proofs.Ytalhipbbomagoaa.Num
open Go.RowKit
def beNum (l : List Int) : Int := l.foldl (fun v b => v * 256 + b) 0
def ord (big : Bool) (l : List Int) : List Int := if big = true then l else l.reverse
def num (big : Bool) (l : List Int) : Int := beNum (ord big l)
def dig (v : Int) (i : Nat) : Int := v / 256 ^ i % 256
def le (n : Nat) (v : Int) : List Int := (List.range n).map (dig v)
def enc (n : Nat) (big : Bool) (v : Int) : List Int := if big = true then (le n v).reverse else le n v
def B (l : List Int) : Prop := ∀ x ∈ l, 0 ≤ x ∧ x ≤ 255
theorem le_length (n : Nat) (v : Int) : (le n v).length = n := by simp [le]
theorem enc_length (n : Nat) (big : Bool) (v : Int) : (enc n big v).length = n := by
  unfold enc
  split <;> simp [le_length]
theorem dig_range (v : Int) (i : Nat) : 0 ≤ dig v i ∧ dig v i ≤ 255 := by
  unfold dig
  omega
theorem le_B (n : Nat) (v : Int) : B (le n v) := by
  intro x hx
  obtain ⟨i, _, rfl⟩ := List.mem_map.1 hx
  exact dig_range v i
theorem enc_B (n : Nat) (big : Bool) (v : Int) : B (enc n big v) := by
  intro x hx
  unfold enc at hx
  split at hx
  · exact le_B n v x (List.mem_reverse.1 hx)
  · exact le_B n v x hx
theorem le_succ (n : Nat) (v : Int) : le (n + 1) v = le n v ++ [dig v n] := by simp [le, List.range_succ]
theorem beNum_snoc (l : List Int) (b : Int) : beNum (l ++ [b]) = beNum l * 256 + b := by simp [beNum]
theorem foldl_shift (l : List Int) : ∀ a : Int, l.foldl (fun v b => v * 256 + b) a = a * 256 ^ l.length + beNum l := by
  induction l with
  | nil => intro a; simp [beNum]
  | cons x l ih =>
    intro a
    have h1 : beNum (x :: l) = x * 256 ^ l.length + beNum l := by
      show l.foldl (fun v b => v * 256 + b) (0 * 256 + x) = _
      rw [ih]
      simp
    rw [List.foldl_cons, ih, h1, List.length_cons, Int.pow_succ, Int.add_mul]
    rw [show a * 256 * 256 ^ l.length = a * (256 ^ l.length * 256) by rw [Int.mul_assoc, Int.mul_comm 256 _]]
    omega
theorem beNum_cons (x : Int) (l : List Int) : beNum (x :: l) = x * 256 ^ l.length + beNum l := by
  have := foldl_shift l (0 * 256 + x)
  simpa [beNum] using this
theorem pow_pos (n : Nat) : (0 : Int) < 256 ^ n := Int.pow_pos (by decide)
theorem mod_step (v m : Int) (hm : 0 < m) : v % (m * 256) = (v / m % 256) * m + v % m := by
  rw [Int.emod_def v (m * 256), Int.emod_def v m, Int.emod_def (v / m) 256, ← Int.ediv_ediv_of_nonneg (show (0 : Int) ≤ m by omega)]
  generalize v / m = q
  generalize q / 256 = p
  rw [Int.sub_mul, show m * 256 * p = 256 * p * m by rw [Int.mul_comm m 256, Int.mul_assoc, Int.mul_comm m p, Int.mul_assoc], Int.mul_comm q m]
  omega
theorem beNum_le (v : Int) (n : Nat) : beNum (le n v).reverse = v % 256 ^ n := by
  induction n with
  | zero => simp [le, beNum, Int.emod_one]
  | succ n ih =>
    rw [le_succ, List.reverse_append, List.reverse_singleton, List.singleton_append, beNum_cons, ih, List.length_reverse, le_length, Int.pow_succ, mod_step v _ (pow_pos n)]
    rfl
/-- What was put is got. -/
theorem num_enc (n : Nat) (big : Bool) (v : Int) : num big (enc n big v) = v % 256 ^ n := by
  unfold num enc ord
  cases big
  · simpa using beNum_le v n
  · simpa using beNum_le v n
theorem beNum_range {l : List Int} (h : B l) : 0 ≤ beNum l ∧ beNum l < 256 ^ l.length := by
  induction l with
  | nil => simp [beNum]
  | cons x l ih =>
    have hx := h x List.mem_cons_self
    have hl := ih (fun y hy => h y (List.mem_cons_of_mem _ hy))
    rw [beNum_cons, List.length_cons, Int.pow_succ]
    have hp := pow_pos l.length
    generalize (256 : Int) ^ l.length = m at *
    have h1 : x * m ≤ 255 * m := Int.mul_le_mul_of_nonneg_right hx.2 (by omega)
    have h2 : 0 ≤ x * m := Int.mul_nonneg hx.1 (by omega)
    omega
theorem ord_B {big : Bool} {l : List Int} (h : B l) : B (ord big l) := by
  intro x hx
  unfold ord at hx
  split at hx
  · exact h x hx
  · exact h x (List.mem_reverse.1 hx)
theorem ord_length (big : Bool) (l : List Int) : (ord big l).length = l.length := by
  unfold ord
  split <;> simp
theorem num_range {big : Bool} {l : List Int} (h : B l) : 0 ≤ num big l ∧ num big l < 256 ^ l.length := by
  have := beNum_range (ord_B (big := big) h)
  rwa [ord_length] at this
theorem le_beNum {l : List Int} (h : B l) : le l.length (beNum l) = l.reverse := by
  induction l with
  | nil => rfl
  | cons x l ih =>
    have hx := h x List.mem_cons_self
    have hB : B l := fun y hy => h y (List.mem_cons_of_mem _ hy)
    have hr := beNum_range hB
    rw [List.length_cons, le_succ, beNum_cons, List.reverse_cons]
    have hp := pow_pos l.length
    have e1 : ∀ i, i < l.length → dig (x * 256 ^ l.length + beNum l) i = dig (beNum l) i := by
      intro i hi
      unfold dig
      have hpi := pow_pos i
      have : (256 : Int) ^ l.length = 256 ^ i * (256 ^ (l.length - i - 1) * 256) := by
        rw [← Int.pow_succ, ← Int.pow_add]
        congr 1
        omega
      rw [this, show x * (256 ^ i * (256 ^ (l.length - i - 1) * 256)) = (x * 256 ^ (l.length - i - 1) * 256) * 256 ^ i by
        rw [Int.mul_comm (256 ^ i) _, ← Int.mul_assoc, ← Int.mul_assoc], Int.add_comm, Int.add_mul_ediv_right _ _ (by omega)]
      omega
    have e2 : le l.length (x * 256 ^ l.length + beNum l) = le l.length (beNum l) := by
      unfold le
      exact List.map_congr_left (fun i hi => e1 i (List.mem_range.1 hi))
    rw [e2, ih hB]
    congr 1
    unfold dig
    rw [Int.add_comm, Int.add_mul_ediv_right _ _ (by omega), Int.ediv_eq_zero_of_lt hr.1 hr.2]
    congr 1
    omega
/-- What is got, put, is those bytes. -/
theorem enc_num {big : Bool} {l : List Int} (h : B l) : enc l.length big (num big l) = l := by
  unfold enc num ord
  cases big
  · have := le_beNum (l := l.reverse) (fun x hx => h x (List.mem_reverse.1 hx))
    simpa using this
  · have := le_beNum h
    simp [this]
theorem or_byte {x b : Int} (h0 : 0 ≤ x) (h1 : x < 72057594037927936) (hb0 : 0 ≤ b) (hb1 : b ≤ 255) : Go.bits .or .u64 (x * 256) b = x * 256 + b := by
  have e64 : (2 : Int) ^ 64 = 18446744073709551616 := by decide
  have e8 : (2 : Int) ^ 8 = 256 := by decide
  have hw : ∀ n : Int, 0 ≤ n → n < 2 ^ 64 → IntKind.u64.wrap n = n := by
    intro n h0 h1
    rw [e64] at h1
    exact IntWalk.u64_in n ⟨h0, by omega⟩
  refine bits_join .u64 64 (Nat.le_refl _) hw 8 (x * 256) b ?_ ?_ ?_ hb0 ?_ ?_
  · omega
  · rw [e8]; omega
  · rw [e64]; omega
  · rw [e8]; omega
  · rw [e64]; omega
end Go.Proofs.Ytalhipbbomagoaa.Num

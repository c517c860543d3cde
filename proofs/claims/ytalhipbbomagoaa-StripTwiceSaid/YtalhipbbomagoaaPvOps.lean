/- Plain lemmas on operations of numbers. No statement of the set is proved in this text. -/
import Derived.Test.YtalhipbbomagoaaPvRec
namespace Go.Proofs.Ytalhipbbomagoaa.PvW
open Go.RowKit Go.Proofs.Ytalhipbbomagoaa.Ab Go.Proofs.Ytalhipbbomagoaa.AbP Go.Proofs.Ytalhipbbomagoaa.Num Go.Proofs.Ytalhipbbomagoaa.Pv
set_option maxRecDepth 100000
set_option maxHeartbeats 4000000
set_option linter.unusedVariables false
set_option linter.unusedSimpArgs false
theorem fitsn {x n : Int} {m : Nat} (hn : n.toNat = m) (hw : wideB n = true) (h0 : x < 256 ^ m) : fitsB x n = true := by
  unfold fitsB
  rw [hw, Bool.true_and, hn]
  exact decide_eq_true h0
theorem fits_lt {v : Int} {n : Int} (m : Nat) (h : fitsB v n = true) (hn : n = m) : v < 256 ^ m := by
  obtain ⟨k, e, _, _, _, h4⟩ := fits_cases h
  obtain rfl : k = m := by omega
  exact h4
theorem rem_c {k : IntKind} {a b : Int} (h0 : 0 ≤ a) (h1 : 0 < b) : Ab.abin .rem (.int k a) (.int k b) = some (.int k (a % b)) := by
  rw [Ab.b_rem _ _ _ (by omega), Int.tmod_eq_emod_of_nonneg h0]
theorem quo_c {k : IntKind} {a b : Int} (h0 : 0 ≤ a) (h1 : 0 < b) : Ab.abin .quo (.int k a) (.int k b) = some (.int k (k.wrap (a / b))) := by
  rw [Ab.b_quo _ _ _ (by omega), Int.tdiv_eq_ediv_of_nonneg h0]
theorem drop_zero {α : Type} (l : List α) : l.drop 0 = l := rfl
theorem ps_no {p : Prop} {dp : Decidable p} {A B : Prop} (h : ¬ p) (hk : B) : psel (.bool (@decide p dp)) A B := by
  rw [decide_eq_false h]
  exact hk
theorem ps_yes {p : Prop} {dp : Decidable p} {A B : Prop} (h : p) (hk : A) : psel (.bool (@decide p dp)) A B := by
  rw [decide_eq_true h]
  exact hk
/-- a nil slice, handed over, seen as an empty list -/
inductive Wk : List PV → List PV → Prop
  | z : Wk [] []
  | c (p : PV) {a b : List PV} (h : Wk a b) : Wk (p :: a) (p :: b)
  | n (D' : Ab.D) {a b : List PV} (h : Wk a b) : Wk (.nilS :: a) (.sl D' [] :: b)
theorem Wk.ok {X : Cx} {a b : List PV} (h : Wk a b) : ∀ {us : List Value}, PRs X a us → PRs X b us := by
  induction h with
  | z => exact fun h => h
  | c p h ih =>
    intro us hu
    obtain ⟨v, t, rfl, h1, h2⟩ := hu.uncons
    exact .cons h1 (ih h2)
  | n D' h ih =>
    intro us hu
    obtain ⟨v, t, rfl, h1, h2⟩ := hu.uncons
    rw [h1.nilS_inv]
    exact .cons (.sl D' [] _ (Is_nilS _ D')) (ih h2)
theorem PCalls.wk {P : Program} {g : FuncId} {a b : List PV} {s : List OB} {K : PV → List OB → Prop} (h : Wk a b) (hk : PCalls P g b s K) : PCalls P g a s K := fun hp E i vs S A => hk hp E i vs S (h.ok A)
/-- two parts of a number, put together -/
theorem or_parts {x y : Int} {n : Nat} (hn : n ≤ 63) (h0 : 0 ≤ x) (h1 : x * 2 ^ n ≤ 18446744073709551615) (h2 : 0 ≤ y) (h3 : y < 2 ^ n) : Ab.abin .or (.int .u64 (x * 2 ^ n)) (.int .u64 y) = some (.int .u64 (x * 2 ^ n + y)) := by
  rw [Ab.b_or]
  have e64 : (2 : Int) ^ 64 = 18446744073709551616 := by decide
  have hw : ∀ n : Int, 0 ≤ n → n < 2 ^ 64 → IntKind.u64.wrap n = n := by
    intro n h0 h1
    rw [e64] at h1
    exact IntWalk.u64_in n ⟨h0, by omega⟩
  have hp : (0 : Int) < 2 ^ n := Int.pow_pos (by decide)
  have hx : 0 ≤ x * 2 ^ n := Int.mul_nonneg h0 (by omega)
  have hp2 : (2 : Int) ^ n ≤ 2 ^ 63 := by
    have : (2 : Nat) ^ n ≤ 2 ^ 63 := Nat.pow_le_pow_right (by decide) hn
    exact_mod_cast this
  have e63 : (2 : Int) ^ 63 = 9223372036854775808 := by decide
  have := bits_join .u64 64 (Nat.le_refl _) hw n (x * 2 ^ n) y hx (by rw [Int.mul_emod_left]) (by rw [e64]; omega) h2 h3 (by rw [e64]; omega)
  exact congrArg (fun z => some (Value.int .u64 z)) this
theorem or_join {x y : Int} (n : Nat) (m : Int) (hm : m = 2 ^ n) (hn : n ≤ 63) (h0 : 0 ≤ x) (h1 : x * m ≤ 18446744073709551615) (h2 : 0 ≤ y) (h3 : y < m) : Ab.abin .or (.int .u64 (m * x)) (.int .u64 y) = some (.int .u64 (m * x + y)) := by
  subst hm
  rw [Int.mul_comm]
  exact or_parts hn h0 h1 h2 h3
theorem shl_8 {x : Int} {k : IntKind} (h0 : 0 ≤ x) (h1 : x ≤ 72057594037927935) : Ab.abin .shl (.int .u64 x) (.int k 8) = some (.int .u64 (256 * x)) := by
  rw [Ab.b_shl _ _ _ _ (by omega), Int.mul_comm 256]
  show some (Value.int .u64 (IntKind.u64.wrap (x * 256))) = _
  rw [uw (by omega) (by omega)]
theorem shl_32 {x : Int} {k : IntKind} (h0 : 0 ≤ x) (h1 : x ≤ 4294967295) : Ab.abin .shl (.int .u64 x) (.int k 32) = some (.int .u64 (4294967296 * x)) := by
  rw [Ab.b_shl _ _ _ _ (by omega), Int.mul_comm 4294967296]
  show some (Value.int .u64 (IntKind.u64.wrap (x * 4294967296))) = _
  rw [uw (by omega) (by omega)]
theorem or_8 {x y : Int} (h0 : 0 ≤ x) (h1 : x ≤ 72057594037927935) (h2 : 0 ≤ y) (h3 : y ≤ 255) : Ab.abin .or (.int .u64 (256 * x)) (.int .u64 y) = some (.int .u64 (256 * x + y)) := or_join 8 256 (by decide) (by decide) h0 (by omega) h2 (by omega)
theorem or_32 {x y : Int} (h0 : 0 ≤ x) (h1 : x ≤ 4294967295) (h2 : 0 ≤ y) (h3 : y ≤ 4294967295) : Ab.abin .or (.int .u64 (4294967296 * x)) (.int .u64 y) = some (.int .u64 (4294967296 * x + y)) := or_join 32 4294967296 (by decide) (by decide) h0 (by omega) h2 (by omega)
theorem shr_n {x : Int} {k : IntKind} (n : Int) (m : Int) (hm : m = 2 ^ n.toNat) (hn : 0 ≤ n ∧ n ≤ 63) : Ab.abin .shr (.int .u64 x) (.int k n) = some (.int .u64 (x / m)) := by
  rw [Ab.b_shr _ _ _ _ (by omega)]
  have e : min n.toNat (IntKind.bits .u64) = n.toNat := by
    show min _ 64 = _
    omega
  rw [e, ← hm, Int.fdiv_eq_ediv_of_nonneg _ (by rw [hm]; exact Int.pow_nonneg (by decide))]
theorem shr_8 {x : Int} {k : IntKind} : Ab.abin .shr (.int .u64 x) (.int k 8) = some (.int .u64 (x / 256)) := shr_n 8 256 (by decide) (by decide)
theorem shr_32 {x : Int} {k : IntKind} : Ab.abin .shr (.int .u64 x) (.int k 32) = some (.int .u64 (x / 4294967296)) := shr_n 32 4294967296 (by decide) (by decide)
theorem and_low {x : Int} (n : Nat) (m : Int) (hm : m = 2 ^ n - 1) (hn : n ≤ 64) (h0 : 0 ≤ x) (h1 : x ≤ 18446744073709551615) : Ab.abin .and (.int .u64 x) (.int .u64 m) = some (.int .u64 (x % 2 ^ n)) := by
  rw [Ab.b_and]
  have e64 : (2 : Int) ^ 64 = 18446744073709551616 := by decide
  have hw : ∀ n : Int, 0 ≤ n → n < 2 ^ 64 → IntKind.u64.wrap n = n := by
    intro n h0 h1
    rw [e64] at h1
    exact IntWalk.u64_in n ⟨h0, by omega⟩
  have := bits_mask .u64 64 (Nat.le_refl _) hw n hn x h0 (by rw [e64]; omega)
  rw [← hm] at this
  exact congrArg (fun z => some (Value.int .u64 z)) this
theorem and_255 {x : Int} (h0 : 0 ≤ x) (h1 : x ≤ 18446744073709551615) : Ab.abin .and (.int .u64 x) (.int .u64 255) = some (.int .u64 (x % 256)) := and_low 8 255 (by decide) (by decide) h0 h1
theorem and_1 {x : Int} (h0 : 0 ≤ x) (h1 : x ≤ 18446744073709551615) : Ab.abin .and (.int .u64 x) (.int .u64 1) = some (.int .u64 (x % 2)) := and_low 1 1 (by decide) (by decide) h0 h1
theorem and_3 {x : Int} (h0 : 0 ≤ x) (h1 : x ≤ 18446744073709551615) : Ab.abin .and (.int .u64 x) (.int .u64 3) = some (.int .u64 (x % 4)) := and_low 2 3 (by decide) (by decide) h0 h1
theorem wU32 (n : Int) : IntKind.u32.wrap n = n % 4294967296 := by simp [IntKind.wrap, IntKind.signed, IntKind.bits]
theorem wU64 (n : Int) : IntKind.u64.wrap n = n % 18446744073709551616 := by simp [IntKind.wrap, IntKind.signed, IntKind.bits]
theorem wI32 (n : Int) : IntKind.i32.wrap n = (n + 2147483648) % 4294967296 - 2147483648 := by simp [IntKind.wrap, IntKind.signed, IntKind.bits]; omega
theorem wI64 (n : Int) : IntKind.i64.wrap n = (n + 9223372036854775808) % 18446744073709551616 - 9223372036854775808 := by simp [IntKind.wrap, IntKind.signed, IntKind.bits]; omega
theorem getSpec_range {b : List Int} (hB : B b) {a n : Int} {big : Bool} (m : Int) (hm : m = 256 ^ n.toNat - 1) : 0 ≤ (getSpec b a n big).1 ∧ (getSpec b a n big).1 ≤ m := by
  unfold getSpec
  split
  · rename_i h
    have hs : B ((b.drop a.toNat).take n.toNat) := seg_B hB _ _
    have hr := num_range (big := big) hs
    have hl : ((b.drop a.toNat).take n.toNat).length ≤ n.toNat := by rw [List.length_take]; exact Nat.min_le_left _ _
    have := pow_mono hl
    exact ⟨hr.1, by omega⟩
  · have := pow_pos n.toNat
    exact ⟨Int.le_refl _, by show (0 : Int) ≤ m; omega⟩
theorem range4 {b : List Int} (hB : B b) (a : Int) (big : Bool) : 0 ≤ (getSpec b a 4 big).1 ∧ (getSpec b a 4 big).1 ≤ 4294967295 := getSpec_range hB _ (by decide)
theorem range8 {b : List Int} (hB : B b) (a : Int) (big : Bool) : 0 ≤ (getSpec b a 8 big).1 ∧ (getSpec b a 8 big).1 ≤ 18446744073709551615 := getSpec_range hB _ (by decide)
theorem range2 {b : List Int} (hB : B b) (a : Int) (big : Bool) : 0 ≤ (getSpec b a 2 big).1 ∧ (getSpec b a 2 big).1 ≤ 65535 := getSpec_range hB _ (by decide)
theorem range1 {b : List Int} (hB : B b) (a : Int) (big : Bool) : 0 ≤ (getSpec b a 1 big).1 ∧ (getSpec b a 1 big).1 ≤ 255 := getSpec_range hB _ (by decide)
/-- a number's bytes know it modulo what they hold -/
theorem putSpec_mod {v n : Int} (m : Int) (hm : m = 256 ^ n.toNat) {big : Bool} : putSpec (v % m) n big = putSpec v n big := by
  have hd : ∀ i, i < n.toNat → dig (v % m) i = dig v i := by
    intro i hi
    unfold dig
    have hpi := pow_pos i
    have e : m = 256 ^ i * (256 ^ (n.toNat - i - 1) * 256) := by
      rw [hm, ← Int.pow_succ, ← Int.pow_add]
      congr 1
      omega
    generalize (256 : Int) ^ (n.toNat - i - 1) = t at e
    have h1 : v % m = v - 256 ^ i * (t * 256 * (v / m)) := by
      rw [Int.emod_def]
      congr 1
      conv => lhs; rw [e]
      rw [Int.mul_assoc]
      congr 2
      rw [← e]
    rw [h1, Int.sub_eq_add_neg, ← Int.mul_neg, Int.add_mul_ediv_left _ _ (by omega)]
    have h2 : -(t * 256 * (v / m)) = 256 * (-(t * (v / m))) := by rw [Int.mul_comm t 256, Int.mul_assoc, Int.mul_neg]
    rw [h2]
    omega
  unfold putSpec
  split
  · unfold enc le
    have : (List.range n.toNat).map (dig (v % m)) = (List.range n.toNat).map (dig v) := List.map_congr_left fun i hi => hd i (List.mem_range.1 hi)
    rw [this]
  · rfl
section
variable {P : Program} {Z : Bs} {K : Env → List OB → Prop} {e : Env} {s s' : List OB} {cs : List CO} {pr : List Operand} {d : Option Nat} {b n j es : Nat} {c : List PV} {g : Int}
/-- a row of one's own, of known cells, cut: it is not written any more -/
theorem slG_row {D' : Ab.D} {l : List D'.T} {y : Operand} (hb : s[b]? = some (.row es n c)) (he : Nat.beq D'.sz es = true) (hd : decs D' n c = some l) (h0 : Nat.blt 0 es = true) (hl : n = l.length) (hhi : hiP e l.length (some y) = some g) (h1 : 0 ≤ g) (h2 : g ≤ l.length) (hg : g.toNat = j) (hs : (s.set b .dead) = s') (hk : pops P Z pr cs K (putE e d (.sl D' (l.take j))) s') : SlG P Z pr cs K e s d es none (some y) (.osl b n) := fun x kp hx f h hr => by
  have hlt : b < s.length := (List.getElem?_eq_some_iff.1 hb).1
  subst hs
  obtain ⟨E, i, S, R⟩ := (gh_arr b D' ⟨hb⟩ ⟨he⟩ ⟨hd⟩ ⟨h0⟩ ⟨rfl⟩ : Gh Z e s e (s.set b (.arr D' l))) f h hr
  have hb1 : (s.set b (.arr D' l))[b]? = some (.arr D' l) := List.getElem?_set_self hlt
  obtain ⟨S', le'⟩ := S.free hb1 rfl
  have hp := frz_is S hb1 hl (R.at hx)
  have R' := R.mono le'
  rw [List.set_set] at S' R' hp
  obtain ⟨A, c', rw, g1, g0, g2, g3⟩ := hp.sl_inv'
  have he' := Nat.eq_of_beq_eq_true he
  have h0' := Nat.le_of_ble_eq_true h0
  subst he'
  refine s_f (v := cutS h.old.heap.size D'.sz A l.length c' 0 g.toNat) (by simp only [FOp.run, g1]; rw [if_pos g0, cutB_of R' (lo := none) (a := 0) rfl hhi (Int.le_refl _) h1 h2]; rfl) (hk _ _ ⟨_, _, S', R'.put ?_⟩)
  rw [hg]
  exact .sl D' _ _ (cut_is h0' _ ⟨A, c', rw, rfl, g0, g2, g3⟩ (Nat.zero_le _) (by rw [← hg]; omega))
end
end Go.Proofs.Ytalhipbbomagoaa.PvW

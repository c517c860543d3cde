/- The machine's equation of two structs made of numbers, truths, strings and such structs. No statement of the set is proved in this text. -/
import Derived.Test.YtalhipbbomagoaaAbO
import Derived.Laws.StructEq
import Derived.ChangeKeysEq
namespace Go.Proofs.Ytalhipbbomagoaa.Ab
open Go.RowKit
set_option linter.unusedVariables false
set_option linter.unusedSimpArgs false
def D.beq : (d : D) → d.T → d.T → Bool
  | .int _, a, b => (show Int from a) == (show Int from b)
  | .bool, a, b => (show Bool from a) == (show Bool from b)
  | .str, a, b => (show ByteArray from a).toList == (show ByteArray from b).toList
  | .sl _, _, _ => true
  | .st d, a, b => d.beq a b
  | .nil, _, _ => true
  | .cons d e, a, b => d.beq a.1 b.1 && e.beq a.2 b.2
def D.dep : D → Nat
  | .st d => d.dep + 1
  | .cons d e => max d.dep e.dep
  | .nil => 0
  | _ => 1
def D.qchk (P : Program) : D → Md → Bool
  | .int _, .ty _ | .bool, .ty _ | .str, .ty _ => true
  | .sl _, .ty _ => false
  | .st d, .ty t => !P.stoodInHeld t && (P.info? t).isSome && match P.underlying t with
    | some (.struct fs) => d.qchk P (.fs (P.cellsOf t) 0 fs.toList)
    | _ => false
  | .nil, .fs _ _ [] => true
  | .cons d e, .fs total off (f :: l) => !(f.name == "_") && d.qchk P (.ty f.type) && e.qchk P (.fs total (off + d.sz) l)
  | _, _ => false
def D.val : (d : D) → d.T → Value
  | .int k, n => .int k n
  | .bool, b => .bool b
  | .str, s => .string s
  | .sl _, _ => .nilIface
  | .st d, x => .agg (d.enc x).toArray
  | .nil, _ => .nilIface
  | .cons _ _, _ => .nilIface
theorem eqf_cons {P : Program} {d : Nat} {xs ys : Array Value} {f : Field} {fs : List Field} {a b : Value} {r s : Bool} {w : World} (hn : (f.name == "_") = false) (ha : (part f.type xs f.offset).run P w = .ok a w) (hb : (part f.type ys f.offset).run P w = .ok b w) (he : (Op.equalIn d f.type a b).run P w = .ok r w) (hr : (Op.eqFields d xs ys fs).run P w = .ok s w) : (Op.eqFields d xs ys (f :: fs)).run P w = .ok (r && s) w := by
  have hn' : f.name ≠ "_" := by simpa using hn
  rw [Op.eqFields]
  simp only [if_pos hn', Sem.run_bind, ha, hb, he, Result.andThen_ok]
  cases r
  · simp
  · simpa using hr
theorem D.enc_len : ∀ (d : D) (x : d.T), d.flat = true → (d.enc x).length = d.sz
  | .int _, _, _ => rfl
  | .bool, _, _ => rfl
  | .str, _, _ => rfl
  | .sl _, _, h => by simp [D.flat] at h
  | .st d, x, h => D.enc_len d x h
  | .nil, _, _ => rfl
  | .cons d e, x, h => by
    simp only [D.flat, Bool.and_eq_true] at h
    show (d.enc x.1 ++ e.enc x.2).length = d.sz + e.sz
    rw [List.length_append, D.enc_len d _ h.1, D.enc_len e _ h.2]
theorem part_val {P : Program} {w : World} {t : TypeId} {d : D} (hc : d.chk P (.ty t) = true) (hq : d.qchk P (.ty t) = true) (hf : d.flat = true) {a : d.T} {r : List Value} {xs : Array Value} {off : Nat} (hx : xs.toList.drop off = d.enc a ++ r) (hsz : d.sz = P.cellsOf t) : (part t xs off).run P w = .ok (d.val a) w := by
  have one : ∀ v : Value, d.enc a = [v] → xs[off]? = some v := by
    intro v hv
    rw [hv] at hx
    have := congrArg (fun l => l[0]?) hx
    simp only [List.getElem?_drop, Nat.add_zero, List.cons_append, List.getElem?_cons_zero, Array.getElem?_toList] at this
    exact this
  cases d with
  | int k =>
    unfold D.chk at hc
    split at hc
    · rename_i k' ht
      have := one _ rfl
      simp [part, isAgg, run_underlying ht, this, D.val]
    · simp at hc
  | bool =>
    unfold D.chk at hc
    split at hc
    · rename_i ht
      have := one _ rfl
      simp [part, isAgg, run_underlying ht, this, D.val]
    · simp at hc
  | str =>
    unfold D.chk at hc
    split at hc
    · rename_i ht
      have := one _ rfl
      simp [part, isAgg, run_underlying ht, this, D.val]
    · simp at hc
  | sl d => simp [D.flat] at hf
  | st d =>
    unfold D.chk at hc
    split at hc
    · rename_i fs ht
      simp only [D.qchk, Bool.and_eq_true] at hq
      obtain ⟨i, hi⟩ := Option.isSome_iff_exists.1 hq.1.2
      have hs := run_sizeOf (P := P) w hi
      have hlen := D.enc_len d a hf
      have e : xs.extract off (off + P.cellsOf t) = (d.enc a).toArray := by
        apply Array.ext'
        rw [Array.toList_extract, List.extract_eq_take_drop, hx, Nat.add_sub_cancel_left, ← hsz]
        show (d.enc a ++ r).take d.sz = _
        rw [← hlen, List.take_left']
        rfl
      simp [part, isAgg, run_underlying ht, hs, e, D.val]
    · simp at hc
  | nil => simp [D.chk] at hc
  | cons d e => simp [D.chk] at hc
theorem D.eql {P : Program} {w : World} : ∀ (d : D), d.flat = true →
    (∀ t, d.chk P (.ty t) = true → d.qchk P (.ty t) = true → ∀ (n : Nat) (a b : d.T), d.dep ≤ n → (Op.equalIn n t (d.val a) (d.val b)).run P w = .ok (d.beq a b) w) ∧
    (∀ total off fl, d.chk P (.fs total off fl) = true → d.qchk P (.fs total off fl) = true → ∀ (n : Nat) (a b : d.T) (xs ys : Array Value), xs.toList.drop off = d.enc a → ys.toList.drop off = d.enc b → d.dep ≤ n → (Op.eqFields n xs ys fl).run P w = .ok (d.beq a b) w)
  | .int k, hf => ⟨fun t hc hq n a b hn => by
      obtain ⟨n, rfl⟩ : ∃ m, n = m + 1 := ⟨n - 1, by simp [D.dep] at hn; omega⟩
      unfold D.chk at hc
      split at hc
      · rename_i k' ht
        exact run_equalIn_int (P := P) w n t k k' a b ht
      · simp at hc, fun _ _ _ hc => by simp [D.chk] at hc⟩
  | .bool, hf => ⟨fun t hc hq n a b hn => by
      obtain ⟨n, rfl⟩ : ∃ m, n = m + 1 := ⟨n - 1, by simp [D.dep] at hn; omega⟩
      unfold D.chk at hc
      split at hc
      · rename_i ht
        exact run_equalIn_bool' (P := P) w n t a b ht
      · simp at hc, fun _ _ _ hc => by simp [D.chk] at hc⟩
  | .str, hf => ⟨fun t hc hq n a b hn => by
      obtain ⟨n, rfl⟩ : ∃ m, n = m + 1 := ⟨n - 1, by simp [D.dep] at hn; omega⟩
      unfold D.chk at hc
      split at hc
      · rename_i ht
        exact run_equalIn_string (P := P) w n t a b ht
      · simp at hc, fun _ _ _ hc => by simp [D.chk] at hc⟩
  | .sl d, hf => by simp [D.flat] at hf
  | .st d, hf => ⟨fun t hc hq n a b hn => by
      obtain ⟨n, rfl⟩ : ∃ m, n = m + 1 := ⟨n - 1, by simp [D.dep] at hn; omega⟩
      unfold D.chk at hc
      split at hc
      · rename_i fs ht
        simp only [D.qchk, Bool.and_eq_true, Bool.not_eq_true', ht] at hq
        have hfo : P.fieldsOf t = fs := by simp [Program.fieldsOf, ht]
        show (Op.equalIn (n + 1) t (.agg (d.enc a).toArray) (.agg (d.enc b).toArray)).run P w = _
        rw [run_equalIn_struct (P := P) w n t _ _ (by rw [hfo]; exact ht) hq.1.1, hfo]
        exact (D.eql d hf).2 _ 0 fs.toList hc hq.2 n a b _ _ (by simp) (by simp) (by simp [D.dep] at hn; omega)
      · simp at hc, fun _ _ _ hc => by simp [D.chk] at hc⟩
  | .nil, hf => ⟨fun _ hc => by simp [D.chk] at hc, fun total off fl hc hq n a b xs ys hx hy hn => by
      cases fl with
      | cons _ _ => simp [D.chk] at hc
      | nil => simp [Op.eqFields, D.beq]⟩
  | .cons d e, hf => ⟨fun _ hc => by simp [D.chk] at hc, fun total off fl hc hq n a b xs ys hx hy hn => by
      cases fl with
      | nil => simp [D.chk] at hc
      | cons f fl =>
        simp only [D.chk, Bool.and_eq_true, beq_iff_eq] at hc
        simp only [D.qchk, Bool.and_eq_true, Bool.not_eq_true'] at hq
        simp only [D.flat, Bool.and_eq_true] at hf
        obtain ⟨⟨⟨h1, h2⟩, h3⟩, h4⟩ := hc
        obtain ⟨⟨q1, q2⟩, q3⟩ := hq
        have hx' : xs.toList.drop off = d.enc a.1 ++ e.enc a.2 := hx
        have hy' : ys.toList.drop off = d.enc b.1 ++ e.enc b.2 := hy
        have dn : d.dep ≤ n := Nat.le_trans (Nat.le_max_left _ _) hn
        have en : e.dep ≤ n := Nat.le_trans (Nat.le_max_right _ _) hn
        rw [← h1] at hx' hy'
        refine eqf_cons q1 (part_val h3 q2 hf.1 hx' h2) (part_val h3 q2 hf.1 hy' h2) ((D.eql d hf.1).1 _ h3 q2 n _ _ dn) ((D.eql e hf.2).2 total (off + d.sz) fl h4 q3 n _ _ xs ys ?_ ?_ en)
        · rw [← List.drop_drop, ← h1, hx', ← D.enc_len d a.1 hf.1, List.drop_left']
          rfl
        · rw [← List.drop_drop, ← h1, hy', ← D.enc_len d b.1 hf.1, List.drop_left']
          rfl⟩
/-- Two structs held against each other. -/
theorem eq_st {P : Program} {t : TypeId} (d : D) (hf : d.flat = true) (hc : (D.st d).chk P (.ty t) = true) (hq : (D.st d).qchk P (.ty t) = true) (hd : d.dep + 1 ≤ 10000) (a b : d.T) (w : World) : (Op.equal t (.agg (d.enc a).toArray) (.agg (d.enc b).toArray)).run P w = .ok (d.beq a b) w :=
  (D.eql (.st d) hf).1 t hc hq 10000 a b hd
end Go.Proofs.Ytalhipbbomagoaa.Ab

/- Plain lemmas on things of one size each, one behind the other. No statement of the set is proved in this text. -/
import Derived.Test.YtalhipbbomagoaaPvPg
namespace Go.Proofs.Ytalhipbbomagoaa.PvW
open Go.RowKit Go.Proofs.Ytalhipbbomagoaa.AbP Go.Proofs.Ytalhipbbomagoaa.Num Go.Proofs.Ytalhipbbomagoaa.Pv
set_option maxRecDepth 100000
set_option maxHeartbeats 4000000
set_option linter.unusedVariables false
set_option linter.unusedSimpArgs false
section
variable {α : Type} {big : Bool} {P : α → List (Int × Int)} {l : List α} {i : Nat} {x : α} {ns : List Int} {dec : List Int → α} {b : List Int} {k : Nat}
def recB (big : Bool) (P : α → List (Int × Int)) (l : List α) : List Int := l.flatMap fun x => rowB big (P x)
def recOk (P : α → List (Int × Int)) (l : List α) : Bool := l.all fun x => rowOk (P x)
def recG (b : List Int) (big : Bool) (ns : List Int) (dec : List Int → α) (k : Nat) : List α := (List.range k).map fun (i : Nat) => dec (gets b big (sumL ns * (i : Int)) ns)
theorem recB_len {n : Nat} (hl : ∀ x, (rowB big (P x)).length = n) : ∀ l : List α, (recB big P l).length = l.length * n
  | [] => by simp [recB]
  | x :: l => by
    have := recB_len hl l
    show (rowB big (P x) ++ recB big P l).length = _
    rw [List.length_append, this, hl, List.length_cons, Nat.succ_mul, Nat.add_comm]
theorem recB_take (h : l[i]? = some x) : recB big P (l.take (i + 1)) = recB big P (l.take i) ++ rowB big (P x) := by
  rw [List.take_add_one, h]
  simp [recB]
theorem recOk_take (h : l[i]? = some x) : recOk P (l.take (i + 1)) = (recOk P (l.take i) && rowOk (P x)) := by
  rw [List.take_add_one, h]
  simp [recOk]
theorem recOk_bad (h : l[i]? = some x) (hb : rowOk (P x) = false) : recOk P l = false := by
  cases hr : recOk P l with
  | false => rfl
  | true =>
    have := List.all_eq_true.1 hr x (List.mem_of_getElem? h)
    rw [hb] at this
    cases this
theorem recB_B (l : List α) : B (recB big P l) := by
  intro x hx
  obtain ⟨y, _, hy⟩ := List.mem_flatMap.1 hx
  exact rowB_B big (P y) x hy
theorem recG_succ : recG b big ns dec (k + 1) = recG b big ns dec k ++ [dec (gets b big (sumL ns * k) ns)] := by
  unfold recG
  rw [List.range_succ, List.map_append]
  rfl
theorem recG_len : (recG b big ns dec k).length = k := by simp [recG]
theorem rowB_sum : ∀ p : List (Int × Int), (∀ q ∈ p, wideB q.2 = true) → ((rowB big p).length : Int) = sumL (p.map (·.2))
  | [], _ => rfl
  | (v, n) :: p, h => by
    have ih := rowB_sum p (fun q hq => h q (by simp [hq]))
    have hw := h (v, n) (by simp)
    obtain ⟨m, rfl, _, _⟩ := wide_nat hw
    show (((putSpec v (m : Int) big ++ rowB big p).length : Nat) : Int) = (m : Int) + sumL (p.map (·.2))
    rw [List.length_append, putSpec_nat hw, enc_length, ← ih]
    omega
theorem gets_seg {a n : Nat} : ∀ (ns : List Int) (c : Nat), (∀ n ∈ ns, wideB n = true) → (c : Int) + sumL ns ≤ n → a + n ≤ b.length → gets ((b.drop a).take n) big c ns = gets b big ((a : Int) + c) ns
  | [], c, _, _, _ => rfl
  | m :: ns, c, hw, h, hn => by
    have hge := sumL_ge (ns := ns) (fun x hx => hw x (by simp [hx]))
    have hwm := hw m (by simp)
    obtain ⟨m, rfl, h1, h2⟩ := wide_nat hwm
    have h' : (c : Int) + ((m : Int) + sumL ns) ≤ n := h
    have ih := gets_seg ns (c + m) (fun x hx => hw x (by simp [hx])) (by push_cast; omega) hn
    show (getSpec _ _ _ _).1 :: gets _ big ((c : Int) + m) ns = (getSpec _ _ _ _).1 :: gets b big ((a : Int) + c + m) ns
    have e1 : ((c : Int) + m) = ((c + m : Nat) : Int) := by omega
    have e2 : ((a : Int) + c + m) = (a : Int) + ((c + m : Nat) : Int) := by omega
    rw [e1, e2, ih]
    congr 1
    unfold getSpec
    have hl : ((b.drop a).take n).length = n := by rw [List.length_take, List.length_drop]; omega
    rw [if_pos ⟨hwm, by rw [hl]; omega⟩, if_pos ⟨hwm, by omega⟩]
    show num big _ = num big _
    congr 1
    have e3 : ((a : Int) + (c : Int)).toNat = a + c := by omega
    rw [e3, Int.toNat_natCast, Int.toNat_natCast, List.drop_take, List.take_take, List.drop_drop]
    congr 1
    omega
/-- what was put is got -/
theorem rec_put_get (hns : ∀ n ∈ ns, wideB n = true) (hP : ∀ x ∈ l, (P x).map (·.2) = ns) (h0 : ∀ x ∈ l, ∀ q ∈ P x, 0 ≤ q.1) (hok : ∀ x ∈ l, rowOk (P x) = true) (hdec : ∀ x ∈ l, dec ((P x).map (·.1)) = x) (rest : List Int) : recG (recB big P l ++ rest) big ns dec l.length = l := by
  apply List.ext_getElem?
  intro i
  by_cases hi : i < l.length
  · have hx : l[i]? = some l[i] := by simp [hi]
    have hm : l[i] ∈ l := List.getElem_mem hi
    rw [hx]
    unfold recG
    rw [List.getElem?_map, List.getElem?_range hi]
    show some (dec (gets _ big _ ns)) = _
    have hsplit : recB big P l = recB big P (l.take i) ++ (rowB big (P l[i]) ++ recB big P (l.drop (i + 1))) := by
      have e : l = l.take i ++ (l[i] :: l.drop (i + 1)) := by rw [← List.drop_eq_getElem_cons hi, List.take_append_drop]
      have e2 : recB big P l = recB big P (l.take i ++ (l[i] :: l.drop (i + 1))) := congrArg _ e
      rw [e2]
      simp only [recB, List.flatMap_append, List.flatMap_cons]
    have hlen : ∀ t : List α, (∀ x ∈ t, x ∈ l) → ((recB big P t).length : Int) = sumL ns * t.length := by
      intro t
      induction t with
      | nil => intro _; simp [recB]
      | cons y t ih =>
        intro ht
        have hy := ht y (by simp)
        have e : ((rowB big (P y)).length : Int) = sumL ns := by
          rw [rowB_sum (P y) (fun q hq => hns q.2 (by rw [← hP y hy]; exact List.mem_map_of_mem hq)), hP y hy]
        show (((rowB big (P y) ++ recB big P t).length : Nat) : Int) = _
        rw [List.length_append, List.length_cons]
        have := ih (fun x hx => ht x (by simp [hx]))
        push_cast
        rw [e, this, Int.mul_add, Int.mul_one]
        omega
    have hpre : sumL ns * (i : Int) = ((recB big P (l.take i)).length : Int) := by
      rw [hlen _ (fun x hx => List.mem_of_mem_take hx), List.length_take, Nat.min_eq_left (Nat.le_of_lt hi)]
    rw [hpre, hsplit, List.append_assoc, List.append_assoc]
    have := gets_put (big := big) (P l[i]) (recB big P (l.take i)) (recB big P (l.drop (i + 1)) ++ rest) (hok _ hm) (h0 _ hm)
    rw [hP _ hm] at this
    rw [this, hdec _ hm]
  · have h1 : (recG (recB big P l ++ rest) big ns dec l.length)[i]? = none := by
      rw [List.getElem?_eq_none_iff, recG_len]
      omega
    rw [h1, List.getElem?_eq_none_iff.2 (by omega)]
/-- what is got, put, is those bytes -/
theorem rec_get_put {n : Nat} (hB : B b) (hns : ∀ n ∈ ns, wideB n = true) (hn : sumL ns = (n : Int)) (hP : ∀ v : List Int, v.length = ns.length → (∀ x ∈ v, U64 x) → rowOk (v.zip ns) = true → P (dec v) = v.zip ns) :
    ∀ k, k * n ≤ b.length → recB big P (recG b big ns dec k) = b.take (k * n) ∧ recOk P (recG b big ns dec k) = true
  | 0, _ => by simp [recG, recB, recOk]
  | k + 1, h => by
    have e : (k + 1) * n = k * n + n := by rw [Nat.succ_mul]
    obtain ⟨h1, h2⟩ := rec_get_put hB hns hn hP k (by omega)
    have hkn : sumL ns * (k : Int) = ((k * n : Nat) : Int) := by rw [hn]; push_cast; exact Int.mul_comm _ _
    obtain ⟨g1, g2, g3⟩ := put_gets (big := big) hB ns (k * n) hns (by rw [hn]; omega)
    have hgl : ∀ (ns : List Int) (a : Int), (gets b big a ns).length = ns.length := by
      intro ns
      induction ns with
      | nil => intro a; rfl
      | cons m t ih => intro a; simp [gets, ih]
    have hp := hP (gets b big ((k * n : Nat) : Int) ns) (hgl _ _) g3 g1
    rw [recG_succ, hkn]
    refine ⟨?_, ?_⟩
    · have : recB big P (recG b big ns dec k ++ [dec (gets b big ((k * n : Nat) : Int) ns)]) = recB big P (recG b big ns dec k) ++ rowB big (P (dec (gets b big ((k * n : Nat) : Int) ns))) := by simp [recB]
      rw [this, h1, hp, g2, hn, Int.toNat_natCast, e]
      have e3 := List.take_append_drop (k * n) (b.take (k * n + n))
      rw [List.take_take, Nat.min_eq_left (by omega)] at e3
      exact e3
    · have : recOk P (recG b big ns dec k ++ [dec (gets b big ((k * n : Nat) : Int) ns)]) = (recOk P (recG b big ns dec k) && rowOk (P (dec (gets b big ((k * n : Nat) : Int) ns)))) := by simp [recOk]
      rw [this, h2, hp, g1]
      rfl
end
end Go.Proofs.Ytalhipbbomagoaa.PvW

/- What was put is got, as plain laws; what the laws of versions begin with and what both readers yield, told as one. No statement of the set is proved in this text. -/
import Derived.Test.YtoieblaagkbncaaPvVerJ
import Derived.Test.YtoieblaagkbncaaPvVerN
import Derived.Test.YtoieblaagkbncaaPvVerB
import Derived.Test.YtoieblaagkbncaaPvPg
import Derived.Test.YtoieblaagkbncaaPvVerP
import Derived.Test.YtoieblaagkbncaaPvVerQ
import Derived.Test.YtoieblaagkbncaaPvVerC
import Derived.Test.YtoieblaagkbncaaPvVerD
import Derived.Test.YtoieblaagkbncaaPvVerE
namespace Go.Proofs.Ytoieblaagkbncaa.PvW
open Go.RowKit Go.Proofs.Ytoieblaagkbncaa.Cd Go.Proofs.Ytoieblaagkbncaa.AbP Go.Proofs.Ytoieblaagkbncaa.Num Go.Proofs.Ytoieblaagkbncaa.Pv
set_option maxRecDepth 100000
set_option maxHeartbeats 4000000
set_option linter.unusedVariables false
set_option linter.unusedSimpArgs false
section
variable {α : Type} {f : Nat → α → List Int}
theorem idxB_append : ∀ (s t : List α) (k : Nat), idxB f k (s ++ t) = idxB f k s ++ idxB f (k + s.length) t
  | [], t, k => rfl
  | x :: s, t, k => by
    show f k x ++ idxB f (k + 1) (s ++ t) = (f k x ++ idxB f (k + 1) s) ++ _
    rw [idxB_append s t, List.append_assoc, List.length_cons, show k + 1 + s.length = k + (s.length + 1) by omega]
theorem idxB_len {m : Nat} : ∀ (l : List α) (k : Nat), (∀ i, ∀ x ∈ l, (f i x).length = m) → (idxB f k l).length = m * l.length
  | [], k, _ => by simp [idxB]
  | x :: l, k, h => by
    show (f k x ++ idxB f (k + 1) l).length = _
    rw [List.length_append, h k x (by simp), idxB_len l (k + 1) (fun i y hy => h i y (List.mem_cons_of_mem _ hy)), List.length_cons, Nat.mul_succ]
    omega
theorem getSpec_take {b : List Int} {k : Nat} {a n : Int} {big : Bool} (ha : 0 ≤ a) (hn : 0 ≤ n) (hk : k ≤ b.length) (h : a + n ≤ k) : getSpec (b.take k) a n big = getSpec b a n big := by
  unfold getSpec
  have hl : (b.take k).length = k := by rw [List.length_take]; omega
  rw [hl]
  by_cases hw : wideB n = true
  · rw [if_pos ⟨hw, h⟩, if_pos ⟨hw, by omega⟩, List.drop_take, List.take_take, Nat.min_eq_left (by omega)]
  · rw [if_neg (fun h => hw h.1), if_neg (fun h => hw h.1)]
theorem nx_cut {k n : Nat} {size : Int} : nx k n size = if k + 1 = n then 0 else size := by
  unfold nx
  by_cases h : k + 1 = n
  · rw [if_pos h, if_pos (by omega)]
  · rw [if_neg h, if_neg (by omega)]
/-- many things, one behind the other, cut off somewhere -/
theorem chain_cut {X pre post : List Int} {cut sz : Nat} {l : List α} {val : Int → Int} {upd : List α → Int → List α} (hX : X = pre ++ (idxB f 0 l ++ post)) (hc : cut ≤ X.length) (hsz : 1 ≤ sz)
    (hf : ∀ k, ∀ x ∈ l, (f k x).length = sz)
    (hval : ∀ k x q rest, x ∈ l → X = q ++ (f k x ++ rest) → q.length + sz ≤ cut → val q.length = nx k l.length sz)
    (hupd : ∀ k x q rest s, x ∈ l → X = q ++ (f k x ++ rest) → q.length + sz ≤ cut → upd s q.length = s ++ [x]) :
    ∀ t s, l = s ++ t → t ≠ [] → (pre.length + sz * l.length ≤ cut → chainG (X.take cut) sz val upd t.length ((pre.length + sz * s.length : Nat) : Int) s = (l, none)) ∧ (¬ pre.length + sz * l.length ≤ cut → (chainG (X.take cut) sz val upd t.length ((pre.length + sz * s.length : Nat) : Int) s).2 ≠ none)
  | [], s, _, h => absurd rfl h
  | x :: t, s, hl, _ => by
    have hxl : x ∈ l := by rw [hl]; simp
    have hcl : (X.take cut).length = cut := by rw [List.length_take]; omega
    have hsl : (idxB f 0 s).length = sz * s.length := idxB_len s 0 (fun i y hy => hf i y (by rw [hl]; simp [hy]))
    have hQ : X = (pre ++ idxB f 0 s) ++ (f s.length x ++ (idxB f (s.length + 1) t ++ post)) := by
      rw [hX, hl, idxB_append, Nat.zero_add]
      show pre ++ (idxB f 0 s ++ (f s.length x ++ idxB f (s.length + 1) t) ++ post) = _
      simp only [List.append_assoc]
    have hql : (pre ++ idxB f 0 s).length = pre.length + sz * s.length := by rw [List.length_append, hsl]
    have hll : l.length = s.length + (t.length + 1) := by rw [hl, List.length_append, List.length_cons]
    have hmul : sz * l.length = sz * s.length + (sz * t.length + sz) := by rw [hll, Nat.mul_add, Nat.mul_add, Nat.mul_one]
    have hC : chainG (X.take cut) sz val upd (t.length + 1) ((pre.length + sz * s.length : Nat) : Int) s = if (((pre.length + sz * s.length : Nat) : Int)) + sz ≤ (X.take cut).length then (if (0 < t.length ∧ val ((pre.length + sz * s.length : Nat) : Int) < sz) ∨ (t.length = 0 ∧ val ((pre.length + sz * s.length : Nat) : Int) ≠ 0) then (upd s ((pre.length + sz * s.length : Nat) : Int), some (((pre.length + sz * s.length : Nat) : Int), 4)) else if t.length = 0 then (upd s ((pre.length + sz * s.length : Nat) : Int), none) else chainG (X.take cut) sz val upd t.length (((pre.length + sz * s.length : Nat) : Int) + val ((pre.length + sz * s.length : Nat) : Int)) (upd s ((pre.length + sz * s.length : Nat) : Int))) else (s, some (pl (X.take cut) ((pre.length + sz * s.length : Nat) : Int), 2)) := rfl
    rw [List.length_cons, hC]
    by_cases h1 : pre.length + sz * s.length + sz ≤ cut
    rotate_left
    · rw [if_neg (by rw [hcl]; omega)]
      exact ⟨fun h => by omega, fun _ h => by cases h⟩
    have hv := hval s.length x _ _ hxl hQ (by rw [hql]; exact h1)
    have hu := hupd s.length x _ _ s hxl hQ (by rw [hql]; exact h1)
    rw [hql] at hv hu
    rw [if_pos (by rw [hcl]; omega), hv, hu, nx_cut]
    cases t with
    | nil =>
      have hno : ¬ ((0 < ([] : List α).length ∧ (0 : Int) < sz) ∨ (([] : List α).length = 0 ∧ (0 : Int) ≠ 0)) := by
        rintro (⟨h, -⟩ | ⟨-, h⟩)
        · cases h
        · exact h rfl
      rw [if_pos (show s.length + 1 = l.length by rw [hll]; rfl), if_neg hno, if_pos (show ([] : List α).length = 0 from rfl)]
      refine ⟨fun _ => by rw [hl], fun h => ?_⟩
      rw [List.length_nil, Nat.mul_zero] at hmul
      omega
    | cons y t =>
      have hno : ¬ ((0 < (y :: t).length ∧ (sz : Int) < sz) ∨ ((y :: t).length = 0 ∧ (sz : Int) ≠ 0)) := by
        rintro (⟨-, h⟩ | ⟨h, -⟩)
        · omega
        · cases h
      rw [if_neg (show ¬ s.length + 1 = l.length by rw [hll, List.length_cons]; omega), if_neg hno, if_neg (show ¬ (y :: t).length = 0 by rw [List.length_cons]; omega)]
      have ih := chain_cut hX hc hsz hf hval hupd (y :: t) (s ++ [x]) (by rw [hl, List.append_assoc]; rfl) (by simp)
      have e : ((pre.length + sz * (s ++ [x]).length : Nat) : Int) = ((pre.length + sz * s.length : Nat) : Int) + sz := by
        rw [List.length_append, List.length_singleton, Nat.mul_add, Nat.mul_one]
        push_cast
        omega
      rw [e] at ih
      exact ih
/-- all things, up to the last one, cut off somewhere -/
theorem all_cut {β τ : Type} {F : Nat → β → List Int} {X pre post : List Int} {cut hs : Nat} {l : List β} {rd : Int → Hd} {updR : List β → Int → τ} {inn : Nat → Int → τ → List β × Option (Int × Int)} {cnt : β → Nat} (hX : X = pre ++ (idxB F 0 l ++ post)) (hc : cut ≤ X.length) (hhs : 1 ≤ hs)
    (hcnt : ∀ x ∈ l, 1 ≤ cnt x) (hF : ∀ k, ∀ x ∈ l, hs ≤ (F k x).length)
    (hrd : ∀ k x q rest, x ∈ l → X = q ++ (F k x ++ rest) → q.length + hs ≤ cut → rd q.length = ⟨1, cnt x, hs, nx k l.length (F k x).length⟩)
    (hin : ∀ k x q rest s, x ∈ l → X = q ++ (F k x ++ rest) → q.length + hs ≤ cut → (q.length + (F k x).length ≤ cut → inn (cnt x) (q.length + hs) (updR s q.length) = (s ++ [x], none)) ∧ (¬ q.length + (F k x).length ≤ cut → (inn (cnt x) (q.length + hs) (updR s q.length)).2 ≠ none)) :
    ∀ t s N, l = s ++ t → t ≠ [] → t.length ≤ N → (pre.length + (idxB F 0 l).length ≤ cut → allG (X.take cut) hs rd updR inn N ((pre ++ idxB F 0 s).length : Int) s = (l, none)) ∧ (¬ pre.length + (idxB F 0 l).length ≤ cut → (allG (X.take cut) hs rd updR inn N ((pre ++ idxB F 0 s).length : Int) s).2 ≠ none)
  | [], s, N, _, h, _ => absurd rfl h
  | x :: t, s, 0, _, _, h => by cases h
  | x :: t, s, N + 1, hl, _, hN => by
    have hxl : x ∈ l := by rw [hl]; simp
    have hcl : (X.take cut).length = cut := by rw [List.length_take]; omega
    have hQ : X = (pre ++ idxB F 0 s) ++ (F s.length x ++ (idxB F (s.length + 1) t ++ post)) := by
      rw [hX, hl, idxB_append, Nat.zero_add]
      show pre ++ (idxB F 0 s ++ (F s.length x ++ idxB F (s.length + 1) t) ++ post) = _
      simp only [List.append_assoc]
    have hll : l.length = s.length + (t.length + 1) := by rw [hl, List.length_append, List.length_cons]
    have hil : (idxB F 0 l).length = (idxB F 0 s).length + ((F s.length x).length + (idxB F (s.length + 1) t).length) := by
      rw [hl, idxB_append, Nat.zero_add]
      show (idxB F 0 s ++ (F s.length x ++ idxB F (s.length + 1) t)).length = _
      rw [List.length_append, List.length_append]
    have hpl : (pre ++ idxB F 0 s).length = pre.length + (idxB F 0 s).length := List.length_append
    have hFx := hF s.length x hxl
    have hcx := hcnt x hxl
    have hrx := hrd s.length x _ _ hxl hQ
    have hix := hin s.length x _ _ s hxl hQ
    have hnext : (pre ++ idxB F 0 (s ++ [x])).length = (pre ++ idxB F 0 s).length + (F s.length x).length := by
      rw [idxB_append, Nat.zero_add]
      show (pre ++ (idxB F 0 s ++ (F s.length x ++ []))).length = _
      simp only [List.length_append, List.length_nil]
      omega
    unfold allG
    generalize (pre ++ idxB F 0 s).length = a at *
    by_cases h1 : a + hs ≤ cut
    rotate_left
    · rw [if_neg (by rw [hcl]; omega)]
      exact ⟨fun h => by omega, fun _ h => by cases h⟩
    have hr := hrx h1
    have hi := hix h1
    rw [if_pos (by rw [hcl]; omega), hr]
    simp only
    rw [if_neg (by omega), Int.toNat_natCast]
    by_cases h2 : a + (F s.length x).length ≤ cut
    rotate_left
    · have h3 := hi.2 h2
      refine ⟨fun h => by omega, fun _ => ?_⟩
      cases h4 : (inn (cnt x) ((a : Int) + hs) (updR s a)).2 with
      | none => exact absurd h4 h3
      | some e => exact fun h => by cases h
    rw [hi.1 h2]
    simp only
    rw [nx_cut]
    cases t with
    | nil =>
      rw [if_pos (show s.length + 1 = l.length by rw [hll]; rfl), if_pos rfl]
      refine ⟨fun _ => by rw [hl], fun h => ?_⟩
      have : (idxB F (s.length + 1) ([] : List β)).length = 0 := rfl
      omega
    | cons y t =>
      rw [if_neg (show ¬ s.length + 1 = l.length by rw [hll, List.length_cons]; omega), if_neg (show ¬ ((F s.length x).length : Int) = 0 by omega), if_neg (show ¬ ((F s.length x).length : Int) < (hs : Int) by omega)]
      have ih := all_cut hX hc hhs hcnt hF hrd hin (y :: t) (s ++ [x]) N (by rw [hl, List.append_assoc]; rfl) (by simp) (by simp only [List.length_cons] at hN ⊢; omega)
      rw [hnext] at ih
      push_cast at ih
      exact ih
theorem row_nn {p : List (Int × Int)} (h : ∀ x ∈ p.map (·.1), 0 ≤ x) : ∀ q ∈ p, 0 ≤ q.1 := fun q hq => h _ (List.mem_map_of_mem hq)
theorem fits_2 {x : Int} (h : x ≤ 65535) : fitsB x 2 = true := by
  have hp : (256 : Int) ^ 2 = 65536 := by decide
  exact fitsn (m := 2) rfl rfl (by omega)
theorem fits_4' {x : Int} (h : x ≤ 4294967295) : fitsB x 4 = true := by
  have hp : (256 : Int) ^ 4 = 4294967296 := by decide
  exact fitsn (m := 4) rfl rfl (by omega)
theorem put_len {v n : Int} {big : Bool} (h : wideB n = true) : (putSpec v n big).length = n.toNat := by rw [putSpec_len, if_pos h]
theorem name_len (big : Bool) (x y : Int) : (rowB big (prs 4 [x, y])).length = 8 := by
  simp only [rowB, prs, List.map_cons, List.map_nil, List.flatMap_cons, List.flatMap_nil, List.length_append, put_len (n := 4) rfl, List.length_nil]
  rfl
theorem defH_len (big : Bool) (m i fl nd ha n : Int) : (defH big m i fl nd ha n).length = 20 := by
  simp only [defH, rowB, prs, List.map_cons, List.map_nil, List.flatMap_append, List.flatMap_cons, List.flatMap_nil, List.length_append, put_len (n := 4) rfl, put_len (n := 2) rfl, List.length_nil]
  rfl
theorem auxR_len (big : Bool) (n : Int) (k : Nat) (x : dAux.T) : (auxR big n k x).length = 16 := by
  simp only [auxR, rowB, prs, List.map_cons, List.map_nil, List.flatMap_append, List.flatMap_cons, List.flatMap_nil, List.length_append, put_len (n := 4) rfl, put_len (n := 2) rfl, List.length_nil]
  rfl
theorem needH_len (big : Bool) (m i fi n : Int) : (needH big m i fi n).length = 16 := by
  simp only [needH, rowB, prs, List.map_cons, List.map_nil, List.flatMap_append, List.flatMap_cons, List.flatMap_nil, List.length_append, put_len (n := 4) rfl, put_len (n := 2) rfl, List.length_nil]
  rfl
theorem defs_cut {big : Bool} {l : List dDef.T} {R : List Int} {cut N : Nat} (hN : DefsN l) (hok : defsOk l = true) (hl : l ≠ []) (hl40 : l.length ≤ 40) (hc : cut ≤ (defsB big l ++ R).length) (hNl : l.length ≤ N) :
    ((defsB big l).length ≤ cut → allG ((defsB big l ++ R).take cut) 20 (rdD ((defsB big l ++ R).take cut) big) (updRD ((defsB big l ++ R).take cut) big) (innD ((defsB big l ++ R).take cut) big) N 0 [] = (l, none)) ∧
    (¬ (defsB big l).length ≤ cut → (allG ((defsB big l ++ R).take cut) 20 (rdD ((defsB big l ++ R).take cut) big) (updRD ((defsB big l ++ R).take cut) big) (innD ((defsB big l ++ R).take cut) big) N 0 []).2 ≠ none) := by
  generalize hX : defsB big l ++ R = X at *
  have hcn : ∀ x ∈ l, 1 ≤ x.2.2.2.1.length := fun x hx => of_decide_eq_true (List.all_eq_true.1 hok x hx)
  have hnb : ∀ na : List Int, (namesB big na).length = 8 * na.length := fun na => idxB_len na 0 (fun i x _ => name_len big x _)
  have hFl : ∀ (k : Nat) (x : dDef.T), (defB big l.length k x).length = 20 + 8 * x.2.2.2.1.length := fun k x => by
    unfold defB
    rw [List.length_append, defH_len, hnb]
  have hHd : ∀ (k : Nat) (x : dDef.T) (q rest : List Int), x ∈ l → X = q ++ (defB big l.length k x ++ rest) → gets X big q.length [2, 2, 2, 2, 4, 4, 4] = [1, x.1, x.2.1, (x.2.2.2.1.length : Int), x.2.2.1, 20, nx k l.length (20 + 8 * (x.2.2.2.1.length : Int))] := fun k x q rest hx hq => by
    obtain ⟨fl, nd, ha, na, u⟩ := x
    obtain ⟨h1, h2, h3, h4, h5⟩ : DefN fl nd ha na := hN _ hx
    have hnx := nx_ok (i := k) (many := l.length) (size := 20 + 8 * (na.length : Int)) (by omega)
    have hb : X = q ++ (rowB big (prs 2 [1, fl, nd, (na.length : Int)] ++ prs 4 [ha, 20, nx k l.length (20 + 8 * (na.length : Int))]) ++ (namesB big na ++ rest)) := by
      rw [hq]
      show q ++ ((defH big l.length k fl nd ha na.length ++ namesB big na) ++ rest) = _
      simp only [defH, List.append_assoc]
    rw [hb]
    exact gets_put (big := big) (prs 2 [1, fl, nd, (na.length : Int)] ++ prs 4 [ha, 20, nx k l.length (20 + 8 * (na.length : Int))]) q _ (by
      simp only [rowOk, prs, List.map_cons, List.map_nil, List.cons_append, List.nil_append, List.all_cons, List.all_nil, Bool.and_true, Bool.and_eq_true]
      exact ⟨fits_2 (by decide), fits_2 h1.2, fits_2 h2.2, fits_2 (by omega), fits_4' h3.2, fits_4' (by decide), fits_4' (by omega)⟩) (row_nn (by
      simp only [prs, List.map_cons, List.map_nil, List.cons_append, List.nil_append, List.forall_mem_cons]
      exact ⟨by decide, h1.1, h2.1, Int.natCast_nonneg _, h3.1, by decide, hnx.1, fun _ h => by cases h⟩))
  have key := all_cut (F := defB big l.length) (X := X) (pre := []) (post := R) (cut := cut) (hs := 20) (l := l) (rd := rdD (X.take cut) big) (updR := updRD (X.take cut) big) (inn := innD (X.take cut) big) (cnt := fun x => x.2.2.2.1.length) (by rw [← hX]; rfl) hc (by decide) hcn (fun k x _ => by rw [hFl]; omega)
    (fun k x q rest hx hq hcq => by
      have hg := hHd k x q rest hx hq
      have t := fun (o : Int) (n : Int) (h0 : 0 ≤ o) (h1 : 0 ≤ n) (h2 : o + n ≤ 20) => getSpec_take (b := X) (k := cut) (a := (q.length : Int) + o) (n := n) (big := big) (by omega) h1 hc (by omega)
      have g0 : (getSpec X q.length 2 big).1 = 1 := congrArg (fun z : List Int => z.getD 0 0) hg
      have g3 : (getSpec X ((q.length : Int) + 2 + 2 + 2) 2 big).1 = (x.2.2.2.1.length : Int) := congrArg (fun z : List Int => z.getD 3 0) hg
      have g5 : (getSpec X ((q.length : Int) + 2 + 2 + 2 + 2 + 4) 4 big).1 = 20 := congrArg (fun z : List Int => z.getD 5 0) hg
      have g6 : (getSpec X ((q.length : Int) + 2 + 2 + 2 + 2 + 4 + 4) 4 big).1 = nx k l.length (20 + 8 * (x.2.2.2.1.length : Int)) := congrArg (fun z : List Int => z.getD 6 0) hg
      rw [hFl]
      unfold rdD gt
      rw [getSpec_take (by omega) (by decide) hc (by omega), getSpec_take (by omega) (by decide) hc (by omega), getSpec_take (by omega) (by decide) hc (by omega), getSpec_take (by omega) (by decide) hc (by omega), g0, g3, g5, g6]
      push_cast
      rfl)
    (fun k x q rest s hx hq hcq => by
      have hg := hHd k x q rest hx hq
      have g1 : (getSpec X ((q.length : Int) + 2) 2 big).1 = x.1 := congrArg (fun z : List Int => z.getD 1 0) hg
      have g2 : (getSpec X ((q.length : Int) + 2 + 2) 2 big).1 = x.2.1 := congrArg (fun z : List Int => z.getD 2 0) hg
      have g4 : (getSpec X ((q.length : Int) + 2 + 2 + 2 + 2) 4 big).1 = x.2.2.1 := congrArg (fun z : List Int => z.getD 4 0) hg
      have hu : updRD (X.take cut) big s q.length = (s, x.1, x.2.1, x.2.2.1) := by
        unfold updRD gt
        rw [getSpec_take (by omega) (by decide) hc (by omega), getSpec_take (by omega) (by decide) hc (by omega), getSpec_take (by omega) (by decide) hc (by omega), g1, g2, g4]
      have hcx := hcn x hx
      have hNx := hN x hx
      rw [hFl]
      obtain ⟨fl, nd, ha, na, u⟩ := x
      obtain ⟨h1, h2, h3, h4, h5⟩ : DefN fl nd ha na := hNx
      have hcx : 1 ≤ na.length := hcx
      have hql : (q ++ defH big l.length k fl nd ha na.length).length = q.length + 20 := by rw [List.length_append, defH_len]
      have hX2 : X = (q ++ defH big l.length k fl nd ha na.length) ++ (idxB (fun (k : Nat) (x : Int) => rowB big (prs 4 [x, nx k na.length 8])) 0 na ++ rest) := by
        rw [hq]
        show q ++ ((defH big l.length k fl nd ha na.length ++ namesB big na) ++ rest) = _
        simp only [namesB, List.append_assoc]
      have hrow : ∀ (k : Nat) (x : Int) (q rest : List Int), x ∈ na → X = q ++ (rowB big (prs 4 [x, nx k na.length 8]) ++ rest) → gets X big q.length [4, 4] = [x, nx k na.length 8] := fun k x q rest hx hq => by
        obtain ⟨x0, x1⟩ := h4 x hx
        have hnx := nx_ok (i := k) (many := na.length) (size := 8) (by omega)
        rw [hq]
        exact gets_put (big := big) (prs 4 [x, nx k na.length 8]) q rest (by
          simp only [rowOk, prs, List.map_cons, List.map_nil, List.all_cons, List.all_nil, Bool.and_true, Bool.and_eq_true]
          exact ⟨fits_4' x1, fits_4' (by omega)⟩) (row_nn (by
          simp only [prs, List.map_cons, List.map_nil, List.forall_mem_cons]
          exact ⟨x0, hnx.1, fun _ h => by cases h⟩))
      have hch := chain_cut (cut := cut) (sz := 8) (val := valD (X.take cut) big) (upd := updD (X.take cut) big) hX2 hc (by decide) (fun k x _ => name_len big x _)
        (fun k x q rest hx hq hcq => by
          have g : (getSpec X ((q.length : Int) + 4) 4 big).1 = nx k na.length 8 := congrArg (fun z : List Int => z.getD 1 0) (hrow k x q rest hx hq)
          unfold valD gt
          rw [getSpec_take (by omega) (by decide) hc (by omega), g]
          rfl)
        (fun k x q rest s hx hq hcq => by
          have g : (getSpec X (q.length : Int) 4 big).1 = x := congrArg (fun z : List Int => z.getD 0 0) (hrow k x q rest hx hq)
          unfold updD gt
          rw [getSpec_take (by omega) (by decide) hc (by omega), g])
        na [] rfl (by intro h; rw [h] at hcx; cases hcx)
      rw [hql, List.length_nil, Nat.mul_zero, Nat.add_zero] at hch
      have hpos : ((q.length + 20 : Nat) : Int) = (q.length : Int) + ((20 : Nat) : Int) := by push_cast; rfl
      rw [hpos] at hch
      rw [hu]
      unfold innD
      have hE : namesG (X.take cut) big na.length ((q.length : Int) + ((20 : Nat) : Int)) = chainG (X.take cut) ((8 : Nat) : Int) (valD (X.take cut) big) (updD (X.take cut) big) na.length ((q.length : Int) + ((20 : Nat) : Int)) [] := rfl
      refine ⟨fun h => ?_, fun h => ?_⟩
      · have e := hch.1 (by show q.length + 20 + 8 * na.length ≤ cut; have h : q.length + (20 + 8 * na.length) ≤ cut := h; omega)
        show (s ++ [((fl, nd, ha, (namesG (X.take cut) big na.length ((q.length : Int) + ((20 : Nat) : Int))).1, ()) : dDef.T)], (namesG (X.take cut) big na.length ((q.length : Int) + ((20 : Nat) : Int))).2) = (s ++ [((fl, nd, ha, na, u) : dDef.T)], none)
        rw [hE, e]
      · have e := hch.2 (by show ¬ q.length + 20 + 8 * na.length ≤ cut; have h : ¬ q.length + (20 + 8 * na.length) ≤ cut := h; omega)
        show (namesG (X.take cut) big na.length ((q.length : Int) + ((20 : Nat) : Int))).2 ≠ none
        rw [hE]
        exact e) l [] N rfl hl hNl
  have k0 : ((([] : List Int) ++ idxB (defB big l.length) 0 ([] : List dDef.T)).length : Int) = 0 := rfl
  have k1 : ([] : List Int).length + (idxB (defB big l.length) 0 l).length = (defsB big l).length := Nat.zero_add _
  rw [k0, k1] at key
  exact key
theorem needs_cut {big : Bool} {l : List dNeed.T} {R : List Int} {cut N : Nat} (hN : NeedsN l) (hok : needsOk l = true) (hl : l ≠ []) (hl40 : l.length ≤ 40) (hc : cut ≤ (needsB big l ++ R).length) (hNl : l.length ≤ N) :
    ((needsB big l).length ≤ cut → allG ((needsB big l ++ R).take cut) 16 (rdN ((needsB big l ++ R).take cut) big) (updRN ((needsB big l ++ R).take cut) big) (innN ((needsB big l ++ R).take cut) big) N 0 [] = (l, none)) ∧
    (¬ (needsB big l).length ≤ cut → (allG ((needsB big l ++ R).take cut) 16 (rdN ((needsB big l ++ R).take cut) big) (updRN ((needsB big l ++ R).take cut) big) (innN ((needsB big l ++ R).take cut) big) N 0 []).2 ≠ none) := by
  generalize hX : needsB big l ++ R = X at *
  have hcn : ∀ x ∈ l, 1 ≤ x.2.1.length := fun x hx => of_decide_eq_true (List.all_eq_true.1 hok x hx)
  have hnb : ∀ ax : List dAux.T, (auxsB big ax).length = 16 * ax.length := fun ax => idxB_len ax 0 (fun i x _ => auxR_len big _ _ _)
  have hFl : ∀ (k : Nat) (x : dNeed.T), (needB big l.length k x).length = 16 + 16 * x.2.1.length := fun k x => by
    unfold needB
    rw [List.length_append, needH_len, hnb]
  have hHd : ∀ (k : Nat) (x : dNeed.T) (q rest : List Int), x ∈ l → X = q ++ (needB big l.length k x ++ rest) → gets X big q.length [2, 2, 4, 4, 4] = [1, (x.2.1.length : Int), x.1, 16, nx k l.length (16 + 16 * (x.2.1.length : Int))] := fun k x q rest hx hq => by
    obtain ⟨fi, ax, u⟩ := x
    obtain ⟨h1, h2, h3⟩ : NeedN fi ax := hN _ hx
    have hnx := nx_ok (i := k) (many := l.length) (size := 16 + 16 * (ax.length : Int)) (by omega)
    have hb : X = q ++ (rowB big (prs 2 [1, (ax.length : Int)] ++ prs 4 [fi, 16, nx k l.length (16 + 16 * (ax.length : Int))]) ++ (auxsB big ax ++ rest)) := by
      rw [hq]
      show q ++ ((needH big l.length k fi ax.length ++ auxsB big ax) ++ rest) = _
      simp only [needH, List.append_assoc]
    rw [hb]
    exact gets_put (big := big) (prs 2 [1, (ax.length : Int)] ++ prs 4 [fi, 16, nx k l.length (16 + 16 * (ax.length : Int))]) q _ (by
      simp only [rowOk, prs, List.map_cons, List.map_nil, List.cons_append, List.nil_append, List.all_cons, List.all_nil, Bool.and_true, Bool.and_eq_true]
      exact ⟨fits_2 (by decide), fits_2 (by omega), fits_4' h1.2, fits_4' (by decide), fits_4' (by omega)⟩) (row_nn (by
      simp only [prs, List.map_cons, List.map_nil, List.cons_append, List.nil_append, List.forall_mem_cons]
      exact ⟨by decide, Int.natCast_nonneg _, h1.1, by decide, hnx.1, fun _ h => by cases h⟩))
  have key := all_cut (F := needB big l.length) (X := X) (pre := []) (post := R) (cut := cut) (hs := 16) (l := l) (rd := rdN (X.take cut) big) (updR := updRN (X.take cut) big) (inn := innN (X.take cut) big) (cnt := fun x => x.2.1.length) (by rw [← hX]; rfl) hc (by decide) hcn (fun k x _ => by rw [hFl]; omega)
    (fun k x q rest hx hq hcq => by
      have hg := hHd k x q rest hx hq
      have g0 : (getSpec X q.length 2 big).1 = 1 := congrArg (fun z : List Int => z.getD 0 0) hg
      have g3 : (getSpec X ((q.length : Int) + 2) 2 big).1 = (x.2.1.length : Int) := congrArg (fun z : List Int => z.getD 1 0) hg
      have g5 : (getSpec X ((q.length : Int) + 2 + 2 + 4) 4 big).1 = 16 := congrArg (fun z : List Int => z.getD 3 0) hg
      have g6 : (getSpec X ((q.length : Int) + 2 + 2 + 4 + 4) 4 big).1 = nx k l.length (16 + 16 * (x.2.1.length : Int)) := congrArg (fun z : List Int => z.getD 4 0) hg
      rw [hFl]
      unfold rdN gt
      rw [getSpec_take (by omega) (by decide) hc (by omega), getSpec_take (by omega) (by decide) hc (by omega), getSpec_take (by omega) (by decide) hc (by omega), getSpec_take (by omega) (by decide) hc (by omega), g0, g3, g5, g6]
      push_cast
      rfl)
    (fun k x q rest s hx hq hcq => by
      have hg := hHd k x q rest hx hq
      have g1 : (getSpec X ((q.length : Int) + 2 + 2) 4 big).1 = x.1 := congrArg (fun z : List Int => z.getD 2 0) hg
      have hu : updRN (X.take cut) big s q.length = (s, x.1) := by
        unfold updRN gt
        rw [getSpec_take (by omega) (by decide) hc (by omega), g1]
      have hcx := hcn x hx
      have hNx := hN x hx
      rw [hFl]
      obtain ⟨fi, ax, u⟩ := x
      obtain ⟨h1, h4, h5⟩ : NeedN fi ax := hNx
      have hcx : 1 ≤ ax.length := hcx
      have hql : (q ++ needH big l.length k fi ax.length).length = q.length + 16 := by rw [List.length_append, needH_len]
      have hX2 : X = (q ++ needH big l.length k fi ax.length) ++ (idxB (auxR big ax.length) 0 ax ++ rest) := by
        rw [hq]
        show q ++ ((needH big l.length k fi ax.length ++ auxsB big ax) ++ rest) = _
        simp only [auxsB, List.append_assoc]
      have hrow : ∀ (k : Nat) (x : dAux.T) (q rest : List Int), x ∈ ax → X = q ++ (auxR big ax.length k x ++ rest) → gets X big q.length [4, 2, 2, 4, 4] = [x.1, x.2.1, x.2.2.1, x.2.2.2.1, nx k ax.length 16] := fun k x q rest hx hq => by
        obtain ⟨a1, a2, a3, a4⟩ := h4 x hx
        have hnx := nx_ok (i := k) (many := ax.length) (size := 16) (by omega)
        rw [hq]
        exact gets_put (big := big) (prs 4 [x.1] ++ prs 2 [x.2.1, x.2.2.1] ++ prs 4 [x.2.2.2.1, nx k ax.length 16]) q rest (by
          simp only [rowOk, prs, List.map_cons, List.map_nil, List.cons_append, List.nil_append, List.all_cons, List.all_nil, Bool.and_true, Bool.and_eq_true]
          exact ⟨fits_4' a1.2, fits_2 a2.2, fits_2 a3.2, fits_4' a4.2, fits_4' (by omega)⟩) (row_nn (by
          simp only [prs, List.map_cons, List.map_nil, List.cons_append, List.nil_append, List.forall_mem_cons]
          exact ⟨a1.1, a2.1, a3.1, a4.1, hnx.1, fun _ h => by cases h⟩))
      have hch := chain_cut (cut := cut) (sz := 16) (val := valN (X.take cut) big) (upd := updN (X.take cut) big) hX2 hc (by decide) (fun k x _ => auxR_len big _ k x)
        (fun k x q rest hx hq hcq => by
          have g : (getSpec X ((q.length : Int) + 4 + 2 + 2 + 4) 4 big).1 = nx k ax.length 16 := congrArg (fun z : List Int => z.getD 4 0) (hrow k x q rest hx hq)
          unfold valN gt
          rw [getSpec_take (by omega) (by decide) hc (by omega), g]
          rfl)
        (fun k x q rest s hx hq hcq => by
          have g0 : (getSpec X (q.length : Int) 4 big).1 = x.1 := congrArg (fun z : List Int => z.getD 0 0) (hrow k x q rest hx hq)
          have g1 : (getSpec X ((q.length : Int) + 4) 2 big).1 = x.2.1 := congrArg (fun z : List Int => z.getD 1 0) (hrow k x q rest hx hq)
          have g2 : (getSpec X ((q.length : Int) + 4 + 2) 2 big).1 = x.2.2.1 := congrArg (fun z : List Int => z.getD 2 0) (hrow k x q rest hx hq)
          have g3 : (getSpec X ((q.length : Int) + 4 + 2 + 2) 4 big).1 = x.2.2.2.1 := congrArg (fun z : List Int => z.getD 3 0) (hrow k x q rest hx hq)
          unfold updN auxG gt
          rw [getSpec_take (by omega) (by decide) hc (by omega), getSpec_take (by omega) (by decide) hc (by omega), getSpec_take (by omega) (by decide) hc (by omega), getSpec_take (by omega) (by decide) hc (by omega), g0, g1, g2, g3])
        ax [] rfl (by intro h; rw [h] at hcx; cases hcx)
      rw [hql, List.length_nil, Nat.mul_zero, Nat.add_zero] at hch
      have hpos : ((q.length + 16 : Nat) : Int) = (q.length : Int) + ((16 : Nat) : Int) := by push_cast; rfl
      rw [hpos] at hch
      rw [hu]
      unfold innN
      have hE : auxsG (X.take cut) big ax.length ((q.length : Int) + ((16 : Nat) : Int)) = chainG (X.take cut) ((16 : Nat) : Int) (valN (X.take cut) big) (updN (X.take cut) big) ax.length ((q.length : Int) + ((16 : Nat) : Int)) [] := rfl
      refine ⟨fun h => ?_, fun h => ?_⟩
      · have e := hch.1 (by show q.length + 16 + 16 * ax.length ≤ cut; have h : q.length + (16 + 16 * ax.length) ≤ cut := h; omega)
        show (s ++ [((fi, (auxsG (X.take cut) big ax.length ((q.length : Int) + ((16 : Nat) : Int))).1, ()) : dNeed.T)], (auxsG (X.take cut) big ax.length ((q.length : Int) + ((16 : Nat) : Int))).2) = (s ++ [((fi, ax, u) : dNeed.T)], none)
        rw [hE, e]
      · have e := hch.2 (by show ¬ q.length + 16 + 16 * ax.length ≤ cut; have h : ¬ q.length + (16 + 16 * ax.length) ≤ cut := h; omega)
        show (auxsG (X.take cut) big ax.length ((q.length : Int) + ((16 : Nat) : Int))).2 ≠ none
        rw [hE]
        exact e) l [] N rfl hl hNl
  have k0 : ((([] : List Int) ++ idxB (needB big l.length) 0 ([] : List dNeed.T)).length : Int) = 0 := rfl
  have k1 : ([] : List Int).length + (idxB (needB big l.length) 0 l).length = (needsB big l).length := Nat.zero_add _
  rw [k0, k1] at key
  exact key
end
end Go.Proofs.Ytoieblaagkbncaa.PvW

namespace Go.Proofs.Ytoieblaagkbncaa.PvW
open Go.RowKit Go.Proofs.Ytoieblaagkbncaa.Cd Go.Proofs.Ytoieblaagkbncaa.AbP Go.Proofs.Ytoieblaagkbncaa.Num Go.Proofs.Ytoieblaagkbncaa.Pv
set_option linter.unusedVariables false
set_option linter.unusedSimpArgs false
section
variable {K : PV → List OB → Prop} {b : List Int} {big : Bool}
theorem vsmall_spec {l : List dDef.T} {m : List dNeed.T} (hk1 : l.length ≤ 40 → m.length ≤ 40 → (∀ x ∈ l, x.2.2.2.1.length ≤ 100) → (∀ x ∈ m, x.2.1.length ≤ 100) → K (.int .i64 1) []) (hk0 : K (.int .i64 0) []) : PCalls Try.prog 7 [.sl dDef l, .sl dNeed m] [] K := by
  refine told_callP bezantlaw13_small.told fun Z hZ => ?_
  unfold bezantlaw13_small.c
  by_cases hl : 40 < (l.length : Int)
  · refine W1 trivial @DD trivial ?_
    exact hk0
  by_cases hm : 40 < (m.length : Int)
  · refine W1 trivial @DD trivial ?_
    exact hk0
  refine W1 trivial @DD trivial ?_
  refine w_lp (fun q e s => s = [] ∧ ∃ i : Nat, q + i = l.length ∧ (∀ x ∈ l.take i, x.2.2.2.1.length ≤ 100) ∧ e 0 = .sl dDef l ∧ e 1 = .sl dNeed m ∧ e 5 = .int .i64 i) l.length ?_ ?_
  · exact ⟨rfl, 0, rfl, fun x hx => (by cases hx), by exact lk trivial, by exact lk trivial, by exact lk trivial⟩
  rintro q e s ⟨rfl, i, hi, hall, e0, e1, e5⟩
  by_cases hq : i < l.length
  · obtain ⟨x, hx⟩ : ∃ x, l[i]? = some x := ⟨l[i], List.getElem?_eq_getElem hq⟩
    have hst : x.2.2.2.1.length ≤ 100 → ∀ y ∈ l.take (i + 1), y.2.2.2.1.length ≤ 100 := fun h y hy => by
      rw [take_snocD hx] at hy
      rcases List.mem_append.1 hy with hy | hy
      · exact hall y hy
      · obtain rfl := List.mem_singleton.1 hy; exact h
    obtain ⟨fl, nd, ha, na, u⟩ := x
    have hst : na.length ≤ 100 → ∀ y ∈ l.take (i + 1), y.2.2.2.1.length ≤ 100 := hst
    by_cases h1 : 100 < (na.length : Int)
    · refine W1 (And.intro @e0 (And.intro @e1 @e5)) @DD trivial ?_
      exact hk0
    refine W1 (And.intro @e0 (And.intro @e1 @e5)) @DD trivial ?_
    exact ⟨q - 1, by omega, rfl, i + 1, by omega, hst (by omega), by exact lk @e0, by exact lk @e1, by exact lk @e5⟩
  obtain rfl : i = l.length := by omega
  rw [List.take_length] at hall
  have hk1 := fun h => hk1 (by omega) (by omega) hall h
  refine W1 (And.intro @e0 (And.intro @e1 @e5)) @DD trivial ?_
  refine w_lp (fun q e s => s = [] ∧ ∃ i : Nat, q + i = m.length ∧ (∀ x ∈ m.take i, x.2.1.length ≤ 100) ∧ e 1 = .sl dNeed m ∧ e 6 = .int .i64 i) m.length ?_ ?_
  · exact ⟨rfl, 0, rfl, fun x hx => (by cases hx), by exact lk @e1, by exact lk trivial⟩
  rintro q e s ⟨rfl, i, hi, hall2, e1, e6⟩
  by_cases hq : i < m.length
  · obtain ⟨x, hx⟩ : ∃ x, m[i]? = some x := ⟨m[i], List.getElem?_eq_getElem hq⟩
    have hst : x.2.1.length ≤ 100 → ∀ y ∈ m.take (i + 1), y.2.1.length ≤ 100 := fun h y hy => by
      rw [take_snocD hx] at hy
      rcases List.mem_append.1 hy with hy | hy
      · exact hall2 y hy
      · obtain rfl := List.mem_singleton.1 hy; exact h
    obtain ⟨fi, ax, u⟩ := x
    have hst : ax.length ≤ 100 → ∀ y ∈ m.take (i + 1), y.2.1.length ≤ 100 := hst
    by_cases h1 : 100 < (ax.length : Int)
    · refine W1 (And.intro @e1 @e6) @DD trivial ?_
      exact hk0
    refine W1 (And.intro @e1 @e6) @DD trivial ?_
    exact ⟨q - 1, by omega, rfl, i + 1, by omega, hst (by omega), by exact lk @e1, by exact lk @e6⟩
  obtain rfl : i = m.length := by omega
  rw [List.take_length] at hall2
  have := hk1 hall2
  refine W1 (And.intro @e1 @e6) @DD trivial ?_
  exact this
theorem sdefs_spec {l : List dDef.T} (hm : Om (l.length ≤ 1000000)) (hN : ∀ x ∈ l, x.2.2.2.1.length ≤ 1000000) (hk : K (.bool true) []) : PCalls Try.prog 16 [.sl dDef l, .sl dDef l] [] K := by
  have hm := hm.o
  refine told_callP bezantref12_SameDefs.told fun Z hZ => ?_
  unfold bezantref12_SameDefs.c
  refine W1 trivial @DD trivial ?_
  refine w_lp (fun q e s => s = [] ∧ ∃ i : Nat, q + i = l.length ∧ e 0 = .sl dDef l ∧ e 1 = .sl dDef l ∧ e 5 = .int .i64 i) l.length ?_ ?_
  · exact ⟨rfl, 0, rfl, by exact lk trivial, by exact lk trivial, by exact lk trivial⟩
  rintro q e s ⟨rfl, i, hi, e0, e1, e5⟩
  by_cases hq : i < l.length
  · obtain ⟨x, hx⟩ : ∃ x, l[i]? = some x := ⟨l[i], List.getElem?_eq_getElem hq⟩
    have hnl := hN x (List.mem_of_getElem? hx)
    obtain ⟨fl, nd, ha, na, u⟩ := x
    have hnl : na.length ≤ 1000000 := hnl
    refine W1 (And.intro @e0 (And.intro @e1 @e5)) @DD trivial ?_
    refine w_lp (fun q e s => s = [] ∧ ∃ k : Nat, q + k = na.length ∧ e 0 = .sl dDef l ∧ e 1 = .sl dDef l ∧ e 5 = .int .i64 i ∧ e 6 = .int .i64 k) na.length ?_ ?_
    · exact ⟨rfl, 0, rfl, by exact lk @e0, by exact lk @e1, by exact lk @e5, by exact lk trivial⟩
    rintro q2 e s ⟨rfl, k, hk2, e0, e1, e5, e6⟩
    by_cases hkq : k < na.length
    · refine W1 (And.intro @e0 (And.intro @e1 (And.intro @e5 @e6))) @DD trivial ?_
      exact ⟨q2 - 1, by omega, rfl, k + 1, by omega, by exact lk @e0, by exact lk @e1, by exact lk @e5, by exact lk @e6⟩
    obtain rfl : k = na.length := by omega
    refine W1 (And.intro @e0 (And.intro @e1 (And.intro @e5 @e6))) @DD trivial ?_
    exact ⟨q - 1, by omega, rfl, i + 1, by omega, by exact lk @e0, by exact lk @e1, by exact lk @e5⟩
  · obtain rfl : i = l.length := by omega
    refine W1 (And.intro @e0 (And.intro @e1 @e5)) @DD trivial ?_
    exact hk
theorem aux_same (a b c d : Int) : EqS Try.prog 81 [.int .u32 a, .int .u16 b, .int .u16 c, .int .u32 d] [.int .u32 a, .int .u16 b, .int .u16 c, .int .u32 d] true :=
  EqS.same ((.cons (.int .u32) (.cons (.int .u16) (.cons (.int .u16) (.cons (.int .u32) .nil))))) (by decide) (by kernel_rfl) (by kernel_rfl) (by decide) (a, b, c, d, ()) rfl
theorem sneeds_spec {l : List dNeed.T} (hm : Om (l.length ≤ 1000000)) (hN : ∀ x ∈ l, x.2.1.length ≤ 1000000) (hk : K (.bool true) []) : PCalls Try.prog 19 [.sl dNeed l, .sl dNeed l] [] K := by
  have hm := hm.o
  refine told_callP bezantref12_SameNeeds.told fun Z hZ => ?_
  unfold bezantref12_SameNeeds.c
  refine W1 trivial @DD trivial ?_
  refine w_lp (fun q e s => s = [] ∧ ∃ i : Nat, q + i = l.length ∧ e 0 = .sl dNeed l ∧ e 1 = .sl dNeed l ∧ e 5 = .int .i64 i) l.length ?_ ?_
  · exact ⟨rfl, 0, rfl, by exact lk trivial, by exact lk trivial, by exact lk trivial⟩
  rintro q e s ⟨rfl, i, hi, e0, e1, e5⟩
  by_cases hq : i < l.length
  · obtain ⟨x, hx⟩ : ∃ x, l[i]? = some x := ⟨l[i], List.getElem?_eq_getElem hq⟩
    have hnl := hN x (List.mem_of_getElem? hx)
    obtain ⟨fi, ax, u⟩ := x
    have hnl : ax.length ≤ 1000000 := hnl
    refine W1 (And.intro @e0 (And.intro @e1 @e5)) @DD trivial ?_
    refine w_lp (fun q e s => s = [] ∧ ∃ k : Nat, q + k = ax.length ∧ e 0 = .sl dNeed l ∧ e 1 = .sl dNeed l ∧ e 5 = .int .i64 i ∧ e 6 = .int .i64 k) ax.length ?_ ?_
    · exact ⟨rfl, 0, rfl, by exact lk @e0, by exact lk @e1, by exact lk @e5, by exact lk trivial⟩
    rintro q2 e s ⟨rfl, k, hk2, e0, e1, e5, e6⟩
    by_cases hkq : k < ax.length
    · obtain ⟨y, hy⟩ : ∃ y, ax[k]? = some y := ⟨_, List.getElem?_eq_getElem hkq⟩
      obtain ⟨ha, fl, ot, nm, u2⟩ := y
      have hsm := aux_same ha fl ot nm
      refine W1 (And.intro @e0 (And.intro @e1 (And.intro @e5 @e6))) @DD trivial ?_
      exact ⟨q2 - 1, by omega, rfl, k + 1, by omega, by exact lk @e0, by exact lk @e1, by exact lk @e5, by exact lk @e6⟩
    obtain rfl : k = ax.length := by omega
    refine W1 (And.intro @e0 (And.intro @e1 (And.intro @e5 @e6))) @DD trivial ?_
    exact ⟨q - 1, by omega, rfl, i + 1, by omega, by exact lk @e0, by exact lk @e1, by exact lk @e5⟩
  · obtain rfl : i = l.length := by omega
    refine W1 (And.intro @e0 (And.intro @e1 @e5)) @DD trivial ?_
    exact hk
end
end Go.Proofs.Ytoieblaagkbncaa.PvW

namespace Go.Proofs.Ytoieblaagkbncaa.PvW
open Go.RowKit Go.Proofs.Ytoieblaagkbncaa.Cd Go.Proofs.Ytoieblaagkbncaa.AbP Go.Proofs.Ytoieblaagkbncaa.Num Go.Proofs.Ytoieblaagkbncaa.Pv
set_option linter.unusedVariables false
set_option linter.unusedSimpArgs false
section
variable {K : PV → List OB → Prop} {b : List Int} {big : Bool}
theorem idxB_B {α : Type} {f : Nat → α → List Int} (hf : ∀ k x, B (f k x)) : ∀ (l : List α) (k : Nat), B (idxB f k l)
  | [], k => fun x hx => by cases hx
  | y :: l, k => B_append (hf k y) (idxB_B hf l (k + 1))
theorem defsB_B (big : Bool) (l : List dDef.T) : B (defsB big l) := idxB_B (fun k x => B_append (rowB_B _ _) (idxB_B (fun k x => rowB_B _ _) _ _)) l 0
theorem needsB_B (big : Bool) (l : List dNeed.T) : B (needsB big l) := idxB_B (fun k x => B_append (rowB_B _ _) (idxB_B (fun k x => rowB_B _ _) _ _)) l 0
theorem defs_got {l : List dDef.T} {R : List Int} {N : Nat} (hN : DefsN l) (hok : defsOk l = true) (hl : l ≠ []) (hl40 : l.length ≤ 40) (hNl : l.length ≤ N) :
    allG (defsB big l ++ R) 20 (rdD (defsB big l ++ R) big) (updRD (defsB big l ++ R) big) (innD (defsB big l ++ R) big) N 0 [] = (l, none) := by
  have h := (defs_cut (R := R) (cut := (defsB big l ++ R).length) hN hok hl hl40 (Nat.le_refl _) hNl).1 (by rw [List.length_append]; omega)
  rwa [List.take_length] at h
theorem needs_got {l : List dNeed.T} {R : List Int} {N : Nat} (hN : NeedsN l) (hok : needsOk l = true) (hl : l ≠ []) (hl40 : l.length ≤ 40) (hNl : l.length ≤ N) :
    allG (needsB big l ++ R) 16 (rdN (needsB big l ++ R) big) (updRN (needsB big l ++ R) big) (innN (needsB big l ++ R) big) N 0 [] = (l, none) := by
  have h := (needs_cut (R := R) (cut := (needsB big l ++ R).length) hN hok hl hl40 (Nat.le_refl _) hNl).1 (by rw [List.length_append]; omega)
  rwa [List.take_length] at h
theorem up13_spec (hk : K (.bool true) []) : PCalls Try.prog 6 [] [] K := by
  refine told_callP bezantlaw13_up.told fun Z hZ => ?_
  unfold bezantlaw13_up.c
  have hN : DefsN [((0, 1, 0, [7], ()) : dDef.T)] := by
    intro x hx
    obtain rfl := List.mem_singleton.1 hx
    exact ⟨by decide, by decide, by decide, fun y hy => (by obtain rfl := List.mem_singleton.1 hy; decide), by decide⟩
  have hl : (defsB false [((0, 1, 0, [7], ()) : dDef.T)]).length = 28 := by decide
  have hB := defsB_B false [((0, 1, 0, [7], ()) : dDef.T)]
  have hg := defs_got (big := false) (R := []) (N := 28 + 1) hN (by decide) (by simp) (by decide) (by decide)
  rw [List.append_nil] at hg
  have hA : defsG (defsB false [((0, 1, 0, [7], ()) : dDef.T)]) false = ([(0, 1, 0, [7], ())], none) := by
    unfold defsG
    rw [hl]
    exact hg
  have hli : ((defsB false [((0, 1, 0, [7], ()) : dDef.T)]).length : Int) = 28 := by rw [hl]; rfl
  refine W1 trivial @DD trivial ?_
  apply aArr 0 (.int .u32); (repeat any_goals first | exact mp_z | apply mp_s | exact rs_z | apply rs_t | apply rs_n | apply rs_c); (repeat any_goals first | (apply Lk.i; (simp only [↓LL, ↓reduceIte, Nat.reduceEqDiff]; (try rfl); done)) | (apply Rf.i; first | rfl | assumption) | (apply Vl.i; ((try simp (disch := omega) only [VV, ↓reduceIte, peqI, encP]); (try rfl); done)) | (apply Am.i; assumption) | (apply Pu.i; ((try simp only [↓reduceIte, UU, RR, Nat.reduceAdd, Nat.reduceEqDiff, cellsP, putP, fillQ, flatQ, shP, sh1, encP]); (try rfl); done)) | (apply Om.i; ((try simp only [MM]); (try omega); done)) | (apply Vw.i; first | exact As.sl _ _ | exact As.nil _ | exact As.arr _ _ _ _ rfl (by ((try simp only [MM]); (try omega); done)) | exact As.row _ _ _ _ _ rfl rfl | exact Src.str _ | exact Src.as (As.sl _ _) | exact Src.as (As.nil _) | exact Src.as (As.arr _ _ _ _ rfl (by ((try simp only [MM]); (try omega); done))) | exact Src.as (As.row _ _ _ _ _ rfl rfl))); (all_goals fail_if_success apply Mk.i)
  refine caGh (Gh.frzW (b := 1) (j := 3) rfl rfl rfl rfl) ?_
  apply aArr 1 dDef; (repeat any_goals first | exact mp_z | apply mp_s | exact rs_z | apply rs_t | apply rs_n | apply rs_c); (repeat any_goals first | (apply Lk.i; (simp only [↓LL, ↓reduceIte, Nat.reduceEqDiff]; (try rfl); done)) | (apply Rf.i; first | rfl | assumption) | (apply Vl.i; ((try simp (disch := omega) only [VV, ↓reduceIte, peqI, encP]); (try rfl); done)) | (apply Am.i; assumption) | (apply Pu.i; ((try simp only [↓reduceIte, UU, RR, Nat.reduceAdd, Nat.reduceEqDiff, cellsP, putP, fillQ, flatQ, shP, sh1, encP]); (try rfl); done)) | (apply Om.i; ((try simp only [MM]); (try omega); done)) | (apply Vw.i; first | exact As.sl _ _ | exact As.nil _ | exact As.arr _ _ _ _ rfl (by ((try simp only [MM]); (try omega); done)) | exact As.row _ _ _ _ _ rfl rfl | exact Src.str _ | exact Src.as (As.sl _ _) | exact Src.as (As.nil _) | exact Src.as (As.arr _ _ _ _ rfl (by ((try simp only [MM]); (try omega); done))) | exact Src.as (As.row _ _ _ _ _ rfl rfl))); (all_goals fail_if_success apply Mk.i)
  refine ca_V (Cv.a ⟨rfl⟩ ⟨rfl⟩ ⟨rfl⟩ (Cv.p ⟨rfl⟩ Cv.z)) ?_
  refine vputDefs_spec ⟨by decide⟩ ⟨hN⟩ (fun _ => ?_) (fun no => absurd no (by decide))
  refine Wp1 trivial @DD (And.intro (@xFrz 1) @trivial) ?_
  refine vdefs_spec ⟨hB⟩ ⟨by rw [hl]; decide⟩ (fun h => absurd (hl.symm.trans h) (by decide)) (fun _ _ => ?_) (fun _ p c h => by rw [hA] at h; cases h)
  rw [hA]
  have hone : (([((0, 1, 0, [7], ()) : dDef.T)].length : Nat) : Int) = 1 := rfl
  refine W1 trivial (And.intro @DD (And.intro @hli @hone)) trivial ?_
  refine PCalls.wk (.n (.int .u8) (.c _ .z)) ?_
  refine vneeds_spec (b := []) (big := true) ⟨fun x hx => (by cases hx)⟩ ⟨by decide⟩ (fun _ => ?_) (fun h => absurd rfl h) (fun h => absurd rfl h)
  have hx : [((0, 1, 0, [7], ()) : dDef.T)][0]? = some ((0, 1, 0, [7], ()) : dDef.T) := rfl
  have hone7 : (([(7:Int)].length : Nat) : Int) = 1 := rfl
  have hx7 : [(7:Int)][0]? = some (7:Int) := rfl
  refine W1 trivial (And.intro @DD (And.intro @hli (And.intro @hone @hone7))) trivial ?_
  exact hk
end
end Go.Proofs.Ytoieblaagkbncaa.PvW

namespace Go.Proofs.Ytoieblaagkbncaa.PvW
open Go.RowKit Go.Proofs.Ytoieblaagkbncaa.Cd Go.Proofs.Ytoieblaagkbncaa.AbP Go.Proofs.Ytoieblaagkbncaa.Num Go.Proofs.Ytoieblaagkbncaa.Pv
set_option linter.unusedVariables false
set_option linter.unusedSimpArgs false
def okL {α : Type} (b : List Int) (r : List α × Option (Int × Int)) : List α := if b.length = 0 then [] else match r.2 with | none => r.1 | some _ => []
def erV {α : Type} (b : List Int) (r : List α × Option (Int × Int)) : PV := if b.length = 0 then .nilI else match r.2 with | none => .nilI | some e => eSpot e.1 e.2
def erC {α : Type} (b : List Int) (r : List α × Option (Int × Int)) : Int := if b.length = 0 then 0 else match r.2 with | none => 0 | some e => e.2
def erP {α : Type} (b : List Int) (r : List α × Option (Int × Int)) : Int := if b.length = 0 then 0 else match r.2 with | none => 0 | some e => e.1
def refV (d : Ab.D) (b : List Int) (r : List d.T × Option (Int × Int)) : PV := if b.length = 0 then .sl d [] else match r.2 with | none => .sl d r.1 | some _ => .nilS
theorem all_inv {σ τ : Type} {b : List Int} {size : Int} {rd : Int → Hd} {updR : σ → Int → τ} {inn : Nat → Int → τ → σ × Option (Int × Int)} (Inv : Nat → σ → Prop) (hs : ∀ k x a p, Inv (k + 1) x → Inv k (inn (rd a).m.toNat p (updR x a)).1) : ∀ (k : Nat) (a : Int) (x : σ), Inv k x → ∃ j, Inv j (allG b size rd updR inn k a x).1
  | 0, a, x, h => ⟨0, h⟩
  | k + 1, a, x, h => by
    unfold allG
    split
    · split
      · exact ⟨_, h⟩
      · split
        · exact ⟨_, h⟩
        · split
          · exact ⟨k, hs k x a _ h⟩
          · split
            · exact ⟨_, h⟩
            · exact all_inv Inv hs k _ _ (hs k x a _ h)
    · exact ⟨_, h⟩
section
variable {K : PV → List OB → Prop} {b : List Int} {big : Bool}
theorem defsG_bd (hB : B b) : (defsG b big).1.length ≤ b.length + 1 ∧ ∀ x ∈ (defsG b big).1, x.2.2.2.1.length ≤ 65535 := by
  obtain ⟨j, h1, h2⟩ := all_inv (b := b) (size := 20) (rd := rdD b big) (updR := updRD b big) (inn := innD b big) (fun k x => x.length + k ≤ b.length + 1 ∧ ∀ d ∈ x, d.2.2.2.1.length ≤ 65535) (fun k x a p h => by
    refine ⟨?_, fun d hd => ?_⟩
    · show (x ++ [_]).length + k ≤ _
      rw [List.length_append]
      have := h.1
      simp only [List.length_cons, List.length_nil]
      omega
    · rcases List.mem_append.1 (show d ∈ x ++ [_] from hd) with hd | hd
      · exact h.2 d hd
      · obtain rfl := List.mem_singleton.1 hd
        have h1 := chain_len (b := b) (size := 8) (val := valD b big) (big := big) (rdD b big a).m.toNat p []
        have h2 := rdD_ok (big := big) hB a
        simp only [List.length_nil] at h1
        show (chainG b 8 (valD b big) (updD b big) (rdD b big a).m.toNat p []).1.length ≤ _
        omega) (b.length + 1) 0 [] ⟨by simp, fun d hd => by cases hd⟩
  exact ⟨Nat.le_trans (Nat.le_add_right _ j) h1, h2⟩
theorem needsG_bd (hB : B b) : (needsG b big).1.length ≤ b.length + 1 ∧ ∀ x ∈ (needsG b big).1, x.2.1.length ≤ 65535 := by
  obtain ⟨j, h1, h2⟩ := all_inv (b := b) (size := 16) (rd := rdN b big) (updR := updRN b big) (inn := innN b big) (fun k x => x.length + k ≤ b.length + 1 ∧ ∀ d ∈ x, d.2.1.length ≤ 65535) (fun k x a p h => by
    refine ⟨?_, fun d hd => ?_⟩
    · show (x ++ [_]).length + k ≤ _
      rw [List.length_append]
      have := h.1
      simp only [List.length_cons, List.length_nil]
      omega
    · rcases List.mem_append.1 (show d ∈ x ++ [_] from hd) with hd | hd
      · exact h.2 d hd
      · obtain rfl := List.mem_singleton.1 hd
        have h1 := chain_lenN (b := b) (size := 16) (val := valN b big) (big := big) (rdN b big a).m.toNat p []
        have h2 := rdN_ok (big := big) hB a
        simp only [List.length_nil] at h1
        show (chainG b 16 (valN b big) (updN b big) (rdN b big a).m.toNat p []).1.length ≤ _
        omega) (b.length + 1) 0 [] ⟨by simp, fun d hd => by cases hd⟩
  exact ⟨Nat.le_trans (Nat.le_add_right _ j) h1, h2⟩
theorem vdefsM_spec (hB : Am (B b)) (hm : Om (b.length ≤ 100000)) (hk : K (.tup [.sl dDef (okL b (defsG b big)), erV b (defsG b big)]) []) : PCalls Try.prog 13 [.sl (.int .u8) b, .bool big] [] K :=
  vdefs_spec hB hm (fun h => by simpa only [okL, erV, if_pos h] using hk) (fun h h1 => by simpa only [okL, erV, if_neg h, h1] using hk) (fun h p c h1 => by simpa only [okL, erV, if_neg h, h1] using hk)
theorem vneedsM_spec (hB : Am (B b)) (hm : Om (b.length ≤ 100000)) (hk : K (.tup [.sl dNeed (okL b (needsG b big)), erV b (needsG b big)]) []) : PCalls Try.prog 17 [.sl (.int .u8) b, .bool big] [] K :=
  vneeds_spec hB hm (fun h => by simpa only [okL, erV, if_pos h] using hk) (fun h h1 => by simpa only [okL, erV, if_neg h, h1] using hk) (fun h p c h1 => by simpa only [okL, erV, if_neg h, h1] using hk)
theorem rdefsM_spec (hB : Am (B b)) (hm : Om (b.length ≤ 100000)) (hk : K (.tup [refV dDef b (defsG b big), .int .i64 (erC b (defsG b big)), .int .i64 (erP b (defsG b big))]) []) : PCalls Try.prog 14 [.sl (.int .u8) b, .bool big] [] K :=
  rdefs_spec (N := b.length + 1) hB hm ⟨Nat.lt_succ_self _⟩ (fun h => by simpa only [refV, erC, erP, if_pos h] using hk) (fun h (h1 : (defsG b big).2 = none) => by simpa only [refV, erC, erP, if_neg h, h1] using hk) (fun h p c (h1 : (defsG b big).2 = some (p, c)) => by simpa only [refV, erC, erP, if_neg h, h1] using hk)
theorem rneedsM_spec (hB : Am (B b)) (hm : Om (b.length ≤ 100000)) (hk : K (.tup [refV dNeed b (needsG b big), .int .i64 (erC b (needsG b big)), .int .i64 (erP b (needsG b big))]) []) : PCalls Try.prog 18 [.sl (.int .u8) b, .bool big] [] K :=
  rneeds_spec (N := b.length + 1) hB hm ⟨Nat.lt_succ_self _⟩ (fun h => by simpa only [refV, erC, erP, if_pos h] using hk) (fun h (h1 : (needsG b big).2 = none) => by simpa only [refV, erC, erP, if_neg h, h1] using hk) (fun h p c (h1 : (needsG b big).2 = some (p, c)) => by simpa only [refV, erC, erP, if_neg h, h1] using hk)
theorem sdefsM_spec (hB : Am (B b)) (hm : Om (b.length ≤ 100000)) (hk : K (.bool true) []) : PCalls Try.prog 16 [.sl dDef (okL b (defsG b big)), refV dDef b (defsG b big)] [] K := by
  by_cases h : b.length = 0
  · simp only [okL, refV, if_pos h]
    exact sdefs_spec ⟨by decide⟩ (fun x hx => by cases hx) hk
  · cases h1 : (defsG b big).2 with
    | none =>
      simp only [okL, refV, if_neg h, h1]
      have hb := defsG_bd (big := big) hB.o
      have hm := hm.o
      exact sdefs_spec ⟨by omega⟩ (fun x hx => Nat.le_trans (hb.2 x hx) (by decide)) hk
    | some e =>
      simp only [okL, refV, if_neg h, h1]
      refine PCalls.wk (.c _ (.n dDef .z)) ?_
      exact sdefs_spec ⟨by decide⟩ (fun x hx => by cases hx) hk
theorem sneedsM_spec (hB : Am (B b)) (hm : Om (b.length ≤ 100000)) (hk : K (.bool true) []) : PCalls Try.prog 19 [.sl dNeed (okL b (needsG b big)), refV dNeed b (needsG b big)] [] K := by
  by_cases h : b.length = 0
  · simp only [okL, refV, if_pos h]
    exact sneeds_spec ⟨by decide⟩ (fun x hx => by cases hx) hk
  · cases h1 : (needsG b big).2 with
    | none =>
      simp only [okL, refV, if_neg h, h1]
      have hb := needsG_bd (big := big) hB.o
      have hm := hm.o
      exact sneeds_spec ⟨by omega⟩ (fun x hx => Nat.le_trans (hb.2 x hx) (by decide)) hk
    | some e =>
      simp only [okL, refV, if_neg h, h1]
      refine PCalls.wk (.c _ (.n dNeed .z)) ?_
      exact sneeds_spec ⟨by decide⟩ (fun x hx => by cases hx) hk
theorem vcases (d : Ab.D) (b : List Int) (r : List d.T × Option (Int × Int)) : (erV b r = .nilI ∧ refV d b r = .sl d (okL b r) ∧ erC b r = 0 ∧ erP b r = 0) ∨ ∃ p c, erV b r = eSpot p c ∧ refV d b r = .nilS ∧ erC b r = c ∧ erP b r = p := by
  by_cases h : b.length = 0
  · left; simp only [erV, refV, okL, erC, erP, if_pos h, and_self]
  · cases h1 : r.2 with
    | none => left; simp only [erV, refV, okL, erC, erP, if_neg h, h1, and_self]
    | some e => right; exact ⟨e.1, e.2, by simp only [erV, refV, okL, erC, erP, if_neg h, h1, and_self]⟩
theorem vdefsE_spec {G : PV} (hB : Am (B b)) (hm : Om (b.length ≤ 100000)) (hG : Am (erV b (defsG b big) = G)) (hk : K (.tup [.sl dDef (okL b (defsG b big)), G]) []) : PCalls Try.prog 13 [.sl (.int .u8) b, .bool big] [] K :=
  vdefsM_spec hB hm (by rw [hG.o]; exact hk)
theorem vneedsE_spec {G : PV} (hB : Am (B b)) (hm : Om (b.length ≤ 100000)) (hG : Am (erV b (needsG b big) = G)) (hk : K (.tup [.sl dNeed (okL b (needsG b big)), G]) []) : PCalls Try.prog 17 [.sl (.int .u8) b, .bool big] [] K :=
  vneedsM_spec hB hm (by rw [hG.o]; exact hk)
theorem rdefsE_spec {G : PV} {c p : Int} (hB : Am (B b)) (hm : Om (b.length ≤ 100000)) (hG : Am (refV dDef b (defsG b big) = G)) (hc : Am (erC b (defsG b big) = c)) (hp : Am (erP b (defsG b big) = p)) (hk : K (.tup [G, .int .i64 c, .int .i64 p]) []) : PCalls Try.prog 14 [.sl (.int .u8) b, .bool big] [] K :=
  rdefsM_spec hB hm (by rw [hG.o, hc.o, hp.o]; exact hk)
theorem rneedsE_spec {G : PV} {c p : Int} (hB : Am (B b)) (hm : Om (b.length ≤ 100000)) (hG : Am (refV dNeed b (needsG b big) = G)) (hc : Am (erC b (needsG b big) = c)) (hp : Am (erP b (needsG b big) = p)) (hk : K (.tup [G, .int .i64 c, .int .i64 p]) []) : PCalls Try.prog 18 [.sl (.int .u8) b, .bool big] [] K :=
  rneedsM_spec hB hm (by rw [hG.o, hc.o, hp.o]; exact hk)
theorem sdefsE_spec {G : PV} (hB : Am (B b)) (hm : Om (b.length ≤ 100000)) (hG : Am (refV dDef b (defsG b big) = G)) (hk : K (.bool true) []) : PCalls Try.prog 16 [.sl dDef (okL b (defsG b big)), G] [] K := by
  rw [← hG.o]
  exact sdefsM_spec hB hm hk
theorem sneedsE_spec {G : PV} (hB : Am (B b)) (hm : Om (b.length ≤ 100000)) (hG : Am (refV dNeed b (needsG b big) = G)) (hk : K (.bool true) []) : PCalls Try.prog 19 [.sl dNeed (okL b (needsG b big)), G] [] K := by
  rw [← hG.o]
  exact sneedsM_spec hB hm hk
theorem vputDefs_ok {l : List dDef.T} (h : Am (defsOk l = true)) (hl : Om (l.length ≤ 40)) (hN : Am (DefsN l)) (hk : K (.tup [.osl 0 (defsB big l).length, .nilI]) [.arr (.int .u8) (defsB big l)]) : PCalls Try.prog 8 [.sl dDef l, .bool big] [] K :=
  vputDefs_spec hl hN (fun _ => hk) (fun no => by rw [h.o] at no; cases no)
theorem vputDefs_no {l : List dDef.T} (h : Am (defsOk l = false)) (hl : Om (l.length ≤ 40)) (hN : Am (DefsN l)) (hk : K (.tup [.nilS, eCode 1]) []) : PCalls Try.prog 8 [.sl dDef l, .bool big] [] K :=
  vputDefs_spec hl hN (fun no => by rw [h.o] at no; cases no) (fun _ => hk)
theorem vputNeeds_ok {l : List dNeed.T} (h : Am (needsOk l = true)) (hl : Om (l.length ≤ 40)) (hN : Am (NeedsN l)) (hk : K (.tup [.osl 0 (needsB big l).length, .nilI]) [.arr (.int .u8) (needsB big l)]) : PCalls Try.prog 10 [.sl dNeed l, .bool big] [] K :=
  vputNeeds_spec hl hN (fun _ => hk) (fun no => by rw [h.o] at no; cases no)
theorem vputNeeds_no {l : List dNeed.T} (h : Am (needsOk l = false)) (hl : Om (l.length ≤ 40)) (hN : Am (NeedsN l)) (hk : K (.tup [.nilS, eCode 1]) []) : PCalls Try.prog 10 [.sl dNeed l, .bool big] [] K :=
  vputNeeds_spec hl hN (fun no => by rw [h.o] at no; cases no) (fun _ => hk)
theorem rputDefs_ok {l : List dDef.T} (h : Am (defsOk l = true)) (hl : Om (l.length ≤ 40)) (hN : Am (DefsN l)) (hk : K (.tup [.osl 0 (defsB big l).length, .bool true]) [.arr (.int .u8) (defsB big l)]) : PCalls Try.prog 9 [.sl dDef l, .bool big] [] K :=
  rputDefs_spec hl hN (fun _ => hk) (fun no => by rw [h.o] at no; cases no)
theorem rputDefs_no {l : List dDef.T} (h : Am (defsOk l = false)) (hl : Om (l.length ≤ 40)) (hN : Am (DefsN l)) (hk : K (.tup [.nilS, .bool false]) []) : PCalls Try.prog 9 [.sl dDef l, .bool big] [] K :=
  rputDefs_spec hl hN (fun no => by rw [h.o] at no; cases no) (fun _ => hk)
theorem rputNeeds_ok {l : List dNeed.T} (h : Am (needsOk l = true)) (hl : Om (l.length ≤ 40)) (hN : Am (NeedsN l)) (hk : K (.tup [.osl 0 (needsB big l).length, .bool true]) [.arr (.int .u8) (needsB big l)]) : PCalls Try.prog 11 [.sl dNeed l, .bool big] [] K :=
  rputNeeds_spec hl hN (fun _ => hk) (fun no => by rw [h.o] at no; cases no)
theorem rputNeeds_no {l : List dNeed.T} (h : Am (needsOk l = false)) (hl : Om (l.length ≤ 40)) (hN : Am (NeedsN l)) (hk : K (.tup [.nilS, .bool false]) []) : PCalls Try.prog 11 [.sl dNeed l, .bool big] [] K :=
  rputNeeds_spec hl hN (fun no => by rw [h.o] at no; cases no) (fun _ => hk)
end
end Go.Proofs.Ytoieblaagkbncaa.PvW

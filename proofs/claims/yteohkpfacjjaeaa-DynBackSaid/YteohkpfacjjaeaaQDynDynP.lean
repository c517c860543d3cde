/- Plain lemmas on what the code of layer 10 and the document's answers tell. -/
import Derived.Test.YteohkpfacjjaeaaRDynx6
import Derived.Test.YteohkpfacjjaeaaRDynx8
import Derived.Test.YteohkpfacjjaeaaRDynx9
import Derived.Test.YteohkpfacjjaeaaQDynRowQ
namespace Go.Proofs.Yteohkpfacjjaeaa.QDynDynP
open Go.RowKit Go.Proofs.YteohkpfacjjaeaaW.PrintWords Go.Proofs.YteohkpfacjjaeaaW.PrintLast Go.Proofs.YteohkpfacjjaeaaW.PrintMore Go.Proofs.Yteohkpfacjjaeaa.QDyn Go.Proofs.Yteohkpfacjjaeaa.Num Go.Proofs.Yteohkpfacjjaeaa.QDynWire Go.Proofs.Yteohkpfacjjaeaa.QDynRow
set_option linter.unusedVariables false
set_option linter.unusedSimpArgs false
abbrev D := S73
def wd (wide : Bool) : Nat := if wide = true then 8 else 4
theorem wd_cases (wide : Bool) : wd wide = 4 ∨ wd wide = 8 := by cases wide <;> simp [wd]
theorem wideB_wd (wide : Bool) : wideB (wd wide : Int) = true := by cases wide <;> decide
theorem word_f (wide big : Bool) : dyn_word.f wide big = some ((wd wide : Nat) : Int) := by cases wide <;> rfl
theorem wordR_f (wide big : Bool) : bezantref04_Word.f wide big = some ((wd wide : Nat) : Int) := by cases wide <;> rfl
def fitD (w : Nat) (x : D) : Bool := decide (x.f0 < 256 ^ w) && decide (x.f1 < 256 ^ w)
def one (w : Nat) (big : Bool) (x : D) : List Int := enc w big x.f0 ++ enc w big x.f1
def flat (w : Nat) (big : Bool) (l : List D) : List Int := l.flatMap (one w big)
def okD (x : D) : Prop := U64 x.f0 ∧ U64 x.f1
theorem one_length (w : Nat) (big : Bool) (x : D) : (one w big x).length = 2 * w := by
  unfold one
  rw [List.length_append, enc_length, enc_length]
  omega
theorem flat_length (w : Nat) (big : Bool) (l : List D) : (flat w big l).length = l.length * (2 * w) := by
  unfold flat
  induction l with
  | nil => simp
  | cons x l ih =>
    rw [List.flatMap_cons, List.length_append, ih, one_length, List.length_cons, Nat.add_mul, Nat.one_mul]
    omega
theorem rdT {l : List D} {i : Nat} (h : i < l.length) : rd_T73 l (i : Int) = l[i] := by
  show l.getD i _ = _
  simp [List.getD, h]
theorem take1 {α : Type} {l : List α} {i : Nat} (h : i < l.length) : l.take (i + 1) = l.take i ++ [l[i]] := by
  rw [List.take_add_one, List.getElem?_eq_getElem h]
  rfl
theorem take_succ_flat (w : Nat) (big : Bool) {l : List D} {i : Nat} (h : i < l.length) : flat w big (l.take (i + 1)) = (flat w big (l.take i) ++ enc w big (l[i]).f0) ++ enc w big (l[i]).f1 := by
  rw [take1 h]
  unfold flat
  rw [List.flatMap_append]
  simp [one]
theorem fits_w {v : Int} (hv : U64 v) (wide : Bool) : wire_Fits.f v ((wd wide : Nat) : Int) = some (decide (v < 256 ^ wd wide)) := by
  rw [fits_f hv]
  unfold fitsB
  rw [wideB_wd, Bool.true_and, Int.toNat_natCast]
theorem put_w (v : Int) (wide big : Bool) : Ev (fun k => wire_Put.f k v ((wd wide : Nat) : Int) big) (enc (wd wide) big v) := by
  have h := put_ev v ((wd wide : Nat) : Int) big
  unfold putSpec at h
  rw [if_pos (wideB_wd wide), Int.toNat_natCast] at h
  exact h
theorem w64n {n : Nat} (h : n < 9223372036854775807) : wrap64 ((n : Int) + 1) = ((n + 1 : Nat) : Int) := w64i h
/-- what is put: the bytes, or that it may not be -/
def putD (w : Nat) (big : Bool) (l : List D) : List Int × Bool × Bool × Int × List S102 := if l.all (fitD w) = true then (flat w big l, false, false, 0, []) else ([], true, false, 1, [])
theorem put_l0 {l : List D} (hl : ∀ x ∈ l, okD x) (hn : l.length ≤ 1000) (wide big : Bool) (d : Nat) : ∀ i, i ≤ l.length → l.length - i = d → (l.take i).all (fitD (wd wide)) = true →
    Ev (fun k => dyn_Put.l0 k ((wd wide : Nat) : Int) (flat (wd wide) big (l.take i)) l (l.length : Int) (i : Int) wide big) (putD (wd wide) big l) := by
  induction d with
  | zero =>
    intro i h0 h1 hp
    obtain rfl : i = l.length := by omega
    refine Ev.step (f := fun _ => some (putD (wd wide) big l)) (fun k => ?_) (Ev.now _)
    rw [dyn_Put.l0, if_neg (by omega)]
    rw [List.take_length] at hp ⊢
    unfold putD
    rw [if_pos hp]
  | succ d ih =>
    intro i h0 h1 hp
    have hi : i < l.length := by omega
    have hx := hl l[i] (List.getElem_mem hi)
    refine Ev.step (f := fun k => dyn_Put.j1 k ((wd wide : Nat) : Int) (flat (wd wide) big (l.take i)) l (l.length : Int) (i : Int) (!(fitD (wd wide) l[i])) wide big l[i].f0 l[i].f1) (fun k => ?_) ?_
    · rw [dyn_Put.l0, if_pos (by omega), if_pos (by omega), if_pos (by omega), rdT hi, fits_w hx.1, Option.bind_some]
      unfold fitD
      by_cases c : l[i].f0 < 256 ^ wd wide
      · rw [decide_eq_true c, if_pos rfl, fits_w hx.2, Option.bind_some, Bool.true_and]
      · rw [decide_eq_false c, if_neg (by simp), Bool.false_and]
        rfl
    · by_cases c : fitD (wd wide) l[i] = true
      · refine Ev.step (f := fun k => (wire_Put.f k l[i].f0 ((wd wide : Nat) : Int) big).bind fun t => (wire_Put.f k l[i].f1 ((wd wide : Nat) : Int) big).bind fun t2 => if (flat (wd wide) big (l.take i)).length + t.length < 140737488355328 then (if ((flat (wd wide) big (l.take i)) ++ t).length + t2.length < 140737488355328 then dyn_Put.l0 k ((wd wide : Nat) : Int) (((flat (wd wide) big (l.take i)) ++ t) ++ t2) l (l.length : Int) (wrap64 ((i : Int) + 1)) wide big else none) else none) (fun k => ?_) ?_
        · rw [dyn_Put.j1, c, if_neg (by simp)]
          cases wire_Put.f k l[i].f0 ((wd wide : Nat) : Int) big with
          | none => rfl
          | some t =>
            simp only [Option.bind_some]
            by_cases c2 : (flat (wd wide) big (l.take i)).length + t.length < 140737488355328
            · simp only [if_pos c2]
            · simp only [if_neg c2]
              cases wire_Put.f k l[i].f1 ((wd wide : Nat) : Int) big <;> rfl
        · refine Ev.bind (put_w _ wide big) ?_
          refine Ev.bind (put_w _ wide big) ?_
          have hw := wd_cases wide
          have hfl := flat_length (wd wide) big (l.take i)
          have htl : (l.take i).length = i := by rw [List.length_take]; omega
          have hm : i * (2 * wd wide) ≤ 1000 * 16 := Nat.mul_le_mul (by omega) (by omega)
          rw [htl] at hfl
          have e1 : (flat (wd wide) big (l.take i)).length + (enc (wd wide) big l[i].f0).length < 140737488355328 := by rw [enc_length]; omega
          have e2 : ((flat (wd wide) big (l.take i)) ++ enc (wd wide) big l[i].f0).length + (enc (wd wide) big l[i].f1).length < 140737488355328 := by rw [List.length_append, enc_length, enc_length]; omega
          simp only [if_pos e1, if_pos e2]
          rw [w64n (by omega), ← take_succ_flat (wd wide) big hi]
          refine ih (i + 1) (by omega) (by omega) ?_
          rw [take1 hi, List.all_append, hp]
          simp [c]
      · refine Ev.step (f := fun _ => some (putD (wd wide) big l)) (fun k => ?_) (Ev.now _)
        rw [dyn_Put.j1, if_pos (by simp [c])]
        unfold putD
        rw [if_neg]
        intro h
        exact c (List.all_eq_true.1 h _ (List.getElem_mem hi))
theorem put_d {l : List D} (hl : ∀ x ∈ l, okD x) (hn : l.length ≤ 1000) (wide big : Bool) : Ev (fun k => dyn_Put.f k l wide big) (putD (wd wide) big l) := by
  have h := put_l0 hl hn wide big l.length 0 (by omega) (by omega) (by simp)
  unfold dyn_Put.f
  rw [word_f]
  simp only [Option.bind_some]
  exact h
/-- what the document's answer tells of what is put -/
def putR (w : Nat) (big : Bool) (l : List D) : List Int × Bool := if l.all (fitD w) = true then (flat w big l, true) else ([], false)
theorem putSpec_w (v : Int) (wide big : Bool) : putSpec v ((wd wide : Nat) : Int) big = enc (wd wide) big v := by
  unfold putSpec
  rw [if_pos (wideB_wd wide), Int.toNat_natCast]
theorem fitsB_w (v : Int) (wide : Bool) : fitsB v ((wd wide : Nat) : Int) = decide (v < 256 ^ wd wide) := by
  unfold fitsB
  rw [wideB_wd, Bool.true_and, Int.toNat_natCast]
theorem row2 {x : D} (hx : okD x) (wide big : Bool) : Ev (fun k => bezantref04_Row.f k [x.f0, x.f1] [((wd wide : Nat) : Int), ((wd wide : Nat) : Int)] big) (one (wd wide) big x, fitD (wd wide) x) := by
  have hw := wd_cases wide
  have h := row_ev (l := [x.f0, x.f1]) (ns := [((wd wide : Nat) : Int), ((wd wide : Nat) : Int)]) (by intro y hy; simp at hy; rcases hy with rfl | rfl; exact hx.1; exact hx.2) (by simp) (by simp) (by intro y hy; simp at hy; omega) big
  have e1 : rowB [x.f0, x.f1] [((wd wide : Nat) : Int), ((wd wide : Nat) : Int)] big 2 = one (wd wide) big x := by
    show putSpec x.f0 ((wd wide : Nat) : Int) big ++ (putSpec x.f1 ((wd wide : Nat) : Int) big ++ []) = _
    rw [putSpec_w, putSpec_w, List.append_nil]
    rfl
  have e2 : rowOk [x.f0, x.f1] [((wd wide : Nat) : Int), ((wd wide : Nat) : Int)] 2 = fitD (wd wide) x := by
    show (fitsB x.f0 ((wd wide : Nat) : Int) && (fitsB x.f1 ((wd wide : Nat) : Int) && true)) = _
    rw [fitsB_w, fitsB_w, Bool.and_true]
    rfl
  have e : (rowB [x.f0, x.f1] [((wd wide : Nat) : Int), ((wd wide : Nat) : Int)] big [x.f0, x.f1].length, rowOk [x.f0, x.f1] [((wd wide : Nat) : Int), ((wd wide : Nat) : Int)] [x.f0, x.f1].length) = (one (wd wide) big x, fitD (wd wide) x) := by
    rw [← e1, ← e2]
    rfl
  rw [e] at h
  exact h
theorem putR_l0 {l : List D} (hl : ∀ x ∈ l, okD x) (hn : l.length ≤ 1000) (wide big : Bool) (d : Nat) : ∀ i, i ≤ l.length → l.length - i = d → (l.take i).all (fitD (wd wide)) = true →
    Ev (fun k => bezantref04_PutDyns.l0 k l (flat (wd wide) big (l.take i)) ((wd wide : Nat) : Int) (i : Int) wide big) (putR (wd wide) big l) := by
  induction d with
  | zero =>
    intro i h0 h1 hp
    obtain rfl : i = l.length := by omega
    refine Ev.step (f := fun _ => some (putR (wd wide) big l)) (fun k => ?_) (Ev.now _)
    rw [bezantref04_PutDyns.l0, if_neg (by omega)]
    rw [List.take_length] at hp ⊢
    unfold putR
    rw [if_pos hp]
  | succ d ih =>
    intro i h0 h1 hp
    have hi : i < l.length := by omega
    have hx := hl l[i] (List.getElem_mem hi)
    refine Ev.step (f := fun k => (bezantref04_Row.f k [l[i].f0, l[i].f1] [((wd wide : Nat) : Int), ((wd wide : Nat) : Int)] big).bind fun t => if t.2 = true then (if (flat (wd wide) big (l.take i)).length + t.1.length < 140737488355328 then bezantref04_PutDyns.l0 k l (flat (wd wide) big (l.take i) ++ t.1) ((wd wide : Nat) : Int) (wrap64 ((i : Int) + 1)) wide big else none) else some ([], false)) (fun k => ?_) ?_
    · rw [bezantref04_PutDyns.l0, if_pos (by omega), if_pos (by omega), rdT hi]
    · refine Ev.bind (row2 hx wide big) ?_
      by_cases c : fitD (wd wide) l[i] = true
      · have hw := wd_cases wide
        have hfl := flat_length (wd wide) big (l.take i)
        have htl : (l.take i).length = i := by rw [List.length_take]; omega
        have hm : i * (2 * wd wide) ≤ 1000 * 16 := Nat.mul_le_mul (by omega) (by omega)
        rw [htl] at hfl
        have e1 : (flat (wd wide) big (l.take i)).length + (one (wd wide) big l[i]).length < 140737488355328 := by rw [one_length]; omega
        simp only [if_pos c, if_pos e1]
        have e2 : flat (wd wide) big (l.take i) ++ one (wd wide) big l[i] = flat (wd wide) big (l.take (i + 1)) := by
          rw [take_succ_flat (wd wide) big hi, List.append_assoc]
          rfl
        rw [w64n (by omega), e2]
        refine ih (i + 1) (by omega) (by omega) ?_
        rw [take1 hi, List.all_append, hp]
        simp [c]
      · simp only [if_neg c]
        have e : putR (wd wide) big l = ([], false) := by
          unfold putR
          rw [if_neg]
          intro h
          exact c (List.all_eq_true.1 h _ (List.getElem_mem hi))
        rw [e]
        exact Ev.now _
theorem putR_d {l : List D} (hl : ∀ x ∈ l, okD x) (hn : l.length ≤ 1000) (wide big : Bool) : Ev (fun k => bezantref04_PutDyns.f k l wide big) (putR (wd wide) big l) := by
  have h := putR_l0 hl hn wide big l.length 0 (by omega) (by omega) (by simp)
  unfold bezantref04_PutDyns.f
  rw [wordR_f]
  simp only [Option.bind_some]
  exact h
/-- the entries of bytes from a place on: those up to the first one of Tag 0; or where it isn't whole -/
def allD (b : List Int) (w : Nat) (big : Bool) : Nat → Nat → List D → List D × Option Nat
  | 0, a, _ => ([], some a)
  | d + 1, a, acc => if b.length < a + 2 * w then ([], some a) else if num big (seg b a w) = 0 then (acc, none) else allD b w big d (a + 2 * w) (acc ++ [⟨num big (seg b a w), num big (seg b (a + w) w)⟩])
def toldA (r : List D × Option Nat) : List D × Bool × Bool × Int × List S102 := match r.2 with | none => (r.1, false, false, 0, []) | some a => ([], true, true, 0, [⟨(a : Int), 2⟩])
def toldR (r : List D × Option Nat) : List D × Int := match r.2 with | none => (r.1, -1) | some a => ([], (a : Int))
theorem getSpec_in {b : List Int} {a w : Nat} (hw : wideB (w : Int) = true) (h : a + w ≤ b.length) (big : Bool) : getSpec b (a : Int) (w : Int) big = (num big (seg b a w), true) := by
  unfold getSpec
  rw [if_pos ⟨hw, by omega⟩, Int.toNat_natCast, Int.toNat_natCast]
  rfl
theorem getSpec_out {b : List Int} {a w : Nat} (h : ¬ a + w ≤ b.length) (big : Bool) : getSpec b (a : Int) (w : Int) big = (0, false) := by
  unfold getSpec
  rw [if_neg (fun c => h (by have := c.2; omega))]
theorem all_l0 {b : List Int} (hb : B b) (hm : b.length ≤ 1000000) (wide big : Bool) (d : Nat) : ∀ (a : Nat) (acc : List D), a ≤ b.length + 16 → b.length < a + d → acc.length * 8 ≤ a →
    Ev (fun k => dyn_All.l0 k b ((wd wide : Nat) : Int) acc (a : Int) wide big) (toldA (allD b (wd wide) big d a acc)) := by
  induction d with
  | zero =>
    intro a acc h0 h1 h2
    have hw := wd_cases wide
    refine Ev.step (f := fun k => (wire_Get.f k b (a : Int) (wrap64 ((wd wide : Nat) : Int)) big).bind fun t => (wire_Get.f k b (IntKind.u64.wrap ((a : Int) + ((wd wide : Nat) : Int))) (wrap64 ((wd wide : Nat) : Int)) big).bind fun t2 => if t2.2 = true then (if t.1 = 0 then some (acc, false, false, 0, []) else (if acc.length < 8796093022208 then dyn_All.l0 k b ((wd wide : Nat) : Int) (acc ++ [⟨t.1, t2.1⟩]) (IntKind.u64.wrap ((a : Int) + (IntKind.u64.wrap (2 * ((wd wide : Nat) : Int))))) wide big else none)) else some ([], true, true, 0, [⟨wrap64 (a : Int), 2⟩])) (fun k => ?_) ?_
    · rw [dyn_All.l0]
    · rw [w64 (x := ((wd wide : Nat) : Int)) (by omega) (by omega), uw (x := (a : Int) + ((wd wide : Nat) : Int)) (by omega) (by omega), w64 (x := (a : Int)) (by omega) (by omega)]
      refine Ev.bind (get_ev hb (by omega) (a := (a : Int)) ⟨by omega, by omega⟩ _ big) ?_
      rw [show (a : Int) + ((wd wide : Nat) : Int) = ((a + wd wide : Nat) : Int) by omega]
      refine Ev.bind (get_ev hb (by omega) (a := ((a + wd wide : Nat) : Int)) ⟨by omega, by omega⟩ _ big) ?_
      rw [getSpec_out (a := a + wd wide) (by omega)]
      simp only [Bool.false_eq_true, if_false]
      exact Ev.now _
  | succ d ih =>
    intro a acc h0 h1 h2
    have hw := wd_cases wide
    refine Ev.step (f := fun k => (wire_Get.f k b (a : Int) (wrap64 ((wd wide : Nat) : Int)) big).bind fun t => (wire_Get.f k b (IntKind.u64.wrap ((a : Int) + ((wd wide : Nat) : Int))) (wrap64 ((wd wide : Nat) : Int)) big).bind fun t2 => if t2.2 = true then (if t.1 = 0 then some (acc, false, false, 0, []) else (if acc.length < 8796093022208 then dyn_All.l0 k b ((wd wide : Nat) : Int) (acc ++ [⟨t.1, t2.1⟩]) (IntKind.u64.wrap ((a : Int) + (IntKind.u64.wrap (2 * ((wd wide : Nat) : Int))))) wide big else none)) else some ([], true, true, 0, [⟨wrap64 (a : Int), 2⟩])) (fun k => ?_) ?_
    · rw [dyn_All.l0]
    · rw [w64 (x := ((wd wide : Nat) : Int)) (by omega) (by omega), uw (x := (a : Int) + ((wd wide : Nat) : Int)) (by omega) (by omega), w64 (x := (a : Int)) (by omega) (by omega), uw (x := 2 * ((wd wide : Nat) : Int)) (by omega) (by omega), uw (x := (a : Int) + 2 * ((wd wide : Nat) : Int)) (by omega) (by omega)]
      refine Ev.bind (get_ev hb (by omega) (a := (a : Int)) ⟨by omega, by omega⟩ _ big) ?_
      rw [show (a : Int) + ((wd wide : Nat) : Int) = ((a + wd wide : Nat) : Int) by omega]
      refine Ev.bind (get_ev hb (by omega) (a := ((a + wd wide : Nat) : Int)) ⟨by omega, by omega⟩ _ big) ?_
      unfold allD
      by_cases c : b.length < a + 2 * wd wide
      · rw [getSpec_out (a := a + wd wide) (by omega), if_pos c]
        simp only [Bool.false_eq_true, if_false]
        exact Ev.now _
      · rw [getSpec_in (a := a + wd wide) (wideB_wd wide) (by omega), getSpec_in (wideB_wd wide) (by omega), if_neg c]
        simp only [if_true]
        by_cases z : num big (seg b a (wd wide)) = 0
        · simp only [if_pos z]
          exact Ev.now _
        · have e : acc.length < 8796093022208 := by omega
          simp only [if_neg z, if_pos e]
          rw [show (a : Int) + 2 * ((wd wide : Nat) : Int) = ((a + 2 * wd wide : Nat) : Int) by omega]
          exact ih (a + 2 * wd wide) _ (by omega) (by omega) (by rw [List.length_append, List.length_singleton]; omega)
theorem all_ev {b : List Int} (hb : B b) (hm : b.length ≤ 1000000) (wide big : Bool) : Ev (fun k => dyn_All.f k b wide big) (toldA (allD b (wd wide) big (b.length + 1) 0 [])) := by
  have hw := wd_cases wide
  unfold dyn_All.f
  rw [word_f]
  simp only [Option.bind_some]
  rw [uw (by omega) (by omega)]
  exact all_l0 hb hm wide big (b.length + 1) 0 [] (by omega) (by omega) (by simp)
theorem nums2 {b : List Int} (wide big : Bool) (a : Nat) : numsAt b big (a : Int) [] [((wd wide : Nat) : Int), ((wd wide : Nat) : Int)] = if b.length < a + 2 * wd wide then ([], false) else ([num big (seg b a (wd wide)), num big (seg b (a + wd wide) (wd wide))], true) := by
  have hw := wd_cases wide
  unfold numsAt
  by_cases c : b.length < a + 2 * wd wide
  · rw [if_pos c]
    by_cases c2 : a + wd wide ≤ b.length
    · rw [getSpec_in (wideB_wd wide) c2, if_pos rfl]
      unfold numsAt
      rw [show (a : Int) + ((wd wide : Nat) : Int) = ((a + wd wide : Nat) : Int) by omega, getSpec_out (a := a + wd wide) (by omega), if_neg (by simp)]
    · rw [getSpec_out c2, if_neg (by simp)]
  · rw [if_neg c, getSpec_in (wideB_wd wide) (by omega), if_pos rfl]
    unfold numsAt
    rw [show (a : Int) + ((wd wide : Nat) : Int) = ((a + wd wide : Nat) : Int) by omega, getSpec_in (a := a + wd wide) (wideB_wd wide) (by omega), if_pos rfl]
    rfl
theorem dyns_l0 {b : List Int} (hb : B b) (hm : b.length ≤ 1000000) (wide big : Bool) (d : Nat) : ∀ (a : Nat) (acc : List D), a ≤ b.length + 16 → b.length < a + d → acc.length * 8 ≤ a →
    Ev (fun k => bezantref04_Dyns.l0 k b ((wd wide : Nat) : Int) acc (a : Int) wide big) (toldR (allD b (wd wide) big d a acc)) := by
  induction d with
  | zero =>
    intro a acc h0 h1 h2
    have hw := wd_cases wide
    refine Ev.step (f := fun k => (bezantref04_Numbers.f k b (IntKind.u64.wrap (a : Int)) [((wd wide : Nat) : Int), ((wd wide : Nat) : Int)] big).bind fun t => if t.2 = true then (if 0 < (t.1.length : Int) then (if (rd t.1 0) = 0 then some (acc, (-1)) else (if 1 < (t.1.length : Int) then (if acc.length < 8796093022208 then bezantref04_Dyns.l0 k b ((wd wide : Nat) : Int) (acc ++ [⟨rd t.1 0, rd t.1 1⟩]) (wrap64 ((a : Int) + (wrap64 (2 * ((wd wide : Nat) : Int))))) wide big else none) else none)) else none) else some ([], (a : Int))) (fun k => ?_) ?_
    · rw [bezantref04_Dyns.l0]
    · rw [uw (x := (a : Int)) (by omega) (by omega)]
      refine Ev.bind (numsAt_ev hb (by omega) big (at_ := (a : Int)) ⟨by omega, by omega⟩ _ (by simp)) ?_
      rw [nums2, if_pos (by omega)]
      simp only [Bool.false_eq_true, if_false]
      exact Ev.now _
  | succ d ih =>
    intro a acc h0 h1 h2
    have hw := wd_cases wide
    refine Ev.step (f := fun k => (bezantref04_Numbers.f k b (IntKind.u64.wrap (a : Int)) [((wd wide : Nat) : Int), ((wd wide : Nat) : Int)] big).bind fun t => if t.2 = true then (if 0 < (t.1.length : Int) then (if (rd t.1 0) = 0 then some (acc, (-1)) else (if 1 < (t.1.length : Int) then (if acc.length < 8796093022208 then bezantref04_Dyns.l0 k b ((wd wide : Nat) : Int) (acc ++ [⟨rd t.1 0, rd t.1 1⟩]) (wrap64 ((a : Int) + (wrap64 (2 * ((wd wide : Nat) : Int))))) wide big else none) else none)) else none) else some ([], (a : Int))) (fun k => ?_) ?_
    · rw [bezantref04_Dyns.l0]
    · rw [uw (x := (a : Int)) (by omega) (by omega), w64 (x := 2 * ((wd wide : Nat) : Int)) (by omega) (by omega), w64 (x := (a : Int) + 2 * ((wd wide : Nat) : Int)) (by omega) (by omega)]
      refine Ev.bind (numsAt_ev hb (by omega) big (at_ := (a : Int)) ⟨by omega, by omega⟩ _ (by simp)) ?_
      rw [nums2]
      unfold allD
      by_cases c : b.length < a + 2 * wd wide
      · rw [if_pos c, if_pos c]
        simp only [Bool.false_eq_true, if_false]
        exact Ev.now _
      · rw [if_neg c, if_neg c]
        have r0 : rd [num big (seg b a (wd wide)), num big (seg b (a + wd wide) (wd wide))] 0 = num big (seg b a (wd wide)) := rfl
        have r1 : rd [num big (seg b a (wd wide)), num big (seg b (a + wd wide) (wd wide))] 1 = num big (seg b (a + wd wide) (wd wide)) := rfl
        have l0 : (0 : Int) < (([num big (seg b a (wd wide)), num big (seg b (a + wd wide) (wd wide))] : List Int).length : Int) := by simp
        have l1 : (1 : Int) < (([num big (seg b a (wd wide)), num big (seg b (a + wd wide) (wd wide))] : List Int).length : Int) := by simp
        simp only [if_true, r0, r1, if_pos l0, if_pos l1]
        by_cases z : num big (seg b a (wd wide)) = 0
        · simp only [if_pos z]
          exact Ev.now _
        · have e : acc.length < 8796093022208 := by omega
          simp only [if_neg z, if_pos e]
          rw [show (a : Int) + 2 * ((wd wide : Nat) : Int) = ((a + 2 * wd wide : Nat) : Int) by omega]
          exact ih (a + 2 * wd wide) _ (by omega) (by omega) (by rw [List.length_append, List.length_singleton]; omega)
theorem dyns_ev {b : List Int} (hb : B b) (hm : b.length ≤ 1000000) (wide big : Bool) : Ev (fun k => bezantref04_Dyns.f k b wide big) (toldR (allD b (wd wide) big (b.length + 1) 0 [])) := by
  unfold bezantref04_Dyns.f
  rw [wordR_f]
  simp only [Option.bind_some]
  exact dyns_l0 hb hm wide big (b.length + 1) 0 [] (by omega) (by omega) (by simp)
/-- the first entry of a Tag -/
def findD (t : Int) : List D → Int × Bool
  | [] => (0, false)
  | x :: l => if x.f0 = t then (x.f1, true) else findD t l
theorem drop1 {α : Type} {l : List α} {i : Nat} (h : i < l.length) : l.drop i = l[i] :: l.drop (i + 1) := List.drop_eq_getElem_cons h
theorem find_l0 (l : List D) (hn : l.length ≤ 1000000) (t : Int) (d : Nat) : ∀ i, i ≤ l.length → l.length - i = d → Ev (fun k => dyn_Find.l0 k t l (l.length : Int) (i : Int)) (findD t (l.drop i)) := by
  induction d with
  | zero =>
    intro i h0 h1
    obtain rfl : i = l.length := by omega
    refine Ev.step (f := fun _ => some (0, false)) (fun k => ?_) ?_
    · rw [dyn_Find.l0, if_neg (by omega)]
    · rw [List.drop_length]
      exact Ev.now _
  | succ d ih =>
    intro i h0 h1
    have hi : i < l.length := by omega
    refine Ev.step (f := fun k => if l[i].f0 = t then some (l[i].f1, true) else dyn_Find.l0 k t l (l.length : Int) ((i + 1 : Nat) : Int)) (fun k => ?_) ?_
    · rw [dyn_Find.l0, if_pos (by omega), if_pos (by omega), if_pos (by omega), rdT hi, w64n (by omega)]
    · rw [drop1 hi]
      unfold findD
      by_cases c : l[i].f0 = t
      · simp only [if_pos c]
        exact Ev.now _
      · simp only [if_neg c]
        exact ih (i + 1) (by omega) (by omega)
theorem find_ev (l : List D) (hn : l.length ≤ 1000000) (t : Int) : Ev (fun k => dyn_Find.f k l t) (findD t l) := find_l0 l hn t l.length 0 (by omega) (by omega)
theorem findR_l0 (l : List D) (hn : l.length ≤ 1000000) (t : Int) (d : Nat) : ∀ i, i ≤ l.length → l.length - i = d → Ev (fun k => bezantref04_Find.l0 k l t (i : Int)) (findD t (l.drop i)) := by
  induction d with
  | zero =>
    intro i h0 h1
    obtain rfl : i = l.length := by omega
    refine Ev.step (f := fun _ => some (0, false)) (fun k => ?_) ?_
    · rw [bezantref04_Find.l0, if_neg (by omega)]
    · rw [List.drop_length]
      exact Ev.now _
  | succ d ih =>
    intro i h0 h1
    have hi : i < l.length := by omega
    refine Ev.step (f := fun k => if l[i].f0 = t then some (l[i].f1, true) else bezantref04_Find.l0 k l t ((i + 1 : Nat) : Int)) (fun k => ?_) ?_
    · rw [bezantref04_Find.l0, if_pos (by omega), if_pos (by omega), rdT hi, w64n (by omega)]
    · rw [drop1 hi]
      unfold findD
      by_cases c : l[i].f0 = t
      · simp only [if_pos c]
        exact Ev.now _
      · simp only [if_neg c]
        exact ih (i + 1) (by omega) (by omega)
theorem findR_ev (l : List D) (hn : l.length ≤ 1000000) (t : Int) : Ev (fun k => bezantref04_Find.f k l t) (findD t l) := findR_l0 l hn t l.length 0 (by omega) (by omega)
theorem same_l0 (l : List D) (hn : l.length ≤ 100000000000000) (d : Nat) : ∀ i, i ≤ l.length → l.length - i = d → Ev (fun k => bezantlaw10_same.l0 k l l (i : Int)) 1 := by
  induction d with
  | zero =>
    intro i h0 h1
    refine Ev.step (f := fun _ => some 1) (fun k => ?_) (Ev.now _)
    rw [bezantlaw10_same.l0, if_neg (by omega)]
  | succ d ih =>
    intro i h0 h1
    refine Ev.step (f := fun k => bezantlaw10_same.l0 k l l ((i + 1 : Nat) : Int)) (fun k => ?_) (ih (i + 1) (by omega) (by omega))
    rw [bezantlaw10_same.l0, if_pos (by omega), if_pos (by omega), if_pos (by omega), if_neg (by simp), w64n (by omega)]
theorem same_ev (l : List D) (hn : l.length ≤ 100000000000000) : Ev (fun k => bezantlaw10_same.f k l l) 1 := by
  unfold bezantlaw10_same.f
  simp only [if_true]
  exact same_l0 l hn l.length 0 (by omega) (by omega)
end Go.Proofs.Yteohkpfacjjaeaa.QDynDynP

/- Plain lemmas on what the code of layer 3 and the document's answers tell, and the law IdentTells, told as a plain Lean function. -/
import Derived.Test.YteohkpfacjjaeaaRIdentx5
import Derived.IntWalk
import Derived.KernelRfl
namespace Go.Proofs.Yteohkpfacjjaeaa.IdentP
open Go.RowKit Go.Proofs.YteohkpfacjjaeaaW.PrintWords Go.Proofs.YteohkpfacjjaeaaW.PrintLast Go.Proofs.YteohkpfacjjaeaaW.PrintMore Go.Proofs.Yteohkpfacjjaeaa.QIdent
set_option linter.unusedVariables false
set_option linter.unusedSimpArgs false
/-- what is wrong with the i-th byte -/
def wrong (i : Nat) (c : Int) : Int := if i < 4 ∧ c ≠ ([127, 69, 76, 70] : List Int).getD i 0 then 3 else if (i = 4 ∨ i = 5) ∧ c ≠ 1 ∧ c ≠ 2 ∨ i = 6 ∧ c ≠ 1 then 4 else 0
def byte (l : List Int) (i : Nat) : Int := l.getD i 0
def bad (l : List Int) (i : Nat) : Option (Int × Int) := if l.length ≤ i then some ((i : Int), 2) else if wrong i (byte l i) = 0 then none else some ((i : Int), wrong i (byte l i))
/-- the first one of the bytes from i on that is wrong: where, and what -/
def scan (l : List Int) : Nat → Nat → Option (Int × Int)
  | 0, _ => none
  | d + 1, i => match bad l i with | some e => some e | none => scan l d (i + 1)
def idErr (l : List Int) : Option (Int × Int) := match scan l 7 0 with | some e => some e | none => if l.length < 16 then some ((l.length : Int), 2) else none
structure Idt where
  wide : Bool
  big : Bool
  os : Int
  abi : Int
def z : Idt := ⟨false, false, 0, 0⟩
def idOf (l : List Int) : Idt := match idErr l with | some _ => z | none => ⟨byte l 4 == 2, byte l 5 == 2, byte l 7, byte l 8⟩
theorem wrong_f (i : Nat) (c : Int) (hi : i < 7) : ident_wrong.f 10 (i : Int) c = some (wrong i c) := by
  have : i = 0 ∨ i = 1 ∨ i = 2 ∨ i = 3 ∨ i = 4 ∨ i = 5 ∨ i = 6 := by omega
  have b0 : bt ⟨#[127, 69, 76, 70]⟩ 0 = 127 := by decide
  have b1 : bt ⟨#[127, 69, 76, 70]⟩ 1 = 69 := by decide
  have b2 : bt ⟨#[127, 69, 76, 70]⟩ 2 = 76 := by decide
  have b3 : bt ⟨#[127, 69, 76, 70]⟩ 3 = 70 := by decide
  unfold ident_wrong.f wrong
  rcases this with rfl | rfl | rfl | rfl | rfl | rfl | rfl
  · by_cases h : c = 127 <;> simp [ident_wrong.j0, ident_wrong.j1, b0, b1, b2, b3, h]
  · by_cases h : c = 69 <;> simp [ident_wrong.j0, ident_wrong.j1, b0, b1, b2, b3, h]
  · by_cases h : c = 76 <;> simp [ident_wrong.j0, ident_wrong.j1, b0, b1, b2, b3, h]
  · by_cases h : c = 70 <;> simp [ident_wrong.j0, ident_wrong.j1, b0, b1, b2, b3, h]
  · by_cases h : c = 1 <;> by_cases h2 : c = 2 <;> simp [ident_wrong.j0, ident_wrong.j1, h, h2]
  · by_cases h : c = 1 <;> by_cases h2 : c = 2 <;> simp [ident_wrong.j0, ident_wrong.j1, h, h2]
  · by_cases h : c = 1 <;> simp [ident_wrong.j0, ident_wrong.j1, h]
def rest (l : List Int) (k : Nat) : Option (Int × Int) := match scan l (7 - k) k with | some e => some e | none => if l.length < 16 then some ((l.length : Int), 2) else none
theorem rest_short {l : List Int} {k : Nat} (hk : k < 7) (h : l.length ≤ k) : rest l k = some ((k : Int), 2) := by
  unfold rest
  rw [show 7 - k = (7 - (k + 1)) + 1 by omega]
  simp [scan, bad, h]
theorem rest_wrong {l : List Int} {k : Nat} (hk : k < 7) (h : ¬ l.length ≤ k) (hw : wrong k (byte l k) ≠ 0) : rest l k = some ((k : Int), wrong k (byte l k)) := by
  unfold rest
  rw [show 7 - k = (7 - (k + 1)) + 1 by omega]
  simp [scan, bad, h, hw]
theorem rest_next {l : List Int} {k : Nat} (hk : k < 7) (h : ¬ l.length ≤ k) (hw : wrong k (byte l k) = 0) : rest l k = rest l (k + 1) := by
  unfold rest
  rw [show 7 - k = (7 - (k + 1)) + 1 by omega]
  simp [scan, bad, h, hw]
theorem rest_end (l : List Int) : rest l 7 = if l.length < 16 then some ((l.length : Int), 2) else none := rfl
def two (b : Bool) : Int := if b = true then 2 else 1
def idBytes (x : Idt) : List Int := [127, 69, 76, 70, two x.wide, two x.big, 1, x.os, x.abi, 0, 0, 0, 0, 0, 0, 0]
theorem put_f (x : Idt) : ident_Put.f x.wide x.big x.os x.abi = some (idBytes x) := by
  obtain ⟨w, b, o, a⟩ := x
  cases w <;> cases b <;> kernel_rfl
theorem putR_f (x : Idt) : bezantref01_Ident.f x.wide x.big x.os x.abi = some (idBytes x) := by
  obtain ⟨w, b, o, a⟩ := x
  cases w <;> cases b <;> kernel_rfl
def codeOf (l : List Int) : Int := match idErr l with | some (_, c) => c | none => 0
def atOf (l : List Int) : Int := match idErr l with | some (a, _) => a | none => 0
def told (l : List Int) (r : Option (Int × Int)) : Bool × Bool × Int × Int × Int × Int := match r with | some (a, c) => (false, false, 0, 0, c, a) | none => (byte l 4 == 2, byte l 5 == 2, byte l 7, byte l 8, 0, 0)
theorem rd_byte (l : List Int) (i : Nat) : rd l (i : Int) = byte l i := rfl
def mg : List Int := [127, 69, 76, 70, 1, 1, 1, 0, 0, 0, 0, 0, 0, 0, 0, 0]
theorem w64s {k : Nat} (h : k < 7) : wrap64 ((k : Int) + 1) = ((k + 1 : Nat) : Int) := by
  rw [IntWalk.wrap64_in _ ⟨by omega, by omega⟩]
  omega
/-- is the i-th byte as it should be, as the document's answer asks -/
def fine (i : Nat) (c : Int) : Bool := decide (c = mg.getD i 0) || (decide (i = 4 ∨ i = 5) && (c == 2))
theorem fine_wrong (i : Nat) (hi : i < 7) (c : Int) : fine i c = decide (wrong i c = 0) ∧ (wrong i c ≠ 0 → wrong i c = if i < 4 then 3 else 4) := by
  have : i = 0 ∨ i = 1 ∨ i = 2 ∨ i = 3 ∨ i = 4 ∨ i = 5 ∨ i = 6 := by omega
  unfold fine wrong mg
  rcases this with rfl | rfl | rfl | rfl | rfl | rfl | rfl
  · by_cases h : c = 127 <;> simp [h]
  · by_cases h : c = 69 <;> simp [h]
  · by_cases h : c = 76 <;> simp [h]
  · by_cases h : c = 70 <;> simp [h]
  · by_cases h : c = 1 <;> by_cases h2 : c = 2 <;> simp [h, h2]
  · by_cases h : c = 1 <;> by_cases h2 : c = 2 <;> simp [h, h2]
  · by_cases h : c = 1 <;> simp [h]
theorem l0_ev (l : List Int) (d : Nat) : ∀ k, k ≤ 7 → 7 - k = d → Ev (fun n => bezantref01_GetIdent.l0 n l mg (k : Int)) (told l (rest l k)) := by
  induction d with
  | zero =>
    intro k h0 h1
    obtain rfl : k = 7 := by omega
    refine Ev.step (f := fun _ => some (told l (rest l 7))) (fun n => ?_) (Ev.now _)
    conv => lhs; unfold bezantref01_GetIdent.l0
    rw [if_neg (by omega), rest_end]
    by_cases h : l.length < 16
    · rw [if_pos (by omega), if_pos h]
      rfl
    · rw [if_neg (by omega), if_pos (by omega), if_pos (by omega), if_pos (by omega), if_pos (by omega), if_neg h]
      rfl
  | succ d ih =>
    intro k h0 h1
    have hk : k < 7 := by omega
    by_cases hlen : l.length ≤ k
    · refine Ev.step (f := fun _ => some (told l (rest l k))) (fun n => ?_) (Ev.now _)
      conv => lhs; unfold bezantref01_GetIdent.l0
      rw [if_pos (by omega), if_pos (by omega), rest_short hk hlen]
      rfl
    · have step : ∀ n, bezantref01_GetIdent.l0 (n + 1) l mg (k : Int) = bezantref01_GetIdent.j1 n l mg (k : Int) (fine k (byte l k)) := by
        intro n
        conv => lhs; unfold bezantref01_GetIdent.l0
        rw [if_pos (by omega), if_neg (by omega), if_pos (by omega), if_pos (by omega), if_pos (by unfold mg; simp only [List.length_cons, List.length_nil]; omega), rd_byte, rd_byte]
        unfold fine
        have e : byte mg k = mg.getD k 0 := rfl
        rw [e]
        by_cases c1 : byte l k = mg.getD k 0
        · rw [if_pos c1, decide_eq_true c1]
          rfl
        · rw [if_neg c1, decide_eq_false c1]
          by_cases c4 : k = 4
          · subst c4
            rw [if_pos (by omega)]
            rfl
          · rw [if_neg (by omega)]
            by_cases c5 : k = 5
            · subst c5
              rw [if_pos (by omega)]
              rfl
            · rw [if_neg (by omega)]
              simp [c4, c5]
      refine Ev.step step ?_
      obtain ⟨hf, hw⟩ := fine_wrong k hk (byte l k)
      by_cases h : wrong k (byte l k) = 0
      · rw [hf, decide_eq_true h, rest_next hk hlen h]
        refine Ev.step (fun n => ?_) (ih (k + 1) (by omega) (by omega))
        simp only [bezantref01_GetIdent.j1, if_true]
        rw [w64s hk]
      · rw [hf, decide_eq_false h, rest_wrong hk hlen h, hw h]
        refine Ev.step (f := fun _ => some (told l (some ((k : Int), if k < 4 then 3 else 4)))) (fun n => ?_) (Ev.now _)
        simp only [bezantref01_GetIdent.j1, Bool.false_eq_true, if_false]
        by_cases c : k < 4
        · rw [if_pos (by omega), if_pos c]
          rfl
        · rw [if_neg (by omega), if_neg c]
          rfl
theorem getR_ev (l : List Int) : Ev (fun n => bezantref01_GetIdent.f n l) ((idOf l).wide, (idOf l).big, (idOf l).os, (idOf l).abi, codeOf l, atOf l) := by
  have h0 := l0_ev l 7 0 (by omega) (by omega)
  have e : told l (rest l 0) = ((idOf l).wide, (idOf l).big, (idOf l).os, (idOf l).abi, codeOf l, atOf l) := by
    have : rest l 0 = idErr l := rfl
    rw [this]
    unfold told idOf codeOf atOf
    cases idErr l with
    | none => rfl
    | some x => rfl
  rw [e] at h0
  unfold bezantref01_GetIdent.f
  rw [show bezantref01_Ident.f false false 0 0 = some mg from putR_f ⟨false, false, 0, 0⟩]
  exact h0
theorem err_range (l : List Int) : idErr l = none ∨ ∃ a c, idErr l = some (a, c) := by
  cases h : idErr l with
  | none => exact .inl rfl
  | some x => exact .inr ⟨x.1, x.2, rfl⟩

/-- what ident.Get tells, as its print has it -/
def toldG (l : List Int) (r : Option (Int × Int)) : Bool × Bool × Int × Int × Bool × Bool × Int × List S102 := match r with | some (a, c) => (false, false, 0, 0, true, true, 0, [⟨a, c⟩]) | none => (byte l 4 == 2, byte l 5 == 2, byte l 7, byte l 8, false, false, 0, [])
theorem wrong_ev (i : Nat) (c : Int) (hi : i < 7) : Ev (fun n => ident_wrong.f n (i : Int) c) (wrong i c) := Ev.of (ident_wrong.mono _ _) (wrong_f i c hi)
theorem g0_ev (l : List Int) (d : Nat) : ∀ k, k ≤ 7 → 7 - k = d → Ev (fun n => ident_Get.l0 n l (k : Int)) (toldG l (rest l k)) := by
  induction d with
  | zero =>
    intro k h0 h1
    obtain rfl : k = 7 := by omega
    refine Ev.step (f := fun _ => some (toldG l (rest l 7))) (fun n => ?_) (Ev.now _)
    conv => lhs; unfold ident_Get.l0
    rw [if_neg (by omega), rest_end]
    by_cases h : l.length < 16
    · rw [if_pos (by omega), if_pos h]
      rfl
    · rw [if_neg (by omega), if_pos (by omega), if_pos (by omega), if_pos (by omega), if_pos (by omega), if_neg h]
      rfl
  | succ d ih =>
    intro k h0 h1
    have hk : k < 7 := by omega
    by_cases hlen : l.length ≤ k
    · refine Ev.step (f := fun _ => some (toldG l (rest l k))) (fun n => ?_) (Ev.now _)
      conv => lhs; unfold ident_Get.l0
      rw [if_pos (by omega), if_pos (by omega), rest_short hk hlen]
      rfl
    · have step : ∀ n, ident_Get.l0 (n + 1) l (k : Int) = (ident_wrong.f n (k : Int) (byte l k)).bind fun t => if t = 0 then ident_Get.l0 n l ((k + 1 : Nat) : Int) else some (toldG l (some ((k : Int), t))) := by
        intro n
        conv => lhs; unfold ident_Get.l0
        rw [if_pos (by omega), if_neg (by omega), if_pos (by omega), if_pos (by omega), rd_byte, w64s hk]
        rfl
      refine Ev.step step ?_
      refine Ev.bind (wrong_ev k (byte l k) hk) ?_
      by_cases h : wrong k (byte l k) = 0
      · simp only [if_pos h]
        rw [rest_next hk hlen h]
        exact ih (k + 1) (by omega) (by omega)
      · simp only [if_neg h]
        rw [rest_wrong hk hlen h]
        exact Ev.now _
theorem get_ev (l : List Int) : Ev (fun n => ident_Get.f n l) (toldG l (idErr l)) := g0_ev l 7 0 (by omega) (by omega)
theorem idOf_told (l : List Int) : (toldG l (idErr l)).1 = (idOf l).wide ∧ (toldG l (idErr l)).2.1 = (idOf l).big ∧ (toldG l (idErr l)).2.2.1 = (idOf l).os ∧ (toldG l (idErr l)).2.2.2.1 = (idOf l).abi := by
  unfold idOf
  cases idErr l <;> exact ⟨rfl, rfl, rfl, rfl⟩
theorem spot_told (l : List Int) : bezantlaw00_Spot.f (toldG l (idErr l)).2.2.2.2.1 (toldG l (idErr l)).2.2.2.2.2.1 (toldG l (idErr l)).2.2.2.2.2.2.1 (toldG l (idErr l)).2.2.2.2.2.2.2 = some (codeOf l, atOf l) := by
  unfold codeOf atOf
  cases idErr l <;> rfl
theorem up_ev : Ev (fun n => bezantlaw03_up.f n) true := Ev.of bezantlaw03_up.mono (k := 30) (by kernel_rfl)
theorem IdentTells' (x : Idt) (l : List Int) : ∃ k, bezantlaw03_IdentTells.f k x.wide x.big x.os x.abi l = some true := by
  refine Ev.rounds ?_
  unfold bezantlaw03_IdentTells.f
  refine Ev.bind up_ev ?_
  by_cases c : (l.length : Int) > 10000
  · simp only [if_pos c]
    exact Ev.now _
  · simp only [if_neg c, if_true]
    refine Ev.bind (get_ev l) ?_
    refine Ev.bind (getR_ev l) ?_
    rw [spot_told]
    obtain ⟨e1, e2, e3, e4⟩ := idOf_told l
    rw [e1, e2, e3, e4]
    simp only [Option.bind_some, put_f, putR_f, beq_self_eq_true, Bool.and_self, if_true]
    exact Ev.now _
end Go.Proofs.Yteohkpfacjjaeaa.IdentP

/- Which sections go. No statement of the set is proved in this text. -/
import Derived.Test.YtalhipbbomagoaaPvStrip
import Derived.Test.YtalhipbbomagoaaPvN
namespace Go.Proofs.Ytalhipbbomagoaa.PvW
open Go.RowKit Go.Proofs.Ytalhipbbomagoaa.Cd Go.Proofs.Ytalhipbbomagoaa.AbP Go.Proofs.Ytalhipbbomagoaa.Num Go.Proofs.Ytalhipbbomagoaa.Pv
set_option maxRecDepth 100000
set_option maxHeartbeats 4000000
set_option linter.unusedVariables false
set_option linter.unusedSimpArgs false
theorem nameS_size {secs : List dSec.T} (hN : SecsN secs) (st nm : Int) : (nameS secs st nm).size ≤ 1000000 := by
  unfold nameS
  split
  · exact Nat.zero_le _
  · split
    · exact Nat.zero_le _
    · rename_i s hs
      have h := (hN s (List.mem_of_getElem? hs)).ow
      split
      · refine Nat.le_trans ?_ h
        rw [show ∀ l : List Int, (sOf l).size = l.length from fun l => by unfold sOf; simp [ByteArray.size], List.length_take, List.length_drop]
        omega
      · exact Nat.zero_le _
def secE (secs : List dSec.T) (st : Int) (i : Nat) (s : dSec.T) : Bool := earlyB secs st i s.2.1 s.2.2.1 s.1
/-- of each section whether it goes by its type, or its name -/
def firstsL (secs : List dSec.T) (st : Int) : Nat → List dSec.T → List Bool
  | _, [] => []
  | i, s :: l => secE secs st i s :: firstsL secs st (i + 1) l
theorem firsts_len (secs : List dSec.T) (st : Int) : ∀ (l : List dSec.T) (i : Nat), (firstsL secs st i l).length = l.length
  | [], _ => rfl
  | s :: l, i => by rw [firstsL, List.length_cons, firsts_len secs st l, List.length_cons]
theorem firsts_snoc (secs : List dSec.T) (st : Int) : ∀ (l : List dSec.T) (i : Nat) (x : dSec.T), firstsL secs st i (l ++ [x]) = firstsL secs st i l ++ [secE secs st (i + l.length) x]
  | [], i, x => rfl
  | s :: l, i, x => by
    rw [List.cons_append, firstsL, firsts_snoc secs st l, firstsL, List.cons_append, List.length_cons, show i + 1 + l.length = i + (l.length + 1) by omega]
theorem firsts_get (secs : List dSec.T) (st : Int) : ∀ (l : List dSec.T) (i k : Nat) (x : dSec.T), l[k]? = some x → (firstsL secs st i l)[k]? = some (secE secs st (i + k) x)
  | [], i, k, x, h => by simp at h
  | s :: l, i, 0, x, h => by obtain rfl : s = x := (by simpa using h); rfl
  | s :: l, i, k + 1, x, h => by
    have := firsts_get secs st l (i + 1) k x (by simpa using h)
    rw [firstsL, List.getElem?_cons_succ, this, show i + 1 + k = i + (k + 1) by omega]
/-- symbols that go have this section's names -/
def symsB (secs : List dSec.T) (st : Int) (i : Int) : Nat → List dSec.T → Bool
  | _, [] => false
  | k, s :: l => (decide (@Eq Int s.2.2.2.2.2.1 (i + 1)) && (secE secs st k s && decide (@Eq Int s.2.1 2))) || symsB secs st i (k + 1) l
/-- what stays has this section's names -/
def othsB (secs : List dSec.T) (st : Int) (i : Int) : Nat → List dSec.T → Bool
  | _, [] => false
  | k, s :: l => (decide (@Eq Int s.2.2.2.2.2.1 (i + 1)) && !secE secs st k s) || othsB secs st i (k + 1) l
theorem syms_snoc (secs : List dSec.T) (st i : Int) : ∀ (l : List dSec.T) (k : Nat) (x : dSec.T), symsB secs st i k (l ++ [x]) = (symsB secs st i k l || (decide (@Eq Int x.2.2.2.2.2.1 (i + 1)) && (secE secs st (k + l.length) x && decide (@Eq Int x.2.1 2))))
  | [], k, x => by show (_ || false) = (false || _); rw [Bool.or_false, Bool.false_or]; rfl
  | s :: l, k, x => by
    rw [List.cons_append, symsB, syms_snoc secs st i l, symsB, List.length_cons, Bool.or_assoc, show k + 1 + l.length = k + (l.length + 1) by omega]
theorem oths_snoc (secs : List dSec.T) (st i : Int) : ∀ (l : List dSec.T) (k : Nat) (x : dSec.T), othsB secs st i k (l ++ [x]) = (othsB secs st i k l || (decide (@Eq Int x.2.2.2.2.2.1 (i + 1)) && !secE secs st (k + l.length) x))
  | [], k, x => by show (_ || false) = (false || _); rw [Bool.or_false, Bool.false_or]; rfl
  | s :: l, k, x => by
    rw [List.cons_append, othsB, oths_snoc secs st i l, othsB, List.length_cons, Bool.or_assoc, show k + 1 + l.length = k + (l.length + 1) by omega]
/-- does a section go -/
def goesB (secs : List dSec.T) (st : Int) (i : Nat) (s : dSec.T) : Bool :=
  secE secs st i s || (!stayB st i s.2.2.1 && decide (@Eq Int s.2.1 3) && (symsB secs st i 0 secs && !othsB secs st i 0 secs))
def goesL (secs : List dSec.T) (st : Int) : Nat → List dSec.T → List Bool
  | _, [] => []
  | i, s :: l => goesB secs st i s :: goesL secs st (i + 1) l
theorem goes_len (secs : List dSec.T) (st : Int) : ∀ (l : List dSec.T) (i : Nat), (goesL secs st i l).length = l.length
  | [], _ => rfl
  | s :: l, i => by rw [goesL, List.length_cons, goes_len secs st l, List.length_cons]
theorem goes_snoc (secs : List dSec.T) (st : Int) : ∀ (l : List dSec.T) (i : Nat) (x : dSec.T), goesL secs st i (l ++ [x]) = goesL secs st i l ++ [goesB secs st (i + l.length) x]
  | [], i, x => rfl
  | s :: l, i, x => by
    rw [List.cons_append, goesL, goes_snoc secs st l, goesL, List.cons_append, List.length_cons, show i + 1 + l.length = i + (l.length + 1) by omega]
theorem goes_get (secs : List dSec.T) (st : Int) : ∀ (l : List dSec.T) (i k : Nat) (x : dSec.T), l[k]? = some x → (goesL secs st i l)[k]? = some (goesB secs st (i + k) x)
  | [], i, k, x, h => by simp at h
  | s :: l, i, 0, x, h => by obtain rfl : s = x := (by simpa using h); rfl
  | s :: l, i, k + 1, x, h => by
    have := goes_get secs st l (i + 1) k x (by simpa using h)
    rw [goesL, List.getElem?_cons_succ, this, show i + 1 + k = i + (k + 1) by omega]
section
variable {K : PV → List OB → Prop} {w big : Bool} {o ab ty ma fl en st : Int} {segs : List dSeg.T} {secs : List dSec.T}
theorem stays_spec {i : Nat} {x : dSec.T} (hx : secs[i]? = some x) (hl : Om (secs.length ≤ 1000000)) (hN : Am (SecsN secs)) (hk : K (.bool (stayB st i x.2.2.1)) []) :
    PCalls Try.prog 54 [.agg [.bool w, .bool big, .int .u8 o, .int .u8 ab, .int .u16 ty, .int .u16 ma, .int .u32 fl, .int .u64 en, .sl dSeg segs, .sl dSec secs, .int .i64 st], .int .i64 i] [] K := by
  have hl := hl.o
  have hN := hN.o
  have hi := (List.getElem?_eq_some_iff.1 hx).1
  refine told_callP bezantref18_stays.told fun Z hZ => ?_
  unfold bezantref18_stays.c
  have hx0 := hN x (List.mem_of_getElem? hx)
  obtain ⟨nm, sty, sfl, sad, ssi, sli, ssf, sal, sen, ⟨si, so, sz, sown, u⟩, u2⟩ := x
  have hx0 : SecN nm sty sfl sad ssi sli sal sen si so sz sown := hx0
  obtain ⟨nnm, nty, nfl, nad, nsi, nli, nal, nen, noff, nsz, now, nbo⟩ := hx0
  have hk : K (.bool (stayB st i sfl)) [] := hk
  unfold stayB at hk
  have hw1 : IntKind.wrap .i64 ((i : Int) + 1) = (i : Int) + 1 := by rw [wI64]; omega
  have hq : Ab.abin .quo (.int .u64 sfl) (.int .u64 2) = some (.int .u64 (sfl / 2)) := by rw [quo_c (by omega) (by omega), wU64]; congr 2; omega
  have hr : Ab.abin .rem (.int .u64 (sfl / 2)) (.int .u64 2) = some (.int .u64 (sfl / 2 % 2)) := rem_c (by omega) (by omega)
  by_cases h1 : sfl / 2 % 2 = 1
  · rw [decide_eq_true h1, Bool.true_or] at hk
    refine W1 trivial (And.intro @DD (And.intro @hq (And.intro @hr @hw1))) trivial ?_
    exact hk
  rw [decide_eq_false h1, Bool.false_or] at hk
  refine W1 trivial (And.intro @DD (And.intro @hq (And.intro @hr @hw1))) trivial ?_
  exact hk
theorem rfirst_spec {i : Nat} {x : dSec.T} (hx : secs[i]? = some x) (hl : Om (secs.length ≤ 1000000)) (hN : Am (SecsN secs)) (hk : K (.bool (secE secs st i x)) []) :
    PCalls Try.prog 53 [.agg [.bool w, .bool big, .int .u8 o, .int .u8 ab, .int .u16 ty, .int .u16 ma, .int .u32 fl, .int .u64 en, .sl dSeg segs, .sl dSec secs, .int .i64 st], .int .i64 i] [] K := by
  have hl := hl.o
  have hN := hN.o
  have hi := (List.getElem?_eq_some_iff.1 hx).1
  refine told_callP bezantref18_First.told fun Z hZ => ?_
  unfold bezantref18_First.c
  refine W1 trivial @DD trivial ?_
  refine stays_spec hx ⟨hl⟩ ⟨hN⟩ ?_
  cases hsb : stayB st i x.2.2.1
  all_goals
    obtain ⟨nm, sty, sfl, sad, ssi, sli, ssf, sal, sen, ⟨si, so, sz, sown, u⟩, u2⟩ := x
    have hk : K (.bool (earlyB secs st i sty sfl nm)) [] := hk
    have hsb : stayB st i sfl = _ := hsb
    unfold earlyB at hk
    rw [hsb] at hk
    have hns := nameS_size hN st nm
    have hxi : secs[((i : Int)).toNat]? = some (nm, sty, sfl, sad, ssi, sli, ssf, sal, sen, (si, so, sz, sown, u), u2) := by rw [Int.toNat_natCast]; exact hx
    refine W1 trivial @DD trivial ?_
    refine rsname_spec hxi ⟨by omega⟩ ⟨hl⟩ ⟨hN⟩ ?_
    refine W1 trivial @DD @begins_spec ?_
    refine rsname_spec hxi ⟨by omega⟩ ⟨hl⟩ ⟨hN⟩ ?_
    have e1 : preB (nameS secs st nm) ⟨#[46, 100, 101, 98, 117, 103]⟩ = preB (nameS secs st nm) sDebug := rfl
    have e2 : preB (nameS secs st nm) ⟨#[46, 122, 100, 101, 98, 117, 103]⟩ = preB (nameS secs st nm) sZdebug := rfl
    rw [e1]
    generalize preB (nameS secs st nm) sDebug = p1 at *
  rotate_left
  · rw [Bool.not_true, Bool.false_and] at hk
    refine W1 trivial @DD @begins_spec ?_
    exact hk
  rw [Bool.not_false, Bool.true_and] at hk
  by_cases h3 : @Eq Int sty 2
  · simp only [decide_eq_true h3, Bool.true_or] at hk
    refine W1 trivial @DD @begins_spec ?_
    exact hk
  by_cases h4 : @Eq Int sty 18
  · simp only [decide_eq_true h4, Bool.true_or, Bool.or_true] at hk
    refine W1 trivial @DD @begins_spec ?_
    exact hk
  by_cases h5 : @Eq Int sty 4
  · simp only [decide_eq_true h5, Bool.true_or, Bool.or_true] at hk
    refine W1 trivial @DD @begins_spec ?_
    exact hk
  by_cases h6 : @Eq Int sty 9
  · simp only [decide_eq_true h6, Bool.true_or, Bool.or_true] at hk
    refine W1 trivial @DD @begins_spec ?_
    exact hk
  simp only [decide_eq_false h3, decide_eq_false h4, decide_eq_false h5, decide_eq_false h6, Bool.false_or] at hk
  cases p1
  · rw [Bool.false_or] at hk
    refine W1 trivial (And.intro @DD @e2) @begins_spec ?_
    exact hk
  · rw [Bool.true_or] at hk
    refine W1 trivial @DD @begins_spec ?_
    exact hk
end
end Go.Proofs.Ytalhipbbomagoaa.PvW

/- Names of sections, which of them go first. No statement of the set is proved in this text. -/
import Derived.Test.YtalhipbbomagoaaPvRefB
import Derived.Test.YtalhipbbomagoaaTdStrip
namespace Go.Proofs.Ytalhipbbomagoaa.PvW
open Go.RowKit Go.Proofs.Ytalhipbbomagoaa.Cd Go.Proofs.Ytalhipbbomagoaa.AbP Go.Proofs.Ytalhipbbomagoaa.Num Go.Proofs.Ytalhipbbomagoaa.Pv
set_option maxRecDepth 100000
set_option maxHeartbeats 4000000
set_option linter.unusedVariables false
set_option linter.unusedSimpArgs false
theorem and2 (n : Nat) : n &&& 2 = 2 * (n / 2 % 2) := by
  have h1 := Nat.and_div_two (a := n) (b := 2)
  rw [show 2 / 2 = 1 from rfl, Nat.and_one_is_mod] at h1
  have h2 : (n &&& 2) % 2 = 0 := by
    rw [← Nat.and_one_is_mod, Nat.and_assoc]
    show n &&& 0 = 0
    exact Nat.and_zero n
  omega
theorem flag2 {fl : Int} (h : 0 ≤ fl ∧ fl ≤ 18446744073709551615) : andI fl 2 = 2 * (fl / 2 % 2) := by
  rw [andI_nat ⟨h.1, by omega⟩ ⟨by omega, by omega⟩, show (2 : Int).toNat = 2 from rfl, and2]
  omega
/-- does a section stay, whatever it is -/
def stayB (st : Int) (i : Int) (fl : Int) : Bool := decide (fl / 2 % 2 = 1) || decide (i + 1 = st)
/-- a section's name -/
def nameS (secs : List dSec.T) (st : Int) (nm : Int) : ByteArray :=
  if st < 1 ∨ (secs.length : Int) < st then ⟨#[]⟩ else match secs[(st - 1).toNat]? with
  | none => ⟨#[]⟩
  | some s => if okName s.2.2.2.2.2.2.2.2.2.1.2.2.2.1 nm = true then sOf ((s.2.2.2.2.2.2.2.2.2.1.2.2.2.1.drop nm.toNat).take (ixB (s.2.2.2.2.2.2.2.2.2.1.2.2.2.1.drop nm.toNat)).toNat) else ⟨#[]⟩
/-- does a text begin with another one -/
def preB (s t : ByteArray) : Bool := decide (t.size ≤ s.size) && ((s.extract 0 t.size).toList == t.toList)
def sDebug : ByteArray := ⟨#[46, 100, 101, 98, 117, 103]⟩
def sZdebug : ByteArray := ⟨#[46, 122, 100, 101, 98, 117, 103]⟩
/-- does a section go by its type, or its name -/
def earlyB (secs : List dSec.T) (st : Int) (i ty fl nm : Int) : Bool :=
  !stayB st i fl && (decide (ty = 2) || decide (ty = 18) || decide (ty = 4) || decide (ty = 9) || preB (nameS secs st nm) sDebug || preB (nameS secs st nm) sZdebug)
section
variable {K : PV → List OB → Prop} {w big : Bool} {o ab ty ma fl en st : Int} {segs : List dSeg.T} {secs : List dSec.T}
theorem sname_spec {nm sty sfl sad ssi sli ssf sal sen i off sz : Int} {own : List Int} (hl : Om (secs.length ≤ 1000000)) (hN : Am (SecsN secs)) (hn : Om (0 ≤ nm ∧ nm ≤ 4294967295)) (hk : K (.str (nameS secs st nm)) []) :
    PCalls Try.prog 93 [.agg [.bool w, .bool big, .int .u8 o, .int .u8 ab, .int .u16 ty, .int .u16 ma, .int .u32 fl, .int .u64 en, .sl dSeg segs, .sl dSec secs, .int .i64 st], .agg [.int .u32 nm, .int .u32 sty, .int .u64 sfl, .int .u64 sad, .int .u64 ssi, .int .u32 sli, .int .u32 ssf, .int .u64 sal, .int .u64 sen, .int .i64 i, .int .u64 off, .int .u64 sz, .sl (.int .u8) own]] [] K := by
  have hl := hl.o
  have hN := hN.o
  have hn := hn.o
  refine told_callP strip_name.told fun Z hZ => ?_
  unfold strip_name.c
  unfold nameS at hk
  by_cases h1 : st < 1
  · rw [if_pos (.inl h1)] at hk
    refine W1 trivial @DD trivial ?_
    exact hk
  by_cases h2 : (secs.length : Int) < st
  · rw [if_pos (.inr h2)] at hk
    refine W1 trivial @DD trivial ?_
    exact hk
  rw [if_neg (fun h => h.elim h1 h2)] at hk
  obtain ⟨y, hy⟩ : ∃ y, secs[(st - 1).toNat]? = some y := ⟨secs[(st - 1).toNat]'(by omega), List.getElem?_eq_getElem (by omega)⟩
  rw [hy] at hk
  have hy0 := hN y (List.mem_of_getElem? hy)
  obtain ⟨ynm, yty, yfl, yad, ysi, yli, ysf, yal, yen, ⟨yi, yo, yz, yown, yu⟩, yu2⟩ := y
  dsimp only at hk
  have hw1 : IntKind.wrap .i64 (st - 1) = st - 1 := by rw [wI64]; omega
  refine W1 trivial (And.intro @DD @hw1) trivial ?_
  refine sget_str_spec ⟨hy0.ow⟩ ⟨by omega⟩ (fun ok => ?_) (fun no => ?_)
  · rw [if_pos ok] at hk
    refine W1 trivial @DD trivial ?_
    exact hk
  · rw [if_neg (by rw [no]; decide)] at hk
    refine W1 trivial @DD trivial ?_
    exact hk
theorem rsname_spec {i : Int} {nm sty sfl sad ssi sli ssf sal sen si so sz : Int} {own : List Int} {u : Unit} {u2 : Unit} (hx : secs[i.toNat]? = some (nm, sty, sfl, sad, ssi, sli, ssf, sal, sen, (si, so, sz, own, u), u2)) (hi : Om (0 ≤ i ∧ i < secs.length)) (hl : Om (secs.length ≤ 1000000)) (hN : Am (SecsN secs)) (hk : K (.str (nameS secs st nm)) []) :
    PCalls Try.prog 96 [.agg [.bool w, .bool big, .int .u8 o, .int .u8 ab, .int .u16 ty, .int .u16 ma, .int .u32 fl, .int .u64 en, .sl dSeg segs, .sl dSec secs, .int .i64 st], .int .i64 i] [] K := by
  have hl := hl.o
  have hN := hN.o
  have hi := hi.o
  have hn := (hN _ (List.mem_of_getElem? hx)).nm
  have hn : 0 ≤ nm ∧ nm ≤ 4294967295 := hn
  refine told_callP bezantref18_name.told fun Z hZ => ?_
  unfold bezantref18_name.c
  unfold nameS at hk
  by_cases h1 : st < 1
  · rw [if_pos (.inl h1)] at hk
    refine W1 trivial @DD trivial ?_
    exact hk
  by_cases h2 : (secs.length : Int) < st
  · rw [if_pos (.inr h2)] at hk
    refine W1 trivial @DD trivial ?_
    exact hk
  rw [if_neg (fun h => h.elim h1 h2)] at hk
  obtain ⟨y, hy⟩ : ∃ y, secs[(st - 1).toNat]? = some y := ⟨secs[(st - 1).toNat]'(by omega), List.getElem?_eq_getElem (by omega)⟩
  rw [hy] at hk
  have hy0 := hN y (List.mem_of_getElem? hy)
  obtain ⟨ynm, yty, yfl, yad, ysi, yli, ysf, yal, yen, ⟨yi, yo, yz, yown, yu⟩, yu2⟩ := y
  dsimp only at hk
  have hw1 : IntKind.wrap .i64 (st - 1) = st - 1 := by rw [wI64]; omega
  refine W1 trivial (And.intro @DD @hw1) trivial ?_
  refine rname_spec ⟨hy0.bo⟩ ⟨hy0.ow⟩ ⟨by omega⟩ (fun ok => ?_) (fun no => ?_)
  · rw [if_pos ok] at hk
    refine W1 trivial @DD trivial ?_
    exact hk
  · rw [if_neg (by rw [no]; decide)] at hk
    refine W1 trivial @DD trivial ?_
    exact hk
theorem hasp_spec {s t : ByteArray} (hs : Om (s.size ≤ 1000000000)) (hk : K (.bool (preB s t)) []) : PCalls Try.prog 121 [.str s, .str t] [] K := by
  have hs := hs.o
  refine told_callP internal_stringslite_HasPrefix.told fun Z hZ => ?_
  unfold internal_stringslite_HasPrefix.c
  unfold preB at hk
  by_cases h : (t.size : Int) ≤ s.size
  · rw [decide_eq_true (show t.size ≤ s.size by omega), Bool.true_and] at hk
    refine W1 trivial @DD trivial ?_
    exact hk
  · rw [decide_eq_false (show ¬ t.size ≤ s.size by omega), Bool.false_and] at hk
    refine W1 trivial @DD trivial ?_
    exact hk
theorem hasp2_spec {s t : ByteArray} (hs : Om (s.size ≤ 1000000000)) (hk : K (.bool (preB s t)) []) : PCalls Try.prog 94 [.str s, .str t] [] K := by
  have hs := hs.o
  refine told_callP strings_HasPrefix.told fun Z hZ => ?_
  unfold strings_HasPrefix.c
  refine W1 trivial @DD @hasp_spec ?_
  exact hk
theorem begins_spec {s t : ByteArray} (hs : Om (s.size ≤ 1000000000)) (hk : K (.bool (preB s t)) []) : PCalls Try.prog 95 [.str s, .str t] [] K := by
  have hs := hs.o
  refine told_callP bezantref18_begins.told fun Z hZ => ?_
  unfold bezantref18_begins.c
  unfold preB at hk
  by_cases h : (t.size : Int) ≤ s.size
  · rw [decide_eq_true (show t.size ≤ s.size by omega), Bool.true_and] at hk
    have hmn : (if (t.size : Int) < s.size then (t.size : Int) else s.size) = t.size := by split <;> omega
    refine W1 trivial (And.intro @DD @hmn) trivial ?_
    exact hk
  · rw [decide_eq_false (show ¬ t.size ≤ s.size by omega), Bool.false_and] at hk
    refine W1 trivial @DD trivial ?_
    exact hk
end
end Go.Proofs.Ytalhipbbomagoaa.PvW

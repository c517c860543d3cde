/- What sym's functions yield. No statement of the set is proved in this text. -/
import Derived.Test.YteohkpfacjjaeabPvSpot
import Derived.Test.YteohkpfacjjaeabTdSym
namespace Go.Proofs.Yteohkpfacjjaeab.PvW
open Go.RowKit Go.Proofs.Yteohkpfacjjaeab.Cd Go.Proofs.Yteohkpfacjjaeab.AbP Go.Proofs.Yteohkpfacjjaeab.Num Go.Proofs.Yteohkpfacjjaeab.Pv
set_option maxRecDepth 100000
set_option maxHeartbeats 4000000
set_option linter.unusedVariables false
set_option linter.unusedSimpArgs false
variable {K : PV → List OB → Prop}
abbrev dSym : Ab.D := (.st (.cons (.int .u32) (.cons (.int .u8) (.cons (.int .u8) (.cons (.int .u16) (.cons (.int .u64) (.cons (.int .u64) .nil)))))))
/-- a symbol's numbers, as they stand in a file -/
def symN (w : Bool) (nm inf oth shn val siz : Int) : List (Int × Int) := if w = true then [(nm, 4), (inf, 1), (oth, 1), (shn, 2), (val, 8), (siz, 8)] else [(nm, 4), (val, 4), (siz, 4), (inf, 1), (oth, 1), (shn, 2)]
def symP (w : Bool) (x : dSym.T) : List (Int × Int) := symN w x.1 x.2.1 x.2.2.1 x.2.2.2.1 x.2.2.2.2.1 x.2.2.2.2.2.1
structure SymN (nm inf oth shn val siz : Int) : Prop where
  nm : 0 ≤ nm ∧ nm ≤ 4294967295
  inf : 0 ≤ inf ∧ inf ≤ 255
  oth : 0 ≤ oth ∧ oth ≤ 255
  shn : 0 ≤ shn ∧ shn ≤ 65535
  val : 0 ≤ val ∧ val ≤ 18446744073709551615
  siz : 0 ≤ siz ∧ siz ≤ 18446744073709551615
def SymG (x : dSym.T) : Prop := SymN x.1 x.2.1 x.2.2.1 x.2.2.2.1 x.2.2.2.2.1 x.2.2.2.2.2.1
theorem putSpec1 {v : Int} {big : Bool} (h0 : 0 ≤ v) (h1 : v ≤ 255) : putSpec v 1 big = [v] := by
  have e : dig v 0 = v := by unfold dig; simp; omega
  unfold putSpec enc le
  show (if big = true then ([dig v 0]).reverse else [dig v 0]) = [v]
  rw [e]
  cases big <;> rfl
theorem ysize_spec {w b : Bool} (hk : K (.int .i64 (if w = true then 24 else 16)) []) : PCalls Try.prog 74 [.agg [.bool w, .bool b]] [] K := by
  refine told_callP sym_size.told fun Z hZ => ?_
  unfold sym_size.c
  cases w
  · refine W1 trivial trivial trivial ?_
    exact hk
  · refine W1 trivial trivial trivial ?_
    exact hk
theorem yone_spec {w big : Bool} {nm inf oth shn val siz : Int} (hG : Am (SymN nm inf oth shn val siz)) (hk : K (.osl 0 (rowB big (symN w nm inf oth shn val siz)).length) [.arr (.int .u8) (rowB big (symN w nm inf oth shn val siz))]) :
    PCalls Try.prog 72 [.agg [.int .u32 nm, .int .u8 inf, .int .u8 oth, .int .u16 shn, .int .u64 val, .int .u64 siz], .agg [.bool w, .bool big]] [] K := by
  obtain ⟨⟨g0, h0⟩, ⟨g1, h1⟩, ⟨g2, h2⟩, ⟨g3, h3⟩, ⟨g4, h4⟩, ⟨g5, h5⟩⟩ := hG.o
  refine told_callP sym_one.told fun Z hZ => ?_
  unfold sym_one.c
  have l0 := putSpec_le nm 4 big
  have l3 := putSpec_le shn 2 big
  have e1 := putSpec1 (big := big) g1 h1
  have e2 := putSpec1 (big := big) g2 h2
  cases w
  · have l4 := putSpec_le val 4 big
    have l5 := putSpec_le siz 4 big
    refine W1 trivial @DD (And.intro @put_spec (@oArr 3 (.int .u8))) ?_
    have e : rowB big (symN false nm inf oth shn val siz) = putSpec nm 4 big ++ (putSpec val 4 big ++ putSpec siz 4 big) ++ ([inf, oth] ++ putSpec shn 2 big) := by simp [rowB, symN, e1, e2]
    rw [e, List.length_append] at hk
    exact hk
  · have l4 := putSpec_le val 8 big
    have l5 := putSpec_le siz 8 big
    refine W1 trivial @DD (And.intro @put_spec (@oArr 3 (.int .u8))) ?_
    have e : rowB big (symN true nm inf oth shn val siz) = putSpec nm 4 big ++ ([inf, oth] ++ putSpec shn 2 big) ++ (putSpec val 8 big ++ putSpec siz 8 big) := by simp [rowB, symN, e1, e2]
    rw [e, List.length_append] at hk
    exact hk
theorem symP_len (w big : Bool) (x : dSym.T) : (rowB big (symP w x)).length = if w = true then 24 else 16 := by
  have h := rowB_sum (big := big) (symP w x) (by cases w <;> (intro q hq; simp [symP, symN] at hq; rcases hq with rfl | rfl | rfl | rfl | rfl | rfl <;> rfl))
  have e : sumL ((symP w x).map (·.2)) = if w = true then 24 else 16 := by cases w <;> rfl
  rw [e] at h
  cases w
  · simp only [Bool.false_eq_true, ↓reduceIte] at h ⊢; omega
  · simp only [↓reduceIte] at h ⊢; omega
theorem symN_ok {nm inf oth shn val siz : Int} (h : SymN nm inf oth shn val siz) (w : Bool) : rowOk (symN w nm inf oth shn val siz) = (w || fitsB val 4 && fitsB siz 4) := by
  have p1 : (256 : Int) ^ 1 = 256 := by decide
  have p2 : (256 : Int) ^ 2 = 65536 := by decide
  have p4 : (256 : Int) ^ 4 = 4294967296 := by decide
  have p8 : (256 : Int) ^ 8 = 18446744073709551616 := by decide
  have f0 := fitsn (n := 4) (m := 4) rfl rfl (x := nm) (by have := h.nm.2; omega)
  have f1 := fitsn (n := 1) (m := 1) rfl rfl (x := inf) (by have := h.inf.2; omega)
  have f2 := fitsn (n := 1) (m := 1) rfl rfl (x := oth) (by have := h.oth.2; omega)
  have f3 := fitsn (n := 2) (m := 2) rfl rfl (x := shn) (by have := h.shn.2; omega)
  have f4 := fitsn (n := 8) (m := 8) rfl rfl (x := val) (by have := h.val.2; omega)
  have f5 := fitsn (n := 8) (m := 8) rfl rfl (x := siz) (by have := h.siz.2; omega)
  cases w
  · simp only [rowOk, symN, ↓reduceIte, Bool.false_eq_true, List.all_cons, List.all_nil, f0, f1, f2, f3, Bool.true_and, Bool.and_true, Bool.false_or]
  · simp only [rowOk, symN, ↓reduceIte, List.all_cons, List.all_nil, f0, f1, f2, f3, f4, f5, Bool.true_and, Bool.and_true, Bool.true_or]
theorem symsB_le {w big : Bool} (l : List dSym.T) {i : Nat} (h : l.length ≤ 100000) : (recB big (symP w) (l.take i)).length ≤ 2400000 := by
  rw [recB_len (symP_len w big), List.length_take]
  refine Nat.le_trans (Nat.mul_le_mul (Nat.le_trans (Nat.min_le_right _ _) h) (show (if w = true then 24 else 16) ≤ 24 by cases w <;> decide)) ?_
  decide
theorem yput_spec {w big : Bool} {l : List dSym.T} (hG : Am (∀ x ∈ l, SymG x)) (hm : Om (l.length ≤ 100000))
    (hk1 : recOk (symP w) l = true → K (.tup [.osl 0 (recB big (symP w) l).length, .nilI]) [.arr (.int .u8) (recB big (symP w) l)])
    (hk2 : recOk (symP w) l = false → K (.tup [.nilS, eCode 1]) []) :
    PCalls Try.prog 35 [.sl dSym l, .agg [.bool w, .bool big]] [] K := by
  have hG := hG.o
  have hm := hm.o
  refine told_callP sym_Put.told fun Z hZ => ?_
  unfold sym_Put.c
  refine W1 trivial trivial (@xVirt 6 (.int .u8)) ?_
  refine w_lpG (fun q e s => ∃ i : Nat, q + i = l.length ∧ recOk (symP w) (l.take i) = true ∧ s = [.var [.bool w, .bool big], .arr (.int .u8) (recB big (symP w) (l.take i))] ∧ e 3 = .ptr 0 0 ∧ e 6 = .osl 1 (recB big (symP w) (l.take i)).length ∧ e 9 = .sl dSym l ∧ e 10 = .int .i64 l.length ∧ e 11 = .int .i64 i) l.length ?_ ?_
  · exact ⟨0, rfl, rfl, rfl, by exact lk trivial, by exact lk trivial, by exact lk trivial, by exact lk trivial, by exact lk trivial⟩
  rintro q e s ⟨i, hi, hok, rfl, e3, e6, e9, e10, e11⟩
  have hlen2 := symsB_le (w := w) (big := big) l (i := i) hm
  by_cases hq : i < l.length
  · obtain ⟨x, hx⟩ : ∃ x, l[i]? = some x := ⟨l[i], by simp [hq]⟩
    have hxl2 : (rowB big (symP w x)).length ≤ 24 := by rw [symP_len]; cases w <;> decide
    have ht := recB_take (big := big) (P := symP w) hx
    have hto := recOk_take (P := symP w) hx
    have hg : SymG x := hG x (List.mem_of_getElem? hx)
    have hb := recOk_bad (P := symP w) hx
    have ho := symN_ok hg w
    rw [hok] at hto
    change rowOk (symP w x) = _ at ho
    obtain ⟨nm, inf, oth, shn, val, siz, _⟩ := x
    change SymN nm inf oth shn val siz at hg
    change rowOk (symP w _) = (w || fitsB val 4 && fitsB siz 4) at ho
    change recB big (symP w) (l.take (i + 1)) = recB big (symP w) (l.take i) ++ rowB big (symN w nm inf oth shn val siz) at ht
    change (rowB big (symN w nm inf oth shn val siz)).length ≤ 24 at hxl2
    obtain ⟨g4, h4⟩ := hg.val
    obtain ⟨g5, h5⟩ := hg.siz
    cases w
    · cases f4 : fitsB val 4
      · refine W1 (And.intro @e3 (And.intro @e6 (And.intro @e9 (And.intro @e10 (And.intro @e11 @f4))))) @DD @fits_spec ?_
        exact hk2 (hb (by rw [ho, f4]; rfl))
      · cases f5 : fitsB siz 4
        · refine W1 (And.intro @e3 (And.intro @e6 (And.intro @e9 (And.intro @e10 (And.intro @e11 (And.intro @f4 @f5)))))) @DD @fits_spec ?_
          exact hk2 (hb (by rw [ho, f4, f5]; rfl))
        · refine W1 (And.intro @e3 (And.intro @e6 (And.intro @e9 (And.intro @e10 (And.intro @e11 (And.intro @f4 @f5)))))) @DD (And.intro @fits_spec @yone_spec) ?_
          refine ⟨q - 1, by omega, _, _, Gh.sel [0, 1] (by decide) (hz0 hZ), i + 1, by omega, by rw [hto, ho, f4, f5]; rfl, by rw [ht]; rfl, by exact lk @e3, by rw [ht, List.length_append]; exact lk trivial, by exact lk @e9, by exact lk @e10, by exact lk @e11⟩
    · refine W1 (And.intro @e3 (And.intro @e6 (And.intro @e9 (And.intro @e10 @e11)))) @DD (And.intro @fits_spec @yone_spec) ?_
      refine ⟨q - 1, by omega, _, _, Gh.sel [0, 1] (by decide) (hz0 hZ), i + 1, by omega, by rw [hto, ho]; rfl, by rw [ht]; rfl, by exact lk @e3, by rw [ht, List.length_append]; exact lk trivial, by exact lk @e9, by exact lk @e10, by exact lk @e11⟩
  · obtain rfl : i = l.length := by omega
    rw [List.take_length] at hok hlen2 e6 ⊢
    refine W1 (And.intro @e3 (And.intro @e6 (And.intro @e9 (And.intro @e10 @e11)))) @DD trivial ?_
    exact hk1 hok
end Go.Proofs.Yteohkpfacjjaeab.PvW

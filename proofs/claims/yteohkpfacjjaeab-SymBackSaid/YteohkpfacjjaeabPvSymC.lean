/- What Index, and the rest of the layer of symbols, yield. No statement of the set is proved in this text. -/
import Derived.Test.YteohkpfacjjaeabPvSymB
namespace Go.Proofs.Yteohkpfacjjaeab.PvW
open Go.RowKit Go.Proofs.Yteohkpfacjjaeab.Cd Go.Proofs.Yteohkpfacjjaeab.AbP Go.Proofs.Yteohkpfacjjaeab.Num Go.Proofs.Yteohkpfacjjaeab.Pv
set_option maxRecDepth 100000
set_option maxHeartbeats 4000000
set_option linter.unusedVariables false
set_option linter.unusedSimpArgs false
variable {K : PV → List OB → Prop}
abbrev dSymI : Ab.D := (.cons (.int .u32) (.cons (.int .u8) (.cons (.int .u8) (.cons (.int .u16) (.cons (.int .u64) (.cons (.int .u64) .nil))))))
theorem sym_same (x : dSym.T) : EqS Try.prog 129 (encP dSym x) (encP dSym x) true :=
  EqS.same dSymI (by decide) (by kernel_rfl) (by kernel_rfl) (by decide) x rfl
theorem same8_spec {l l' : List dSym.T} (hl : Rf (l = l')) (hm : Om (l.length ≤ 100000)) (hk : K (.int .i64 1) []) :
    PCalls Try.prog 41 [.sl dSym l, .sl dSym l'] [] K := by
  obtain rfl := hl.o
  have hm := hm.o
  refine told_callP bezantlaw08_same.told fun Z hZ => ?_
  unfold bezantlaw08_same.c
  refine W1 trivial @DD trivial ?_
  refine w_lp (fun q e s => s = [] ∧ ∃ i : Nat, q + i = l.length ∧ e 0 = .sl dSym l ∧ e 1 = .sl dSym l ∧ e 5 = .int .i64 i) l.length ?_ ?_
  · exact ⟨rfl, 0, rfl, by exact lk trivial, by exact lk trivial, by exact lk trivial⟩
  rintro q e s ⟨rfl, i, hi, e0, e1, e5⟩
  by_cases hq : i < l.length
  · obtain ⟨x, hx⟩ : ∃ x, l[i]? = some x := ⟨l[i], by simp [hq]⟩
    have hs := sym_same x
    obtain ⟨nm, inf, oth, shn, val, siz, _⟩ := x
    refine W1 (And.intro @e0 (And.intro @e1 @e5)) @DD trivial ?_
    exact ⟨q - 1, by omega, rfl, i + 1, by omega, by exact lk @e0, by exact lk @e1, by exact lk @e5⟩
  · refine W1 (And.intro @e0 (And.intro @e1 @e5)) @DD trivial ?_
    exact hk
def idx8 (big : Bool) (l : List dSym.T) (ext : List Int) (i : Int) : Int × Bool := if 0 ≤ i ∧ i < l.length then (let x := l.getD i.toNat (0, 0, 0, 0, 0, 0, ()); if x.2.2.2.1 = 65535 then (IntKind.u32.wrap (getSpec ext (4 * i) 4 big).1, (getSpec ext (4 * i) 4 big).2) else (x.2.2.2.1, true)) else (0, false)
theorem idx8_spec {w big : Bool} {l : List dSym.T} {ext : List Int} {i : Int} (hB : Am (B ext)) (hG : Am (∀ x ∈ l, SymG x)) (hl : Om (l.length ≤ 100000)) (hx : Om (ext.length ≤ 1000000)) (hi : Om (-9223372036854775808 ≤ i ∧ i ≤ 9223372036854775807)) (hk : K (.tup [.int .u32 (idx8 big l ext i).1, .bool (idx8 big l ext i).2]) []) :
    PCalls Try.prog 39 [.sl dSym l, .sl (.int .u8) ext, .agg [.bool w, .bool big], .int .i64 i] [] K := by
  refine told_callP sym_Index.told fun Z hZ => ?_
  unfold sym_Index.c
  have hB := hB.o
  have hl := hl.o
  have hx := hx.o
  have hG := hG.o
  obtain ⟨i0, i1⟩ := hi.o
  by_cases hc : 0 ≤ i ∧ i < l.length
  · obtain ⟨c0, c1⟩ := hc
    obtain ⟨j, rfl⟩ : ∃ j : Nat, i = (j : Int) := ⟨i.toNat, by omega⟩
    have hj : j < l.length := by omega
    obtain ⟨x, hx'⟩ : ∃ x, l[j]? = some x := ⟨l[j], by simp [hj]⟩
    have e1 : idx8 big l ext (j : Int) = if x.2.2.2.1 = 65535 then (IntKind.u32.wrap (getSpec ext (4 * (j : Int)) 4 big).1, (getSpec ext (4 * (j : Int)) 4 big).2) else (x.2.2.2.1, true) := by
      unfold idx8
      rw [if_pos ⟨c0, c1⟩, Int.toNat_natCast, List.getD_eq_getElem?_getD, hx']
      rfl
    have hg := hG x (List.mem_of_getElem? hx')
    rw [e1] at hk
    obtain ⟨nm, inf, oth, shn, val, siz, _⟩ := x
    change SymN nm inf oth shn val siz at hg
    obtain ⟨g3, h3⟩ := hg.shn
    change K (.tup [.int .u32 (if shn = 65535 then _ else _ : Int × Bool).1, .bool (if shn = 65535 then _ else _ : Int × Bool).2]) [] at hk
    by_cases he : shn = 65535
    · rw [if_pos he] at hk
      refine W1 trivial @DD (And.intro @get_spec @rget_spec) ?_
      exact hk
    · rw [if_neg he] at hk
      refine W1 trivial @DD trivial ?_
      exact hk
  · have e1 : idx8 big l ext i = (0, false) := by unfold idx8; rw [if_neg hc]
    rw [e1] at hk
    by_cases h0 : i < 0
    · refine W1 trivial @DD trivial ?_
      exact hk
    · refine W1 trivial @DD trivial ?_
      exact hk
theorem ridx8_spec {w big : Bool} {l : List dSym.T} {ext : List Int} {i : Int} (hB : Am (B ext)) (hG : Am (∀ x ∈ l, SymG x)) (hl : Om (l.length ≤ 100000)) (hx : Om (ext.length ≤ 1000000)) (hi : Om (-9223372036854775808 ≤ i ∧ i ≤ 9223372036854775807)) (hk : K (.tup [.int .u32 (idx8 big l ext i).1, .bool (idx8 big l ext i).2]) []) :
    PCalls Try.prog 40 [.sl dSym l, .sl (.int .u8) ext, .agg [.bool w, .bool big], .int .i64 i] [] K := by
  refine told_callP bezantref04_Index.told fun Z hZ => ?_
  unfold bezantref04_Index.c
  have hB := hB.o
  have hl := hl.o
  have hx := hx.o
  have hG := hG.o
  obtain ⟨i0, i1⟩ := hi.o
  by_cases hc : 0 ≤ i ∧ i < l.length
  · obtain ⟨c0, c1⟩ := hc
    obtain ⟨j, rfl⟩ : ∃ j : Nat, i = (j : Int) := ⟨i.toNat, by omega⟩
    have hj : j < l.length := by omega
    obtain ⟨x, hx'⟩ : ∃ x, l[j]? = some x := ⟨l[j], by simp [hj]⟩
    have e1 : idx8 big l ext (j : Int) = if x.2.2.2.1 = 65535 then (IntKind.u32.wrap (getSpec ext (4 * (j : Int)) 4 big).1, (getSpec ext (4 * (j : Int)) 4 big).2) else (x.2.2.2.1, true) := by
      unfold idx8
      rw [if_pos ⟨c0, c1⟩, Int.toNat_natCast, List.getD_eq_getElem?_getD, hx']
      rfl
    have hg := hG x (List.mem_of_getElem? hx')
    rw [e1] at hk
    obtain ⟨nm, inf, oth, shn, val, siz, _⟩ := x
    change SymN nm inf oth shn val siz at hg
    obtain ⟨g3, h3⟩ := hg.shn
    change K (.tup [.int .u32 (if shn = 65535 then _ else _ : Int × Bool).1, .bool (if shn = 65535 then _ else _ : Int × Bool).2]) [] at hk
    by_cases he : shn = 65535
    · rw [if_pos he] at hk
      refine W1 trivial @DD (And.intro @get_spec @rget_spec) ?_
      exact hk
    · rw [if_neg he] at hk
      refine W1 trivial @DD trivial ?_
      exact hk
  · have e1 : idx8 big l ext i = (0, false) := by unfold idx8; rw [if_neg hc]
    rw [e1] at hk
    by_cases h0 : i < 0
    · refine W1 trivial @DD trivial ?_
      exact hk
    · refine W1 trivial @DD trivial ?_
      exact hk
end Go.Proofs.Yteohkpfacjjaeab.PvW

/- The law DynTells' walk, from what its printed contract and the plain lemmas tell. -/
import Derived.Test.YteohkpfacjjaeaaQDynDynTellsP
import Derived.Test.YteohkpfacjjaeaaOpens
namespace Go.Proofs.Yteohkpfacjjaeaa.DynLaw
open Go.RowKit Go.Proofs.YteohkpfacjjaeaaW.PrintWords Go.Proofs.YteohkpfacjjaeaaW.PrintLast Go.Proofs.YteohkpfacjjaeaaW.PrintMore Go.Proofs.Yteohkpfacjjaeaa.QDyn Go.Proofs.Yteohkpfacjjaeaa.Num Go.Proofs.Yteohkpfacjjaeaa.QDynWire Go.Proofs.Yteohkpfacjjaeaa.QDynDynP Go.Proofs.Yteohkpfacjjaeaa.Opens
set_option linter.unusedVariables false
set_option linter.unusedSimpArgs false
abbrev kForm : Kd (Bool × Bool) := Kd.pair Kd.bool Kd.bool
theorem opensForm : Opens Try.prog 36 kForm (fun p => True ∧ True) :=
  Opens.struct Try.underlying36 (ts := [4, 4]) (by kernel_rfl) (.cons (.bool Try.underlying4) (.one (.bool Try.underlying4)))
theorem openedForm {w : World} {x : Bool × Bool} {cs : Array Value} (h : kForm.K w x cs.toList) : cs = #[.bool x.1, .bool x.2] := by
  obtain ⟨c3, c4, e1, rfl, rfl⟩ := h
  cases cs
  simp_all
abbrev kDyn : Kd D := k73
def goodD (x : D) : Prop := (Lit.int .u64 x.f0).wf = true ∧ (Lit.int .u64 x.f1).wf = true
theorem opensD : Opens Try.prog 73 kDyn goodD :=
  (Opens.struct Try.underlying73 (ts := [23, 23]) (by kernel_rfl) (.cons (.int Try.underlying23) (.one (.int Try.underlying23)))).iso (fun x : D => (x.f0, x.f1)) (fun p => ⟨p.1, p.2⟩) (fun _ => rfl)
theorem u64_of {x : Int} (h : (Lit.int .u64 x).wf = true) : U64 x := by
  have := h
  simp [Lit.wf, IntKind.min, IntKind.max, IntKind.bits, IntKind.signed] at this
  unfold U64
  omega
theorem B_of {l : List Int} (h : ∀ x ∈ l, (Lit.int .u8 x).wf = true) : B l := by
  intro x hx
  have := h x hx
  simp [Lit.wf, IntKind.min, IntKind.max, IntKind.bits, IntKind.signed] at this
  omega
theorem okD_of {l : List D} (h : ∀ x ∈ l, goodD x) : ∀ x ∈ l, okD x := fun x hx => ⟨u64_of (h x hx).1, u64_of (h x hx).2⟩
theorem walk (w : World) (A0 : Option Addr) (c0 : Nat) (l0 : List D) (hr0 : kDyn.C w A0 l0.length l0) (hc0 : l0.length ≤ c0) (hm0 : l0.length ≤ maxLen) (hl0 : ∀ y ∈ l0, goodD y)
    (f : Bool × Bool) (cs : Array Value) (hk : kForm.K w f cs.toList) (hg : True ∧ True)
    (A : Option Addr) (c : Nat) (l : List Int) (hr : (Kd.int .u8).C w A l.length l) (hc : l.length ≤ c) (hm : l.length ≤ maxLen) (hl : ∀ y ∈ l, (Lit.int .u8 y).wf = true) (t : Int) (ht : (Lit.int .u64 t).wf = true) :
    Calls Try.prog 9 #[.slice A0 l0.length c0, .agg cs, .slice A l.length c, .int .u64 t] w fun e w' => e = .returned (.bool true) ∧ Below w.heap.size w w' := by
  obtain rfl := openedForm hk
  obtain ⟨k, h⟩ := DynTells' (okD_of hl0) (B_of hl) f.1 f.2 t
  exact bezantlaw10_DynTells.calls k A0 c0 l0 _ _ A c l _ true w hr0 hc0 hr hc h
end Go.Proofs.Yteohkpfacjjaeaa.DynLaw

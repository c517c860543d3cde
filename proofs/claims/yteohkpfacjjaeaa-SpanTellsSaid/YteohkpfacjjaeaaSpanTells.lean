/- The law SpanTells's walk, from what its printed contract and the plain lemmas tell. -/
import Derived.Test.YteohkpfacjjaeaaSpanTellsPure
import Derived.Test.YteohkpfacjjaeaaOpens
import Derived.KernelRfl
namespace Go.Proofs.Yteohkpfacjjaeaa.SpanLawT
open Go.RowKit Go.Proofs.YteohkpfacjjaeaaW.PrintWords Go.Proofs.YteohkpfacjjaeaaW.PrintLast Go.Proofs.YteohkpfacjjaeaaW.PrintMore Go.Proofs.Yteohkpfacjjaeaa.MSpan Go.Proofs.Yteohkpfacjjaeaa.SpanPureT Go.Proofs.Yteohkpfacjjaeaa.Opens
set_option linter.unusedVariables false
set_option linter.unusedSimpArgs false
def good (x : S25) : Prop := (Lit.int .u64 x.f0).wf = true ∧ (Lit.int .u64 x.f1).wf = true
theorem opens : Opens Try.prog 25 k25 good :=
  (Opens.struct Try.underlying25 (ts := [23, 23]) (by kernel_rfl) (.cons (.int Try.underlying23) (.one (.int Try.underlying23)))).iso (fun x : S25 => (x.f0, x.f1)) (fun p => ⟨p.1, p.2⟩) (fun _ => rfl)
theorem u64_of {x : Int} (h : (Lit.int .u64 x).wf = true) : U64 x := by
  have := h
  simp [Lit.wf, IntKind.min, IntKind.max, IntKind.bits, IntKind.signed] at this
  unfold U64
  omega
theorem ok_of {l : List S25} (h : ∀ y ∈ l, good y) : Ok l := fun x hx => ⟨u64_of (h x hx).1, u64_of (h x hx).2⟩
theorem opened {w : World} {x : S25} {cs : Array Value} (h : k25.K w x cs.toList) : cs = #[.int .u64 x.f0, .int .u64 x.f1] := by
  have := k25_open h
  cases cs
  simp_all
theorem walk (w : World) (A : Option Addr) (c : Nat) (l : List S25) (hr : k25.C w A l.length l) (hc : l.length ≤ c) (hm : l.length ≤ maxLen) (hg : ∀ y ∈ l, good y)
    (a : S25) (cs : Array Value) (hk : k25.K w a cs.toList) (ha : good a) (b : S25) (cs' : Array Value) (hk' : k25.K w b cs'.toList) (hb : good b) :
    Calls Try.prog 3 #[.slice A l.length c, .agg cs, .agg cs'] w fun e w' => e = .returned (.bool true) ∧ Below w.heap.size w w' := by
  obtain rfl := opened hk
  obtain rfl := opened hk'
  obtain ⟨k, h⟩ := SpanTells_pure (ok_of hg) hr.2.1 (u64_of ha.1) (u64_of ha.2) (u64_of hb.1) (u64_of hb.2)
  exact bezantlaw02_SpanTells.calls k A c l _ _ _ _ true w hr hc h
end Go.Proofs.Yteohkpfacjjaeaa.SpanLawT

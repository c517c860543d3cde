/- The law IdentTells' walk, from what its printed contract and the plain lemmas tell. -/
import Derived.Test.YteohkpfacjjaeaaIdentP
import Derived.Test.YteohkpfacjjaeaaOpens
namespace Go.Proofs.Yteohkpfacjjaeaa.IdentLaw
open Go.RowKit Go.Proofs.YteohkpfacjjaeaaW.PrintWords Go.Proofs.YteohkpfacjjaeaaW.PrintLast Go.Proofs.YteohkpfacjjaeaaW.PrintMore Go.Proofs.Yteohkpfacjjaeaa.QIdent Go.Proofs.Yteohkpfacjjaeaa.IdentP Go.Proofs.Yteohkpfacjjaeaa.Opens
set_option linter.unusedVariables false
set_option linter.unusedSimpArgs false
def kId : Kd Idt := Kd.iso (Kd.pair (Kd.pair Kd.bool Kd.bool) (Kd.pair (Kd.int .u8) (Kd.int .u8))) (fun x : Idt => ((x.wide, x.big), (x.os, x.abi)))
def good (x : Idt) : Prop := (True ∧ True) ∧ ((Lit.int .u8 x.os).wf = true ∧ (Lit.int .u8 x.abi).wf = true)
theorem opensForm : Opens Try.prog 36 (Kd.pair Kd.bool Kd.bool) (fun p => True ∧ True) :=
  Opens.struct Try.underlying36 (ts := [4, 4]) (by kernel_rfl) (.cons (.bool Try.underlying4) (.one (.bool Try.underlying4)))
theorem opens : Opens Try.prog 38 kId good :=
  (Opens.struct Try.underlying38 (ts := [36, 5, 5]) (by kernel_rfl) (.cons opensForm (.cons (.int Try.underlying5) (.one (.int Try.underlying5))))).iso (fun x : Idt => ((x.wide, x.big), (x.os, x.abi))) (fun p => ⟨p.1.1, p.1.2, p.2.1, p.2.2⟩) (fun _ => rfl)
theorem opened {w : World} {x : Idt} {cs : Array Value} (h : kId.K w x cs.toList) : cs = #[.bool x.wide, .bool x.big, .int .u8 x.os, .int .u8 x.abi] := by
  obtain ⟨c1, c2, e, ⟨c3, c4, e1, rfl, rfl⟩, ⟨c5, c6, e2, rfl, rfl⟩⟩ := h
  subst e1 e2
  cases cs
  simp_all
theorem walk (w : World) (x : Idt) (cs : Array Value) (hk : kId.K w x cs.toList) (hg : good x) (A : Option Addr) (c : Nat) (l : List Int) (hr : (Kd.int .u8).C w A l.length l) (hc : l.length ≤ c) (hm : l.length ≤ maxLen) (hl : ∀ y ∈ l, (Lit.int .u8 y).wf = true) :
    Calls Try.prog 5 #[.agg cs, .slice A l.length c] w fun e w' => e = .returned (.bool true) ∧ Below w.heap.size w w' := by
  obtain rfl := opened hk
  obtain ⟨k, h⟩ := IdentTells' x l
  exact bezantlaw03_IdentTells.calls k _ _ _ _ A c l true w hr hc h
end Go.Proofs.Yteohkpfacjjaeaa.IdentLaw

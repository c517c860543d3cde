/- The law IdentBack's walk, from what its printed contract and the plain lemmas tell. -/
import Derived.Test.YteohkpfacjjaeaaIdentBackP
import Derived.Test.YteohkpfacjjaeaaIdentTells
namespace Go.Proofs.Yteohkpfacjjaeaa.IdentLaw
open Go.RowKit Go.Proofs.YteohkpfacjjaeaaW.PrintWords Go.Proofs.YteohkpfacjjaeaaW.PrintLast Go.Proofs.YteohkpfacjjaeaaW.PrintMore Go.Proofs.Yteohkpfacjjaeaa.QIdent Go.Proofs.Yteohkpfacjjaeaa.IdentP Go.Proofs.Yteohkpfacjjaeaa.Opens
set_option linter.unusedVariables false
theorem walkBack (w : World) (x : Idt) (cs : Array Value) (hk : kId.K w x cs.toList) (hg : good x) (A : Option Addr) (c : Nat) (l : List Int) (hr : (Kd.int .u8).C w A l.length l) (hc : l.length ≤ c) (hm : l.length ≤ maxLen) (hl : ∀ y ∈ l, (Lit.int .u8 y).wf = true)
    (n : Int) (hn : (Lit.int .i64 n).wf = true) (b : Int) (hb : (Lit.int .u8 b).wf = true) :
    Calls Try.prog 6 #[.agg cs, .slice A l.length c, .int .i64 n, .int .u8 b] w fun e w' => e = .returned (.bool true) ∧ Below w.heap.size w w' := by
  obtain rfl := opened hk
  have hb' : 0 ≤ b ∧ b < 256 := by
    have := hb
    simp [Lit.wf, IntKind.min, IntKind.max, IntKind.bits, IntKind.signed] at this
    omega
  obtain ⟨k, h⟩ := IdentBack' x l n b hb'.1 hb'.2
  exact bezantlaw03_IdentBack.calls k _ _ _ _ A c l _ _ true w hr hc h
end Go.Proofs.Yteohkpfacjjaeaa.IdentLaw

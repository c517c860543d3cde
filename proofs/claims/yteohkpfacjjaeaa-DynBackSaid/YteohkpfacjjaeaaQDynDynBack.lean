/- The law DynBack's walk, from what its printed contract and the plain lemmas tell. -/
import Derived.Test.YteohkpfacjjaeaaQDynDynBackP
import Derived.Test.YteohkpfacjjaeaaQDynDynTells
namespace Go.Proofs.Yteohkpfacjjaeaa.DynLaw
open Go.RowKit Go.Proofs.YteohkpfacjjaeaaW.PrintWords Go.Proofs.YteohkpfacjjaeaaW.PrintLast Go.Proofs.YteohkpfacjjaeaaW.PrintMore Go.Proofs.Yteohkpfacjjaeaa.QDyn Go.Proofs.Yteohkpfacjjaeaa.Num Go.Proofs.Yteohkpfacjjaeaa.QDynWire Go.Proofs.Yteohkpfacjjaeaa.QDynDynP Go.Proofs.Yteohkpfacjjaeaa.Opens
set_option linter.unusedVariables false
theorem walkBack (w : World) (A0 : Option Addr) (c0 : Nat) (l0 : List D) (hr0 : kDyn.C w A0 l0.length l0) (hc0 : l0.length ≤ c0) (hm0 : l0.length ≤ maxLen) (hl0 : ∀ y ∈ l0, goodD y)
    (f : Bool × Bool) (cs : Array Value) (hk : kForm.K w f cs.toList) (hg : True ∧ True)
    (A : Option Addr) (c : Nat) (l : List Int) (hr : (Kd.int .u8).C w A l.length l) (hc : l.length ≤ c) (hm : l.length ≤ maxLen) (hl : ∀ y ∈ l, (Lit.int .u8 y).wf = true) :
    Calls Try.prog 10 #[.slice A0 l0.length c0, .agg cs, .slice A l.length c] w fun e w' => e = .returned (.bool true) ∧ Below w.heap.size w w' := by
  obtain rfl := openedForm hk
  obtain ⟨k, h⟩ := DynBack' (okD_of hl0) (B_of hl) f.1 f.2
  exact bezantlaw10_DynBack.calls k A0 c0 l0 _ _ A c l true w hr0 hc0 hr hc h
end Go.Proofs.Yteohkpfacjjaeaa.DynLaw

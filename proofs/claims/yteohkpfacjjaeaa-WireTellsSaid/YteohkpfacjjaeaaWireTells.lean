/- The law WireTells' walk, from what its printed contract and the plain lemmas tell. -/
import Derived.Test.YteohkpfacjjaeaaPureWireTells
import Derived.Test.YteohkpfacjjaeaaOpens
namespace Go.Proofs.Yteohkpfacjjaeaa.WireLaw
open Go.RowKit Go.Proofs.YteohkpfacjjaeaaW.PrintWords Go.Proofs.YteohkpfacjjaeaaW.PrintLast Go.Proofs.YteohkpfacjjaeaaW.PrintMore Go.Proofs.Yteohkpfacjjaeaa.MWire Go.Proofs.Yteohkpfacjjaeaa.Opens
set_option linter.unusedVariables false
theorem walk (w : World) (A : Option Addr) (c : Nat) (l : List Int) (hr : (Kd.int .u8).C w A l.length l) (hc : l.length ≤ c) (hm : l.length ≤ maxLen) (hg : ∀ y ∈ l, (Lit.int .u8 y).wf = true)
    (a : Int) (ha : (Lit.int .u64 a).wf = true) (n : Int) (hn : (Lit.int .i64 n).wf = true) (big : Bool) (v : Int) (hv : (Lit.int .u64 v).wf = true) (s : Int) (hs : (Lit.int .u64 s).wf = true) :
    Calls Try.prog 7 #[.slice A l.length c, .int .u64 a, .int .i64 n, .bool big, .int .u64 v, .int .u64 s] w fun e w' => e = .returned (.bool true) ∧ Below w.heap.size w w' := by
  obtain ⟨k, h⟩ := Pure.WireTells' l a n big v s hm hg ha hn hv hs
  exact bezantlaw01_WireTells.calls k A c l _ _ _ _ _ true w hr hc h
end Go.Proofs.Yteohkpfacjjaeaa.WireLaw

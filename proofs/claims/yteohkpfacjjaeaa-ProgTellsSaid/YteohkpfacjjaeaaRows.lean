/-
  No cell of these rows narrows 'for every input' (looked for: loops, veiled, ifaces, maps, wideKeys, modest, calm, conditions, laid).
  DERIVED. THE GIVEN ROWS OF THIS SEAT. 11 by the template 'for every input the law returns true; each argument reads behind the call as it read before'; 0 by the template 'total and deterministic' (their statements: YteohkpfacjjaeaaTotals.lean).
  GIVEN WITH THE SEED: the statements are not yours to turn. If you find one false, say at which input.
  Laid BY PROGRAM, IN A SANDBOX (cutbox-rows.mjs): the forced cells as the released guide's own fill.sh prints them over the translation cfb672b270f72998… (all of the seat's roots in one cut). By AI agents, Wed Nov 11 2026. No macro, syntax, notation, axiom, sorry.
-/
import Derived.Test.YteohkpfacjjaeaaChecked
import GoSem.Claim
import GoSem.ClaimJoined
import GoSem.ClaimMapViews
import Derived.JoinedTies
import Derived.KernelRfl
namespace Go.Proofs.Yteohkpfacjjaeaa
/- THE CELL 'sum', in the pinned program and in every row, IS THE sha256 OF THE DUMP (.gsa) THAT YteohkpfacjjaeaaProg.lean LOADS. Nothing in Lean hashes anything: it is a label: what it is worth is what the hold of that sum in a sandbox is worth. -/
noncomputable def Try.pinned : Pinned := { name := "yteohkpfacjjaeaa", sum := "cfb672b270f72998da28c17592b7dc690f79cbaf666e1aad975b60fa63d67fc4", checked := Try.checked }
namespace Rows
def none {H : Type} : Left H := { results := [], args := [] }

/-- 'bezantlaw02.SpanTells': WHATEVER THE INPUT: true; the input reads as it did. -/
def spanTellsSpec : ChangeSpec := { name := "spanTells", fn := fun _ => fun
  | [d1, d2, d3] => { results := [.lit (.bool true)], args := [d1, d2, d3] }
  | _ => none }
def spanTellsRow : OpenClaim := { program := "yteohkpfacjjaeaa", sum := "cfb672b270f72998da28c17592b7dc690f79cbaf666e1aad975b60fa63d67fc4", func := "bezant/bezantlaw02.SpanTells", spec := "spanTells", apart := false }
def SpanTellsSaid : Prop := spanTellsRow.holds Try.pinned (OpenSpec.ofChange spanTellsSpec)

/-- ITS FALSE NEIGHBOUR: 'it returns false'. Refute it at one input. -/
def spanTellsWrong : ChangeSpec := { name := "spanTells", fn := fun _ => fun
  | [d1, d2, d3] => { results := [.lit (.bool false)], args := [d1, d2, d3] }
  | _ => none }
def SpanTellsWrongFalsely : Prop := spanTellsRow.holds Try.pinned (OpenSpec.ofChange spanTellsWrong)

/-- 'bezantlaw02.SpanApart': WHATEVER THE INPUT: true; the input reads as it did. -/
def spanApartSpec : ChangeSpec := { name := "spanApart", fn := fun _ => fun
  | [d1, d2, d3, d4] => { results := [.lit (.bool true)], args := [d1, d2, d3, d4] }
  | _ => none }
def spanApartRow : OpenClaim := { program := "yteohkpfacjjaeaa", sum := "cfb672b270f72998da28c17592b7dc690f79cbaf666e1aad975b60fa63d67fc4", func := "bezant/bezantlaw02.SpanApart", spec := "spanApart", apart := false }
def SpanApartSaid : Prop := spanApartRow.holds Try.pinned (OpenSpec.ofChange spanApartSpec)

/-- ITS FALSE NEIGHBOUR: 'it returns false'. Refute it at one input. -/
def spanApartWrong : ChangeSpec := { name := "spanApart", fn := fun _ => fun
  | [d1, d2, d3, d4] => { results := [.lit (.bool false)], args := [d1, d2, d3, d4] }
  | _ => none }
def SpanApartWrongFalsely : Prop := spanApartRow.holds Try.pinned (OpenSpec.ofChange spanApartWrong)

/-- 'bezantlaw03.IdentTells': WHATEVER THE INPUT: true; the input reads as it did. -/
def identTellsSpec : ChangeSpec := { name := "identTells", fn := fun _ => fun
  | [d1, d2] => { results := [.lit (.bool true)], args := [d1, d2] }
  | _ => none }
def identTellsRow : OpenClaim := { program := "yteohkpfacjjaeaa", sum := "cfb672b270f72998da28c17592b7dc690f79cbaf666e1aad975b60fa63d67fc4", func := "bezant/bezantlaw03.IdentTells", spec := "identTells", apart := false }
def IdentTellsSaid : Prop := identTellsRow.holds Try.pinned (OpenSpec.ofChange identTellsSpec)

/-- ITS FALSE NEIGHBOUR: 'it returns false'. Refute it at one input. -/
def identTellsWrong : ChangeSpec := { name := "identTells", fn := fun _ => fun
  | [d1, d2] => { results := [.lit (.bool false)], args := [d1, d2] }
  | _ => none }
def IdentTellsWrongFalsely : Prop := identTellsRow.holds Try.pinned (OpenSpec.ofChange identTellsWrong)

/-- 'bezantlaw03.IdentBack': WHATEVER THE INPUT: true; the input reads as it did. -/
def identBackSpec : ChangeSpec := { name := "identBack", fn := fun _ => fun
  | [d1, d2, d3, d4] => { results := [.lit (.bool true)], args := [d1, d2, d3, d4] }
  | _ => none }
def identBackRow : OpenClaim := { program := "yteohkpfacjjaeaa", sum := "cfb672b270f72998da28c17592b7dc690f79cbaf666e1aad975b60fa63d67fc4", func := "bezant/bezantlaw03.IdentBack", spec := "identBack", apart := false }
def IdentBackSaid : Prop := identBackRow.holds Try.pinned (OpenSpec.ofChange identBackSpec)

/-- ITS FALSE NEIGHBOUR: 'it returns false'. Refute it at one input. -/
def identBackWrong : ChangeSpec := { name := "identBack", fn := fun _ => fun
  | [d1, d2, d3, d4] => { results := [.lit (.bool false)], args := [d1, d2, d3, d4] }
  | _ => none }
def IdentBackWrongFalsely : Prop := identBackRow.holds Try.pinned (OpenSpec.ofChange identBackWrong)

/-- 'bezantlaw01.WireTells': WHATEVER THE INPUT: true; the input reads as it did. -/
def wireTellsSpec : ChangeSpec := { name := "wireTells", fn := fun _ => fun
  | [d1, d2, d3, d4, d5, d6] => { results := [.lit (.bool true)], args := [d1, d2, d3, d4, d5, d6] }
  | _ => none }
def wireTellsRow : OpenClaim := { program := "yteohkpfacjjaeaa", sum := "cfb672b270f72998da28c17592b7dc690f79cbaf666e1aad975b60fa63d67fc4", func := "bezant/bezantlaw01.WireTells", spec := "wireTells", apart := false }
def WireTellsSaid : Prop := wireTellsRow.holds Try.pinned (OpenSpec.ofChange wireTellsSpec)

/-- ITS FALSE NEIGHBOUR: 'it returns false'. Refute it at one input. -/
def wireTellsWrong : ChangeSpec := { name := "wireTells", fn := fun _ => fun
  | [d1, d2, d3, d4, d5, d6] => { results := [.lit (.bool false)], args := [d1, d2, d3, d4, d5, d6] }
  | _ => none }
def WireTellsWrongFalsely : Prop := wireTellsRow.holds Try.pinned (OpenSpec.ofChange wireTellsWrong)

/-- 'bezantlaw01.WireTurned': WHATEVER THE INPUT: true; the input reads as it did. -/
def wireTurnedSpec : ChangeSpec := { name := "wireTurned", fn := fun _ => fun
  | [d1, d2, d3, d4, d5] => { results := [.lit (.bool true)], args := [d1, d2, d3, d4, d5] }
  | _ => none }
def wireTurnedRow : OpenClaim := { program := "yteohkpfacjjaeaa", sum := "cfb672b270f72998da28c17592b7dc690f79cbaf666e1aad975b60fa63d67fc4", func := "bezant/bezantlaw01.WireTurned", spec := "wireTurned", apart := false }
def WireTurnedSaid : Prop := wireTurnedRow.holds Try.pinned (OpenSpec.ofChange wireTurnedSpec)

/-- ITS FALSE NEIGHBOUR: 'it returns false'. Refute it at one input. -/
def wireTurnedWrong : ChangeSpec := { name := "wireTurned", fn := fun _ => fun
  | [d1, d2, d3, d4, d5] => { results := [.lit (.bool false)], args := [d1, d2, d3, d4, d5] }
  | _ => none }
def WireTurnedWrongFalsely : Prop := wireTurnedRow.holds Try.pinned (OpenSpec.ofChange wireTurnedWrong)

/-- 'bezantlaw10.DynTells': WHATEVER THE INPUT: true; the input reads as it did. -/
def dynTellsSpec : ChangeSpec := { name := "dynTells", fn := fun _ => fun
  | [d1, d2, d3, d4] => { results := [.lit (.bool true)], args := [d1, d2, d3, d4] }
  | _ => none }
def dynTellsRow : OpenClaim := { program := "yteohkpfacjjaeaa", sum := "cfb672b270f72998da28c17592b7dc690f79cbaf666e1aad975b60fa63d67fc4", func := "bezant/bezantlaw10.DynTells", spec := "dynTells", apart := false }
def DynTellsSaid : Prop := dynTellsRow.holds Try.pinned (OpenSpec.ofChange dynTellsSpec)

/-- ITS FALSE NEIGHBOUR: 'it returns false'. Refute it at one input. -/
def dynTellsWrong : ChangeSpec := { name := "dynTells", fn := fun _ => fun
  | [d1, d2, d3, d4] => { results := [.lit (.bool false)], args := [d1, d2, d3, d4] }
  | _ => none }
def DynTellsWrongFalsely : Prop := dynTellsRow.holds Try.pinned (OpenSpec.ofChange dynTellsWrong)

/-- 'bezantlaw10.DynBack': WHATEVER THE INPUT: true; the input reads as it did. -/
def dynBackSpec : ChangeSpec := { name := "dynBack", fn := fun _ => fun
  | [d1, d2, d3] => { results := [.lit (.bool true)], args := [d1, d2, d3] }
  | _ => none }
def dynBackRow : OpenClaim := { program := "yteohkpfacjjaeaa", sum := "cfb672b270f72998da28c17592b7dc690f79cbaf666e1aad975b60fa63d67fc4", func := "bezant/bezantlaw10.DynBack", spec := "dynBack", apart := false }
def DynBackSaid : Prop := dynBackRow.holds Try.pinned (OpenSpec.ofChange dynBackSpec)

/-- ITS FALSE NEIGHBOUR: 'it returns false'. Refute it at one input. -/
def dynBackWrong : ChangeSpec := { name := "dynBack", fn := fun _ => fun
  | [d1, d2, d3] => { results := [.lit (.bool false)], args := [d1, d2, d3] }
  | _ => none }
def DynBackWrongFalsely : Prop := dynBackRow.holds Try.pinned (OpenSpec.ofChange dynBackWrong)

/-- 'bezantlaw06.SectTells': WHATEVER THE INPUT: true; the input reads as it did. -/
def sectTellsSpec : ChangeSpec := { name := "sectTells", fn := fun _ => fun
  | [d1, d2, d3, d4] => { results := [.lit (.bool true)], args := [d1, d2, d3, d4] }
  | _ => none }
def sectTellsRow : OpenClaim := { program := "yteohkpfacjjaeaa", sum := "cfb672b270f72998da28c17592b7dc690f79cbaf666e1aad975b60fa63d67fc4", func := "bezant/bezantlaw06.SectTells", spec := "sectTells", unfollowed := true, recurses := true, apart := false }
def SectTellsSaid : Prop := sectTellsRow.holds Try.pinned (OpenSpec.ofChange sectTellsSpec)

/-- ITS FALSE NEIGHBOUR: 'it returns false'. Refute it at one input. -/
def sectTellsWrong : ChangeSpec := { name := "sectTells", fn := fun _ => fun
  | [d1, d2, d3, d4] => { results := [.lit (.bool false)], args := [d1, d2, d3, d4] }
  | _ => none }
def SectTellsWrongFalsely : Prop := sectTellsRow.holds Try.pinned (OpenSpec.ofChange sectTellsWrong)

/-- 'bezantlaw06.SectBack': WHATEVER THE INPUT: true; the input reads as it did. -/
def sectBackSpec : ChangeSpec := { name := "sectBack", fn := fun _ => fun
  | [d1, d2, d3, d4] => { results := [.lit (.bool true)], args := [d1, d2, d3, d4] }
  | _ => none }
def sectBackRow : OpenClaim := { program := "yteohkpfacjjaeaa", sum := "cfb672b270f72998da28c17592b7dc690f79cbaf666e1aad975b60fa63d67fc4", func := "bezant/bezantlaw06.SectBack", spec := "sectBack", unfollowed := true, recurses := true, apart := false }
def SectBackSaid : Prop := sectBackRow.holds Try.pinned (OpenSpec.ofChange sectBackSpec)

/-- ITS FALSE NEIGHBOUR: 'it returns false'. Refute it at one input. -/
def sectBackWrong : ChangeSpec := { name := "sectBack", fn := fun _ => fun
  | [d1, d2, d3, d4] => { results := [.lit (.bool false)], args := [d1, d2, d3, d4] }
  | _ => none }
def SectBackWrongFalsely : Prop := sectBackRow.holds Try.pinned (OpenSpec.ofChange sectBackWrong)

/-- 'bezantlaw05.ProgTells': WHATEVER THE INPUT: true; the input reads as it did. -/
def progTellsSpec : ChangeSpec := { name := "progTells", fn := fun _ => fun
  | [d1, d2, d3, d4] => { results := [.lit (.bool true)], args := [d1, d2, d3, d4] }
  | _ => none }
def progTellsRow : OpenClaim := { program := "yteohkpfacjjaeaa", sum := "cfb672b270f72998da28c17592b7dc690f79cbaf666e1aad975b60fa63d67fc4", func := "bezant/bezantlaw05.ProgTells", spec := "progTells", unfollowed := true, recurses := true, apart := false }
def ProgTellsSaid : Prop := progTellsRow.holds Try.pinned (OpenSpec.ofChange progTellsSpec)

/-- ITS FALSE NEIGHBOUR: 'it returns false'. Refute it at one input. -/
def progTellsWrong : ChangeSpec := { name := "progTells", fn := fun _ => fun
  | [d1, d2, d3, d4] => { results := [.lit (.bool false)], args := [d1, d2, d3, d4] }
  | _ => none }
def ProgTellsWrongFalsely : Prop := progTellsRow.holds Try.pinned (OpenSpec.ofChange progTellsWrong)

/- THE SECOND FORM. 'bulk': how many values and letters a reading holds, each counted each time it is reached (what is shared counts as often as it is met; a slice's spare places count too). A statement '..UptoSaid' is the law's where the arguments, and the package variables that the reading takes, are together of bulk at most 1048576: NARROWER than '..Said'. Prove '..Said' where nothing that the law and all that it calls make is longer than what came in: it says more and counts as full. Else prove '..UptoSaid'. A law counts once. -/
mutual
def uptoBulk {H : Type} : DataW H → Nat
  | .lit (.string bytes) => bytes.length + 1
  | .lit _ => 1
  | .nil => 1
  | .ptr d => uptoBulk d + 1
  | .slice elems spare => uptoBulkAll elems + uptoBulkAll spare + 1
  | .agg parts => uptoBulkAll parts + 1
  | .iface _ d => uptoBulk d + 1
  | .map entries => uptoBulkEntries entries + 1
  | .held _ => 1
def uptoBulkAll {H : Type} : List (DataW H) → Nat
  | [] => 0
  | d :: r => uptoBulk d + uptoBulkAll r
def uptoBulkEntries {H : Type} : List (Lit × DataW H) → Nat
  | [] => 0
  | x :: r => uptoBulkEntry x + uptoBulkEntries r
def uptoBulkEntry {H : Type} : Lit × DataW H → Nat
  | (.string bytes, d) => bytes.length + uptoBulk d + 1
  | (_, d) => uptoBulk d + 1
 end
def uptoSmall : (H : Type) → List (DataW H) → Bool := fun _ ds => decide (uptoBulkAll ds ≤ 1048576)
def OpenSpec.upto (s : _root_.Go.ChangeSpec) : _root_.Go.OpenSpec := { _root_.Go.OpenSpec.ofChange s with cond := some uptoSmall }

/-- 'bezantlaw02.SpanTells', WHERE WHAT IT READS IS OF BULK AT MOST 1048576: true; the input reads as it did. -/
def spanTellsUptoRow : OpenClaim := { program := "yteohkpfacjjaeaa", sum := "cfb672b270f72998da28c17592b7dc690f79cbaf666e1aad975b60fa63d67fc4", func := "bezant/bezantlaw02.SpanTells", spec := "spanTells", apart := false, narrowed := true }
def SpanTellsUptoSaid : Prop := spanTellsUptoRow.holds Try.pinned (OpenSpec.upto spanTellsSpec)

/-- 'bezantlaw02.SpanApart', WHERE WHAT IT READS IS OF BULK AT MOST 1048576: true; the input reads as it did. -/
def spanApartUptoRow : OpenClaim := { program := "yteohkpfacjjaeaa", sum := "cfb672b270f72998da28c17592b7dc690f79cbaf666e1aad975b60fa63d67fc4", func := "bezant/bezantlaw02.SpanApart", spec := "spanApart", apart := false, narrowed := true }
def SpanApartUptoSaid : Prop := spanApartUptoRow.holds Try.pinned (OpenSpec.upto spanApartSpec)

/-- 'bezantlaw03.IdentTells', WHERE WHAT IT READS IS OF BULK AT MOST 1048576: true; the input reads as it did. -/
def identTellsUptoRow : OpenClaim := { program := "yteohkpfacjjaeaa", sum := "cfb672b270f72998da28c17592b7dc690f79cbaf666e1aad975b60fa63d67fc4", func := "bezant/bezantlaw03.IdentTells", spec := "identTells", apart := false, narrowed := true }
def IdentTellsUptoSaid : Prop := identTellsUptoRow.holds Try.pinned (OpenSpec.upto identTellsSpec)

/-- 'bezantlaw03.IdentBack', WHERE WHAT IT READS IS OF BULK AT MOST 1048576: true; the input reads as it did. -/
def identBackUptoRow : OpenClaim := { program := "yteohkpfacjjaeaa", sum := "cfb672b270f72998da28c17592b7dc690f79cbaf666e1aad975b60fa63d67fc4", func := "bezant/bezantlaw03.IdentBack", spec := "identBack", apart := false, narrowed := true }
def IdentBackUptoSaid : Prop := identBackUptoRow.holds Try.pinned (OpenSpec.upto identBackSpec)

/-- 'bezantlaw01.WireTells', WHERE WHAT IT READS IS OF BULK AT MOST 1048576: true; the input reads as it did. -/
def wireTellsUptoRow : OpenClaim := { program := "yteohkpfacjjaeaa", sum := "cfb672b270f72998da28c17592b7dc690f79cbaf666e1aad975b60fa63d67fc4", func := "bezant/bezantlaw01.WireTells", spec := "wireTells", apart := false, narrowed := true }
def WireTellsUptoSaid : Prop := wireTellsUptoRow.holds Try.pinned (OpenSpec.upto wireTellsSpec)

/-- 'bezantlaw01.WireTurned', WHERE WHAT IT READS IS OF BULK AT MOST 1048576: true; the input reads as it did. -/
def wireTurnedUptoRow : OpenClaim := { program := "yteohkpfacjjaeaa", sum := "cfb672b270f72998da28c17592b7dc690f79cbaf666e1aad975b60fa63d67fc4", func := "bezant/bezantlaw01.WireTurned", spec := "wireTurned", apart := false, narrowed := true }
def WireTurnedUptoSaid : Prop := wireTurnedUptoRow.holds Try.pinned (OpenSpec.upto wireTurnedSpec)

/-- 'bezantlaw10.DynTells', WHERE WHAT IT READS IS OF BULK AT MOST 1048576: true; the input reads as it did. -/
def dynTellsUptoRow : OpenClaim := { program := "yteohkpfacjjaeaa", sum := "cfb672b270f72998da28c17592b7dc690f79cbaf666e1aad975b60fa63d67fc4", func := "bezant/bezantlaw10.DynTells", spec := "dynTells", apart := false, narrowed := true }
def DynTellsUptoSaid : Prop := dynTellsUptoRow.holds Try.pinned (OpenSpec.upto dynTellsSpec)

/-- 'bezantlaw10.DynBack', WHERE WHAT IT READS IS OF BULK AT MOST 1048576: true; the input reads as it did. -/
def dynBackUptoRow : OpenClaim := { program := "yteohkpfacjjaeaa", sum := "cfb672b270f72998da28c17592b7dc690f79cbaf666e1aad975b60fa63d67fc4", func := "bezant/bezantlaw10.DynBack", spec := "dynBack", apart := false, narrowed := true }
def DynBackUptoSaid : Prop := dynBackUptoRow.holds Try.pinned (OpenSpec.upto dynBackSpec)

/-- 'bezantlaw06.SectTells', WHERE WHAT IT READS IS OF BULK AT MOST 1048576: true; the input reads as it did. -/
def sectTellsUptoRow : OpenClaim := { program := "yteohkpfacjjaeaa", sum := "cfb672b270f72998da28c17592b7dc690f79cbaf666e1aad975b60fa63d67fc4", func := "bezant/bezantlaw06.SectTells", spec := "sectTells", unfollowed := true, recurses := true, apart := false, narrowed := true }
def SectTellsUptoSaid : Prop := sectTellsUptoRow.holds Try.pinned (OpenSpec.upto sectTellsSpec)

/-- 'bezantlaw06.SectBack', WHERE WHAT IT READS IS OF BULK AT MOST 1048576: true; the input reads as it did. -/
def sectBackUptoRow : OpenClaim := { program := "yteohkpfacjjaeaa", sum := "cfb672b270f72998da28c17592b7dc690f79cbaf666e1aad975b60fa63d67fc4", func := "bezant/bezantlaw06.SectBack", spec := "sectBack", unfollowed := true, recurses := true, apart := false, narrowed := true }
def SectBackUptoSaid : Prop := sectBackUptoRow.holds Try.pinned (OpenSpec.upto sectBackSpec)

/-- 'bezantlaw05.ProgTells', WHERE WHAT IT READS IS OF BULK AT MOST 1048576: true; the input reads as it did. -/
def progTellsUptoRow : OpenClaim := { program := "yteohkpfacjjaeaa", sum := "cfb672b270f72998da28c17592b7dc690f79cbaf666e1aad975b60fa63d67fc4", func := "bezant/bezantlaw05.ProgTells", spec := "progTells", unfollowed := true, recurses := true, apart := false, narrowed := true }
def ProgTellsUptoSaid : Prop := progTellsUptoRow.holds Try.pinned (OpenSpec.upto progTellsSpec)

end Rows
end Go.Proofs.Yteohkpfacjjaeaa

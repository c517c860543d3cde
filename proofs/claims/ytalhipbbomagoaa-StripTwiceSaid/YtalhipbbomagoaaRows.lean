/-
  No cell of these rows narrows 'for every input' (looked for: loops, veiled, ifaces, maps, wideKeys, modest, calm, conditions, laid).
  DERIVED. THE GIVEN ROWS OF THIS SEAT. 7 by the template 'for every input the law returns true; each argument reads behind the call as it read before'; 0 by the template 'total and deterministic' (their statements: YtalhipbbomagoaaTotals.lean).
  GIVEN WITH THE SEED: the statements are not yours to turn. If you find one false, say at which input.
  Laid BY PROGRAM, IN A SANDBOX (cutbox-rows.mjs): the forced cells as the released guide's own fill.sh prints them over the translation 2135132bc3fceeb6… (all of the seat's roots in one cut). By AI agents, Wed Nov 11 2026. No macro, syntax, notation, axiom, sorry.
-/
import Derived.Test.YtalhipbbomagoaaChecked
import GoSem.Claim
import GoSem.ClaimJoined
import GoSem.ClaimMapViews
import Derived.JoinedTies
import Derived.KernelRfl
namespace Go.Proofs.Ytalhipbbomagoaa
/- THE CELL 'sum', in the pinned program and in every row, IS THE sha256 OF THE DUMP (.gsa) THAT YtalhipbbomagoaaProg.lean LOADS. Nothing in Lean hashes anything: it is a label: what it is worth is what the hold of that sum in a sandbox is worth. -/
noncomputable def Try.pinned : Pinned := { name := "ytalhipbbomagoaa", sum := "2135132bc3fceeb635e950b506830ab95653cbe119fe55227bc752dc9181ff1c", checked := Try.checked }
namespace Rows
def none {H : Type} : Left H := { results := [], args := [] }

/-- 'bezantlaw18.StripTells': WHATEVER THE INPUT: true; the input reads as it did. -/
def stripTellsSpec : ChangeSpec := { name := "stripTells", fn := fun _ => fun
  | [d] => { results := [.lit (.bool true)], args := [d] }
  | _ => none }
def stripTellsRow : OpenClaim := { program := "ytalhipbbomagoaa", sum := "2135132bc3fceeb635e950b506830ab95653cbe119fe55227bc752dc9181ff1c", func := "bezant/bezantlaw18.StripTells", spec := "stripTells", inPlace := ["internal/bytealg.IndexByte", "internal/bytealg.Index"], named := ["internal/bytealg.MaxLen"], apart := false }
def StripTellsSaid : Prop := stripTellsRow.holds Try.pinned (OpenSpec.ofChange stripTellsSpec)

/-- ITS FALSE NEIGHBOUR: 'it returns false'. Refute it at one input. -/
def stripTellsWrong : ChangeSpec := { name := "stripTells", fn := fun _ => fun
  | [d] => { results := [.lit (.bool false)], args := [d] }
  | _ => none }
def StripTellsWrongFalsely : Prop := stripTellsRow.holds Try.pinned (OpenSpec.ofChange stripTellsWrong)

/-- 'bezantlaw19.RebaseTells': WHATEVER THE INPUT: true; the input reads as it did. -/
def rebaseTellsSpec : ChangeSpec := { name := "rebaseTells", fn := fun _ => fun
  | [d1, d2] => { results := [.lit (.bool true)], args := [d1, d2] }
  | _ => none }
def rebaseTellsRow : OpenClaim := { program := "ytalhipbbomagoaa", sum := "2135132bc3fceeb635e950b506830ab95653cbe119fe55227bc752dc9181ff1c", func := "bezant/bezantlaw19.RebaseTells", spec := "rebaseTells", unfollowed := true, recurses := true, apart := false }
def RebaseTellsSaid : Prop := rebaseTellsRow.holds Try.pinned (OpenSpec.ofChange rebaseTellsSpec)

/-- ITS FALSE NEIGHBOUR: 'it returns false'. Refute it at one input. -/
def rebaseTellsWrong : ChangeSpec := { name := "rebaseTells", fn := fun _ => fun
  | [d1, d2] => { results := [.lit (.bool false)], args := [d1, d2] }
  | _ => none }
def RebaseTellsWrongFalsely : Prop := rebaseTellsRow.holds Try.pinned (OpenSpec.ofChange rebaseTellsWrong)

/-- 'bezantlaw14.ModelBare': WHATEVER THE INPUT: true; the input reads as it did. -/
def modelBareSpec : ChangeSpec := { name := "modelBare", fn := fun _ => fun
  | [d] => { results := [.lit (.bool true)], args := [d] }
  | _ => none }
def modelBareRow : OpenClaim := { program := "ytalhipbbomagoaa", sum := "2135132bc3fceeb635e950b506830ab95653cbe119fe55227bc752dc9181ff1c", func := "bezant/bezantlaw14.ModelBare", spec := "modelBare", inPlace := ["internal/bytealg.IndexByte", "internal/bytealg.Index"], unfollowed := true, recurses := true, named := ["internal/bytealg.MaxLen"], apart := false }
def ModelBareSaid : Prop := modelBareRow.holds Try.pinned (OpenSpec.ofChange modelBareSpec)

/-- ITS FALSE NEIGHBOUR: 'it returns false'. Refute it at one input. -/
def modelBareWrong : ChangeSpec := { name := "modelBare", fn := fun _ => fun
  | [d] => { results := [.lit (.bool false)], args := [d] }
  | _ => none }
def ModelBareWrongFalsely : Prop := modelBareRow.holds Try.pinned (OpenSpec.ofChange modelBareWrong)

/-- 'bezantlaw15.PlanTells': WHATEVER THE INPUT: true; the input reads as it did. -/
def planTellsSpec : ChangeSpec := { name := "planTells", fn := fun _ => fun
  | [d] => { results := [.lit (.bool true)], args := [d] }
  | _ => none }
def planTellsRow : OpenClaim := { program := "ytalhipbbomagoaa", sum := "2135132bc3fceeb635e950b506830ab95653cbe119fe55227bc752dc9181ff1c", func := "bezant/bezantlaw15.PlanTells", spec := "planTells", inPlace := ["internal/bytealg.IndexByte", "internal/bytealg.Index"], unfollowed := true, recurses := true, named := ["internal/bytealg.MaxLen"], apart := false }
def PlanTellsSaid : Prop := planTellsRow.holds Try.pinned (OpenSpec.ofChange planTellsSpec)

/-- ITS FALSE NEIGHBOUR: 'it returns false'. Refute it at one input. -/
def planTellsWrong : ChangeSpec := { name := "planTells", fn := fun _ => fun
  | [d] => { results := [.lit (.bool false)], args := [d] }
  | _ => none }
def PlanTellsWrongFalsely : Prop := planTellsRow.holds Try.pinned (OpenSpec.ofChange planTellsWrong)

/-- 'bezantlaw15.PlanApart': WHATEVER THE INPUT: true; the input reads as it did. -/
def planApartSpec : ChangeSpec := { name := "planApart", fn := fun _ => fun
  | [d] => { results := [.lit (.bool true)], args := [d] }
  | _ => none }
def planApartRow : OpenClaim := { program := "ytalhipbbomagoaa", sum := "2135132bc3fceeb635e950b506830ab95653cbe119fe55227bc752dc9181ff1c", func := "bezant/bezantlaw15.PlanApart", spec := "planApart", inPlace := ["internal/bytealg.IndexByte", "internal/bytealg.Index"], unfollowed := true, recurses := true, named := ["internal/bytealg.MaxLen"], apart := false }
def PlanApartSaid : Prop := planApartRow.holds Try.pinned (OpenSpec.ofChange planApartSpec)

/-- ITS FALSE NEIGHBOUR: 'it returns false'. Refute it at one input. -/
def planApartWrong : ChangeSpec := { name := "planApart", fn := fun _ => fun
  | [d] => { results := [.lit (.bool false)], args := [d] }
  | _ => none }
def PlanApartWrongFalsely : Prop := planApartRow.holds Try.pinned (OpenSpec.ofChange planApartWrong)

/-- 'bezantlaw18.StripTwice': WHATEVER THE INPUT: true; the input reads as it did. -/
def stripTwiceSpec : ChangeSpec := { name := "stripTwice", fn := fun _ => fun
  | [d] => { results := [.lit (.bool true)], args := [d] }
  | _ => none }
def stripTwiceRow : OpenClaim := { program := "ytalhipbbomagoaa", sum := "2135132bc3fceeb635e950b506830ab95653cbe119fe55227bc752dc9181ff1c", func := "bezant/bezantlaw18.StripTwice", spec := "stripTwice", inPlace := ["internal/bytealg.IndexByte", "internal/bytealg.Index"], unfollowed := true, recurses := true, named := ["internal/bytealg.MaxLen"], apart := false }
def StripTwiceSaid : Prop := stripTwiceRow.holds Try.pinned (OpenSpec.ofChange stripTwiceSpec)

/-- ITS FALSE NEIGHBOUR: 'it returns false'. Refute it at one input. -/
def stripTwiceWrong : ChangeSpec := { name := "stripTwice", fn := fun _ => fun
  | [d] => { results := [.lit (.bool false)], args := [d] }
  | _ => none }
def StripTwiceWrongFalsely : Prop := stripTwiceRow.holds Try.pinned (OpenSpec.ofChange stripTwiceWrong)

/-- 'bezantlaw19.RebaseMoves': WHATEVER THE INPUT: true; the input reads as it did. -/
def rebaseMovesSpec : ChangeSpec := { name := "rebaseMoves", fn := fun _ => fun
  | [d1, d2, d3] => { results := [.lit (.bool true)], args := [d1, d2, d3] }
  | _ => none }
def rebaseMovesRow : OpenClaim := { program := "ytalhipbbomagoaa", sum := "2135132bc3fceeb635e950b506830ab95653cbe119fe55227bc752dc9181ff1c", func := "bezant/bezantlaw19.RebaseMoves", spec := "rebaseMoves", inPlace := ["internal/bytealg.IndexByte", "internal/bytealg.Index"], unfollowed := true, recurses := true, named := ["internal/bytealg.MaxLen"], apart := false }
def RebaseMovesSaid : Prop := rebaseMovesRow.holds Try.pinned (OpenSpec.ofChange rebaseMovesSpec)

/-- ITS FALSE NEIGHBOUR: 'it returns false'. Refute it at one input. -/
def rebaseMovesWrong : ChangeSpec := { name := "rebaseMoves", fn := fun _ => fun
  | [d1, d2, d3] => { results := [.lit (.bool false)], args := [d1, d2, d3] }
  | _ => none }
def RebaseMovesWrongFalsely : Prop := rebaseMovesRow.holds Try.pinned (OpenSpec.ofChange rebaseMovesWrong)

/- THE SECOND FORM. 'bulk': how many values and letters a reading holds, each counted each time it is reached (what is shared counts as often as it is met; a slice's spare places count too). A statement '..UptoSaid' is the law's where the arguments, and the package variables that the reading takes, are together of bulk at most 1048576: NARROWER than '..Said'. Prove '..Said' where nothing that the law and all that it calls make is longer than what came in: it says more and counts as full. Else prove '..UptoSaid'. A law counts once. -/
mutual
def uptoBulk {H : Type} : DataW H → Nat
  | .lit (.string bytes) => bytes.length + 1
  | .lit _ => 1
  | .nil => 1
  | .ptr d => uptoBulk d + 1
  | .slice elems spare => uptoBulkAll elems + uptoBulkAll spare + 1
  | .agg parts => uptoBulkAll parts + 1
  | .iface _ d => uptoBulk d + 1
  | .map entries => uptoBulkEntries entries + 1
  | .held _ => 1
def uptoBulkAll {H : Type} : List (DataW H) → Nat
  | [] => 0
  | d :: r => uptoBulk d + uptoBulkAll r
def uptoBulkEntries {H : Type} : List (Lit × DataW H) → Nat
  | [] => 0
  | x :: r => uptoBulkEntry x + uptoBulkEntries r
def uptoBulkEntry {H : Type} : Lit × DataW H → Nat
  | (.string bytes, d) => bytes.length + uptoBulk d + 1
  | (_, d) => uptoBulk d + 1
 end
def uptoSmall : (H : Type) → List (DataW H) → Bool := fun _ ds => decide (uptoBulkAll ds ≤ 1048576)
def OpenSpec.upto (s : _root_.Go.ChangeSpec) : _root_.Go.OpenSpec := { _root_.Go.OpenSpec.ofChange s with cond := some uptoSmall }

/-- 'bezantlaw18.StripTells', WHERE WHAT IT READS IS OF BULK AT MOST 1048576: true; the input reads as it did. -/
def stripTellsUptoRow : OpenClaim := { program := "ytalhipbbomagoaa", sum := "2135132bc3fceeb635e950b506830ab95653cbe119fe55227bc752dc9181ff1c", func := "bezant/bezantlaw18.StripTells", spec := "stripTells", inPlace := ["internal/bytealg.IndexByte", "internal/bytealg.Index"], named := ["internal/bytealg.MaxLen"], apart := false, narrowed := true }
def StripTellsUptoSaid : Prop := stripTellsUptoRow.holds Try.pinned (OpenSpec.upto stripTellsSpec)

/-- 'bezantlaw19.RebaseTells', WHERE WHAT IT READS IS OF BULK AT MOST 1048576: true; the input reads as it did. -/
def rebaseTellsUptoRow : OpenClaim := { program := "ytalhipbbomagoaa", sum := "2135132bc3fceeb635e950b506830ab95653cbe119fe55227bc752dc9181ff1c", func := "bezant/bezantlaw19.RebaseTells", spec := "rebaseTells", unfollowed := true, recurses := true, apart := false, narrowed := true }
def RebaseTellsUptoSaid : Prop := rebaseTellsUptoRow.holds Try.pinned (OpenSpec.upto rebaseTellsSpec)

/-- 'bezantlaw14.ModelBare', WHERE WHAT IT READS IS OF BULK AT MOST 1048576: true; the input reads as it did. -/
def modelBareUptoRow : OpenClaim := { program := "ytalhipbbomagoaa", sum := "2135132bc3fceeb635e950b506830ab95653cbe119fe55227bc752dc9181ff1c", func := "bezant/bezantlaw14.ModelBare", spec := "modelBare", inPlace := ["internal/bytealg.IndexByte", "internal/bytealg.Index"], unfollowed := true, recurses := true, named := ["internal/bytealg.MaxLen"], apart := false, narrowed := true }
def ModelBareUptoSaid : Prop := modelBareUptoRow.holds Try.pinned (OpenSpec.upto modelBareSpec)

/-- 'bezantlaw15.PlanTells', WHERE WHAT IT READS IS OF BULK AT MOST 1048576: true; the input reads as it did. -/
def planTellsUptoRow : OpenClaim := { program := "ytalhipbbomagoaa", sum := "2135132bc3fceeb635e950b506830ab95653cbe119fe55227bc752dc9181ff1c", func := "bezant/bezantlaw15.PlanTells", spec := "planTells", inPlace := ["internal/bytealg.IndexByte", "internal/bytealg.Index"], unfollowed := true, recurses := true, named := ["internal/bytealg.MaxLen"], apart := false, narrowed := true }
def PlanTellsUptoSaid : Prop := planTellsUptoRow.holds Try.pinned (OpenSpec.upto planTellsSpec)

/-- 'bezantlaw15.PlanApart', WHERE WHAT IT READS IS OF BULK AT MOST 1048576: true; the input reads as it did. -/
def planApartUptoRow : OpenClaim := { program := "ytalhipbbomagoaa", sum := "2135132bc3fceeb635e950b506830ab95653cbe119fe55227bc752dc9181ff1c", func := "bezant/bezantlaw15.PlanApart", spec := "planApart", inPlace := ["internal/bytealg.IndexByte", "internal/bytealg.Index"], unfollowed := true, recurses := true, named := ["internal/bytealg.MaxLen"], apart := false, narrowed := true }
def PlanApartUptoSaid : Prop := planApartUptoRow.holds Try.pinned (OpenSpec.upto planApartSpec)

/-- 'bezantlaw18.StripTwice', WHERE WHAT IT READS IS OF BULK AT MOST 1048576: true; the input reads as it did. -/
def stripTwiceUptoRow : OpenClaim := { program := "ytalhipbbomagoaa", sum := "2135132bc3fceeb635e950b506830ab95653cbe119fe55227bc752dc9181ff1c", func := "bezant/bezantlaw18.StripTwice", spec := "stripTwice", inPlace := ["internal/bytealg.IndexByte", "internal/bytealg.Index"], unfollowed := true, recurses := true, named := ["internal/bytealg.MaxLen"], apart := false, narrowed := true }
def StripTwiceUptoSaid : Prop := stripTwiceUptoRow.holds Try.pinned (OpenSpec.upto stripTwiceSpec)

/-- 'bezantlaw19.RebaseMoves', WHERE WHAT IT READS IS OF BULK AT MOST 1048576: true; the input reads as it did. -/
def rebaseMovesUptoRow : OpenClaim := { program := "ytalhipbbomagoaa", sum := "2135132bc3fceeb635e950b506830ab95653cbe119fe55227bc752dc9181ff1c", func := "bezant/bezantlaw19.RebaseMoves", spec := "rebaseMoves", inPlace := ["internal/bytealg.IndexByte", "internal/bytealg.Index"], unfollowed := true, recurses := true, named := ["internal/bytealg.MaxLen"], apart := false, narrowed := true }
def RebaseMovesUptoSaid : Prop := rebaseMovesUptoRow.holds Try.pinned (OpenSpec.upto rebaseMovesSpec)

end Rows
end Go.Proofs.Ytalhipbbomagoaa

/-
  No cell of these rows narrows 'for every input' (looked for: loops, veiled, ifaces, maps, wideKeys, modest, calm, conditions, laid).
  DERIVED. THE GIVEN ROWS OF THIS SEAT. 10 by the template 'for every input the law returns true; each argument reads behind the call as it read before'; 0 by the template 'total and deterministic' (their statements: YteohkpfacjjaeabTotals.lean).
  GIVEN WITH THE SEED: the statements are not yours to turn. If you find one false, say at which input.
  Laid BY PROGRAM, IN A SANDBOX (cutbox-rows.mjs): the forced cells as the released guide's own fill.sh prints them over the translation 7e4ff7a6c590be6b… (all of the seat's roots in one cut). By AI agents, Wed Nov 11 2026. No macro, syntax, notation, axiom, sorry.
-/
import Derived.Test.YteohkpfacjjaeabChecked
import GoSem.Claim
import GoSem.ClaimJoined
import GoSem.ClaimMapViews
import Derived.JoinedTies
import Derived.KernelRfl
namespace Go.Proofs.Yteohkpfacjjaeab
/- THE CELL 'sum', in the pinned program and in every row, IS THE sha256 OF THE DUMP (.gsa) THAT YteohkpfacjjaeabProg.lean LOADS. Nothing in Lean hashes anything: it is a label: what it is worth is what the hold of that sum in a sandbox is worth. -/
noncomputable def Try.pinned : Pinned := { name := "yteohkpfacjjaeab", sum := "7e4ff7a6c590be6bda7c977b2d7f803e3ffcb18562dd69735b4a24a7fc564627", checked := Try.checked }
namespace Rows
def none {H : Type} : Left H := { results := [], args := [] }

/-- 'bezantlaw05.ProgBack': WHATEVER THE INPUT: true; the input reads as it did. -/
def progBackSpec : ChangeSpec := { name := "progBack", fn := fun _ => fun
  | [d1, d2, d3, d4] => { results := [.lit (.bool true)], args := [d1, d2, d3, d4] }
  | _ => none }
def progBackRow : OpenClaim := { program := "yteohkpfacjjaeab", sum := "7e4ff7a6c590be6bda7c977b2d7f803e3ffcb18562dd69735b4a24a7fc564627", func := "bezant/bezantlaw05.ProgBack", spec := "progBack", unfollowed := true, recurses := true, apart := false }
def ProgBackSaid : Prop := progBackRow.holds Try.pinned (OpenSpec.ofChange progBackSpec)

/-- ITS FALSE NEIGHBOUR: 'it returns false'. Refute it at one input. -/
def progBackWrong : ChangeSpec := { name := "progBack", fn := fun _ => fun
  | [d1, d2, d3, d4] => { results := [.lit (.bool false)], args := [d1, d2, d3, d4] }
  | _ => none }
def ProgBackWrongFalsely : Prop := progBackRow.holds Try.pinned (OpenSpec.ofChange progBackWrong)

/-- 'bezantlaw11.NoteTells': WHATEVER THE INPUT: true; the input reads as it did. -/
def noteTellsSpec : ChangeSpec := { name := "noteTells", fn := fun _ => fun
  | [d1, d2, d3] => { results := [.lit (.bool true)], args := [d1, d2, d3] }
  | _ => none }
def noteTellsRow : OpenClaim := { program := "yteohkpfacjjaeab", sum := "7e4ff7a6c590be6bda7c977b2d7f803e3ffcb18562dd69735b4a24a7fc564627", func := "bezant/bezantlaw11.NoteTells", spec := "noteTells", apart := false }
def NoteTellsSaid : Prop := noteTellsRow.holds Try.pinned (OpenSpec.ofChange noteTellsSpec)

/-- ITS FALSE NEIGHBOUR: 'it returns false'. Refute it at one input. -/
def noteTellsWrong : ChangeSpec := { name := "noteTells", fn := fun _ => fun
  | [d1, d2, d3] => { results := [.lit (.bool false)], args := [d1, d2, d3] }
  | _ => none }
def NoteTellsWrongFalsely : Prop := noteTellsRow.holds Try.pinned (OpenSpec.ofChange noteTellsWrong)

/-- 'bezantlaw11.NoteBack': WHATEVER THE INPUT: true; the input reads as it did. -/
def noteBackSpec : ChangeSpec := { name := "noteBack", fn := fun _ => fun
  | [d1, d2, d3] => { results := [.lit (.bool true)], args := [d1, d2, d3] }
  | _ => none }
def noteBackRow : OpenClaim := { program := "yteohkpfacjjaeab", sum := "7e4ff7a6c590be6bda7c977b2d7f803e3ffcb18562dd69735b4a24a7fc564627", func := "bezant/bezantlaw11.NoteBack", spec := "noteBack", apart := false }
def NoteBackSaid : Prop := noteBackRow.holds Try.pinned (OpenSpec.ofChange noteBackSpec)

/-- ITS FALSE NEIGHBOUR: 'it returns false'. Refute it at one input. -/
def noteBackWrong : ChangeSpec := { name := "noteBack", fn := fun _ => fun
  | [d1, d2, d3] => { results := [.lit (.bool false)], args := [d1, d2, d3] }
  | _ => none }
def NoteBackWrongFalsely : Prop := noteBackRow.holds Try.pinned (OpenSpec.ofChange noteBackWrong)

/-- 'bezantlaw09.RelTells': WHATEVER THE INPUT: true; the input reads as it did. -/
def relTellsSpec : ChangeSpec := { name := "relTells", fn := fun _ => fun
  | [d1, d2, d3, d4] => { results := [.lit (.bool true)], args := [d1, d2, d3, d4] }
  | _ => none }
def relTellsRow : OpenClaim := { program := "yteohkpfacjjaeab", sum := "7e4ff7a6c590be6bda7c977b2d7f803e3ffcb18562dd69735b4a24a7fc564627", func := "bezant/bezantlaw09.RelTells", spec := "relTells", apart := false }
def RelTellsSaid : Prop := relTellsRow.holds Try.pinned (OpenSpec.ofChange relTellsSpec)

/-- ITS FALSE NEIGHBOUR: 'it returns false'. Refute it at one input. -/
def relTellsWrong : ChangeSpec := { name := "relTells", fn := fun _ => fun
  | [d1, d2, d3, d4] => { results := [.lit (.bool false)], args := [d1, d2, d3, d4] }
  | _ => none }
def RelTellsWrongFalsely : Prop := relTellsRow.holds Try.pinned (OpenSpec.ofChange relTellsWrong)

/-- 'bezantlaw09.RelBack': WHATEVER THE INPUT: true; the input reads as it did. -/
def relBackSpec : ChangeSpec := { name := "relBack", fn := fun _ => fun
  | [d1, d2, d3, d4] => { results := [.lit (.bool true)], args := [d1, d2, d3, d4] }
  | _ => none }
def relBackRow : OpenClaim := { program := "yteohkpfacjjaeab", sum := "7e4ff7a6c590be6bda7c977b2d7f803e3ffcb18562dd69735b4a24a7fc564627", func := "bezant/bezantlaw09.RelBack", spec := "relBack", apart := false }
def RelBackSaid : Prop := relBackRow.holds Try.pinned (OpenSpec.ofChange relBackSpec)

/-- ITS FALSE NEIGHBOUR: 'it returns false'. Refute it at one input. -/
def relBackWrong : ChangeSpec := { name := "relBack", fn := fun _ => fun
  | [d1, d2, d3, d4] => { results := [.lit (.bool false)], args := [d1, d2, d3, d4] }
  | _ => none }
def RelBackWrongFalsely : Prop := relBackRow.holds Try.pinned (OpenSpec.ofChange relBackWrong)

/-- 'bezantlaw08.SymTells': WHATEVER THE INPUT: true; the input reads as it did. -/
def symTellsSpec : ChangeSpec := { name := "symTells", fn := fun _ => fun
  | [d1, d2, d3, d4, d5] => { results := [.lit (.bool true)], args := [d1, d2, d3, d4, d5] }
  | _ => none }
def symTellsRow : OpenClaim := { program := "yteohkpfacjjaeab", sum := "7e4ff7a6c590be6bda7c977b2d7f803e3ffcb18562dd69735b4a24a7fc564627", func := "bezant/bezantlaw08.SymTells", spec := "symTells", unfollowed := true, recurses := true, apart := false }
def SymTellsSaid : Prop := symTellsRow.holds Try.pinned (OpenSpec.ofChange symTellsSpec)

/-- ITS FALSE NEIGHBOUR: 'it returns false'. Refute it at one input. -/
def symTellsWrong : ChangeSpec := { name := "symTells", fn := fun _ => fun
  | [d1, d2, d3, d4, d5] => { results := [.lit (.bool false)], args := [d1, d2, d3, d4, d5] }
  | _ => none }
def SymTellsWrongFalsely : Prop := symTellsRow.holds Try.pinned (OpenSpec.ofChange symTellsWrong)

/-- 'bezantlaw08.SymBack': WHATEVER THE INPUT: true; the input reads as it did. -/
def symBackSpec : ChangeSpec := { name := "symBack", fn := fun _ => fun
  | [d1, d2, d3] => { results := [.lit (.bool true)], args := [d1, d2, d3] }
  | _ => none }
def symBackRow : OpenClaim := { program := "yteohkpfacjjaeab", sum := "7e4ff7a6c590be6bda7c977b2d7f803e3ffcb18562dd69735b4a24a7fc564627", func := "bezant/bezantlaw08.SymBack", spec := "symBack", unfollowed := true, recurses := true, apart := false }
def SymBackSaid : Prop := symBackRow.holds Try.pinned (OpenSpec.ofChange symBackSpec)

/-- ITS FALSE NEIGHBOUR: 'it returns false'. Refute it at one input. -/
def symBackWrong : ChangeSpec := { name := "symBack", fn := fun _ => fun
  | [d1, d2, d3] => { results := [.lit (.bool false)], args := [d1, d2, d3] }
  | _ => none }
def SymBackWrongFalsely : Prop := symBackRow.holds Try.pinned (OpenSpec.ofChange symBackWrong)

/-- 'bezantlaw04.HeadTells': WHATEVER THE INPUT: true; the input reads as it did. -/
def headTellsSpec : ChangeSpec := { name := "headTells", fn := fun _ => fun
  | [d1, d2] => { results := [.lit (.bool true)], args := [d1, d2] }
  | _ => none }
def headTellsRow : OpenClaim := { program := "yteohkpfacjjaeab", sum := "7e4ff7a6c590be6bda7c977b2d7f803e3ffcb18562dd69735b4a24a7fc564627", func := "bezant/bezantlaw04.HeadTells", spec := "headTells", unfollowed := true, recurses := true, apart := false }
def HeadTellsSaid : Prop := headTellsRow.holds Try.pinned (OpenSpec.ofChange headTellsSpec)

/-- ITS FALSE NEIGHBOUR: 'it returns false'. Refute it at one input. -/
def headTellsWrong : ChangeSpec := { name := "headTells", fn := fun _ => fun
  | [d1, d2] => { results := [.lit (.bool false)], args := [d1, d2] }
  | _ => none }
def HeadTellsWrongFalsely : Prop := headTellsRow.holds Try.pinned (OpenSpec.ofChange headTellsWrong)

/-- 'bezantlaw04.HeadBack': WHATEVER THE INPUT: true; the input reads as it did. -/
def headBackSpec : ChangeSpec := { name := "headBack", fn := fun _ => fun
  | [d1, d2, d3] => { results := [.lit (.bool true)], args := [d1, d2, d3] }
  | _ => none }
def headBackRow : OpenClaim := { program := "yteohkpfacjjaeab", sum := "7e4ff7a6c590be6bda7c977b2d7f803e3ffcb18562dd69735b4a24a7fc564627", func := "bezant/bezantlaw04.HeadBack", spec := "headBack", unfollowed := true, recurses := true, apart := false }
def HeadBackSaid : Prop := headBackRow.holds Try.pinned (OpenSpec.ofChange headBackSpec)

/-- ITS FALSE NEIGHBOUR: 'it returns false'. Refute it at one input. -/
def headBackWrong : ChangeSpec := { name := "headBack", fn := fun _ => fun
  | [d1, d2, d3] => { results := [.lit (.bool false)], args := [d1, d2, d3] }
  | _ => none }
def HeadBackWrongFalsely : Prop := headBackRow.holds Try.pinned (OpenSpec.ofChange headBackWrong)

/-- 'bezantlaw07.StrsTells': WHATEVER THE INPUT: true; the input reads as it did. -/
def strsTellsSpec : ChangeSpec := { name := "strsTells", fn := fun _ => fun
  | [d1, d2, d3] => { results := [.lit (.bool true)], args := [d1, d2, d3] }
  | _ => none }
def strsTellsRow : OpenClaim := { program := "yteohkpfacjjaeab", sum := "7e4ff7a6c590be6bda7c977b2d7f803e3ffcb18562dd69735b4a24a7fc564627", func := "bezant/bezantlaw07.StrsTells", spec := "strsTells", inPlace := ["internal/bytealg.IndexByteString", "internal/bytealg.IndexByte", "internal/bytealg.Index"], named := ["internal/bytealg.MaxLen"], apart := false }
def StrsTellsSaid : Prop := strsTellsRow.holds Try.pinned (OpenSpec.ofChange strsTellsSpec)

/-- ITS FALSE NEIGHBOUR: 'it returns false'. Refute it at one input. -/
def strsTellsWrong : ChangeSpec := { name := "strsTells", fn := fun _ => fun
  | [d1, d2, d3] => { results := [.lit (.bool false)], args := [d1, d2, d3] }
  | _ => none }
def StrsTellsWrongFalsely : Prop := strsTellsRow.holds Try.pinned (OpenSpec.ofChange strsTellsWrong)

/- THE SECOND FORM. 'bulk': how many values and letters a reading holds, each counted each time it is reached (what is shared counts as often as it is met; a slice's spare places count too). A statement '..UptoSaid' is the law's where the arguments, and the package variables that the reading takes, are together of bulk at most 1048576: NARROWER than '..Said'. Prove '..Said' where nothing that the law and all that it calls make is longer than what came in: it says more and counts as full. Else prove '..UptoSaid'. A law counts once. -/
mutual
def uptoBulk {H : Type} : DataW H → Nat
  | .lit (.string bytes) => bytes.length + 1
  | .lit _ => 1
  | .nil => 1
  | .ptr d => uptoBulk d + 1
  | .slice elems spare => uptoBulkAll elems + uptoBulkAll spare + 1
  | .agg parts => uptoBulkAll parts + 1
  | .iface _ d => uptoBulk d + 1
  | .map entries => uptoBulkEntries entries + 1
  | .held _ => 1
def uptoBulkAll {H : Type} : List (DataW H) → Nat
  | [] => 0
  | d :: r => uptoBulk d + uptoBulkAll r
def uptoBulkEntries {H : Type} : List (Lit × DataW H) → Nat
  | [] => 0
  | x :: r => uptoBulkEntry x + uptoBulkEntries r
def uptoBulkEntry {H : Type} : Lit × DataW H → Nat
  | (.string bytes, d) => bytes.length + uptoBulk d + 1
  | (_, d) => uptoBulk d + 1
 end
def uptoSmall : (H : Type) → List (DataW H) → Bool := fun _ ds => decide (uptoBulkAll ds ≤ 1048576)
def OpenSpec.upto (s : _root_.Go.ChangeSpec) : _root_.Go.OpenSpec := { _root_.Go.OpenSpec.ofChange s with cond := some uptoSmall }

/-- 'bezantlaw05.ProgBack', WHERE WHAT IT READS IS OF BULK AT MOST 1048576: true; the input reads as it did. -/
def progBackUptoRow : OpenClaim := { program := "yteohkpfacjjaeab", sum := "7e4ff7a6c590be6bda7c977b2d7f803e3ffcb18562dd69735b4a24a7fc564627", func := "bezant/bezantlaw05.ProgBack", spec := "progBack", unfollowed := true, recurses := true, apart := false, narrowed := true }
def ProgBackUptoSaid : Prop := progBackUptoRow.holds Try.pinned (OpenSpec.upto progBackSpec)

/-- 'bezantlaw11.NoteTells', WHERE WHAT IT READS IS OF BULK AT MOST 1048576: true; the input reads as it did. -/
def noteTellsUptoRow : OpenClaim := { program := "yteohkpfacjjaeab", sum := "7e4ff7a6c590be6bda7c977b2d7f803e3ffcb18562dd69735b4a24a7fc564627", func := "bezant/bezantlaw11.NoteTells", spec := "noteTells", apart := false, narrowed := true }
def NoteTellsUptoSaid : Prop := noteTellsUptoRow.holds Try.pinned (OpenSpec.upto noteTellsSpec)

/-- 'bezantlaw11.NoteBack', WHERE WHAT IT READS IS OF BULK AT MOST 1048576: true; the input reads as it did. -/
def noteBackUptoRow : OpenClaim := { program := "yteohkpfacjjaeab", sum := "7e4ff7a6c590be6bda7c977b2d7f803e3ffcb18562dd69735b4a24a7fc564627", func := "bezant/bezantlaw11.NoteBack", spec := "noteBack", apart := false, narrowed := true }
def NoteBackUptoSaid : Prop := noteBackUptoRow.holds Try.pinned (OpenSpec.upto noteBackSpec)

/-- 'bezantlaw09.RelTells', WHERE WHAT IT READS IS OF BULK AT MOST 1048576: true; the input reads as it did. -/
def relTellsUptoRow : OpenClaim := { program := "yteohkpfacjjaeab", sum := "7e4ff7a6c590be6bda7c977b2d7f803e3ffcb18562dd69735b4a24a7fc564627", func := "bezant/bezantlaw09.RelTells", spec := "relTells", apart := false, narrowed := true }
def RelTellsUptoSaid : Prop := relTellsUptoRow.holds Try.pinned (OpenSpec.upto relTellsSpec)

/-- 'bezantlaw09.RelBack', WHERE WHAT IT READS IS OF BULK AT MOST 1048576: true; the input reads as it did. -/
def relBackUptoRow : OpenClaim := { program := "yteohkpfacjjaeab", sum := "7e4ff7a6c590be6bda7c977b2d7f803e3ffcb18562dd69735b4a24a7fc564627", func := "bezant/bezantlaw09.RelBack", spec := "relBack", apart := false, narrowed := true }
def RelBackUptoSaid : Prop := relBackUptoRow.holds Try.pinned (OpenSpec.upto relBackSpec)

/-- 'bezantlaw08.SymTells', WHERE WHAT IT READS IS OF BULK AT MOST 1048576: true; the input reads as it did. -/
def symTellsUptoRow : OpenClaim := { program := "yteohkpfacjjaeab", sum := "7e4ff7a6c590be6bda7c977b2d7f803e3ffcb18562dd69735b4a24a7fc564627", func := "bezant/bezantlaw08.SymTells", spec := "symTells", unfollowed := true, recurses := true, apart := false, narrowed := true }
def SymTellsUptoSaid : Prop := symTellsUptoRow.holds Try.pinned (OpenSpec.upto symTellsSpec)

/-- 'bezantlaw08.SymBack', WHERE WHAT IT READS IS OF BULK AT MOST 1048576: true; the input reads as it did. -/
def symBackUptoRow : OpenClaim := { program := "yteohkpfacjjaeab", sum := "7e4ff7a6c590be6bda7c977b2d7f803e3ffcb18562dd69735b4a24a7fc564627", func := "bezant/bezantlaw08.SymBack", spec := "symBack", unfollowed := true, recurses := true, apart := false, narrowed := true }
def SymBackUptoSaid : Prop := symBackUptoRow.holds Try.pinned (OpenSpec.upto symBackSpec)

/-- 'bezantlaw04.HeadTells', WHERE WHAT IT READS IS OF BULK AT MOST 1048576: true; the input reads as it did. -/
def headTellsUptoRow : OpenClaim := { program := "yteohkpfacjjaeab", sum := "7e4ff7a6c590be6bda7c977b2d7f803e3ffcb18562dd69735b4a24a7fc564627", func := "bezant/bezantlaw04.HeadTells", spec := "headTells", unfollowed := true, recurses := true, apart := false, narrowed := true }
def HeadTellsUptoSaid : Prop := headTellsUptoRow.holds Try.pinned (OpenSpec.upto headTellsSpec)

/-- 'bezantlaw04.HeadBack', WHERE WHAT IT READS IS OF BULK AT MOST 1048576: true; the input reads as it did. -/
def headBackUptoRow : OpenClaim := { program := "yteohkpfacjjaeab", sum := "7e4ff7a6c590be6bda7c977b2d7f803e3ffcb18562dd69735b4a24a7fc564627", func := "bezant/bezantlaw04.HeadBack", spec := "headBack", unfollowed := true, recurses := true, apart := false, narrowed := true }
def HeadBackUptoSaid : Prop := headBackUptoRow.holds Try.pinned (OpenSpec.upto headBackSpec)

/-- 'bezantlaw07.StrsTells', WHERE WHAT IT READS IS OF BULK AT MOST 1048576: true; the input reads as it did. -/
def strsTellsUptoRow : OpenClaim := { program := "yteohkpfacjjaeab", sum := "7e4ff7a6c590be6bda7c977b2d7f803e3ffcb18562dd69735b4a24a7fc564627", func := "bezant/bezantlaw07.StrsTells", spec := "strsTells", inPlace := ["internal/bytealg.IndexByteString", "internal/bytealg.IndexByte", "internal/bytealg.Index"], named := ["internal/bytealg.MaxLen"], apart := false, narrowed := true }
def StrsTellsUptoSaid : Prop := strsTellsUptoRow.holds Try.pinned (OpenSpec.upto strsTellsSpec)

end Rows
end Go.Proofs.Yteohkpfacjjaeab

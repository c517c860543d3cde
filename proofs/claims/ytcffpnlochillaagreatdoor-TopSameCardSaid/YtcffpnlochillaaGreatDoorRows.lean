/-
  NARROWER THAN 'FOR EVERY INPUT', by the rows' own cells (each row's printed sentence says how): TopBack: laid · TopSame: laid · TopTotal: laid · FileEncodes: laid · FileParses: laid · FileBack: laid · ScriptStays: laid · TopStrips: laid.
  DERIVED. THE GIVEN ROWS OF THIS SEAT. 8 by the template 'for every input the law returns true; each argument reads behind the call as it read before'; 0 by the template 'total and deterministic' (their statements: YtcffpnlochillaaGreatDoorTotals.lean).
  GIVEN WITH THE SEED: the statements are not yours to turn. If you find one false, say at which input.
  Laid BY PROGRAM, IN A SANDBOX (cutbox-rows.mjs): the forced cells as the released guide's own fill.sh prints them over the translation c6469cb89369df5b… (all of the seat's roots in one cut). By AI agents, Wed Nov 11 2026. No macro, syntax, notation, axiom, sorry.
-/
import Derived.Test.YtcffpnlochillaaGreatDoorChecked
import GoSem.Claim
import GoSem.ClaimJoined
import GoSem.ClaimMapViews
import Derived.JoinedTies
import Derived.KernelRfl
namespace Go.Proofs.YtcffpnlochillaaGreatDoor
/- THE CELL 'sum', in the pinned program and in every row, IS THE sha256 OF THE DUMP (.gsa) THAT YtcffpnlochillaaGreatDoorProg.lean LOADS. Nothing in Lean hashes anything: it is a label: what it is worth is what the hold of that sum in a sandbox is worth. -/
noncomputable def Tryz.pinned : Pinned := { name := "ytcffpnlochillaagreatdoor", sum := "c6469cb89369df5bef3bbb9d91b392b53ccc368d39a7a5ea07c84b61acdf4baa", checked := Tryz.checked }
namespace Rows
def none {H : Type} : Left H := { results := [], args := [] }

/- WHAT THE LISTED PACKAGE-LEVEL VARIABLES READ AS WHEN THE CALL BEGINS. Each datum BY PROGRAM (the guide's laid-datum.mjs) off the statement by which the dump's own 'gosem.cut.vars' lays the variable. In a bare row this is a premise. The card (YtcffpnlochillaaGreatDoorCards.lean) ties it to the program's text. -/
def laid_errors_errorType {H : Type} : DataW H := .iface "internal/reflectlite.rtype" (.agg [.ptr (.lit (.string [101, 114, 114, 111, 114]))])

/-- 'bezanttop.TopBack': WHATEVER THE INPUT: true; the input reads as it did. -/
def topBackSpec : ChangeSpec := { name := "topBack", fn := fun _ => fun
  | [d1, d2] => { results := [.lit (.bool true)], args := [d1, d2] }
  | _ => none }
def topBackRow : OpenClaim := { program := "ytcffpnlochillaagreatdoor", sum := "c6469cb89369df5bef3bbb9d91b392b53ccc368d39a7a5ea07c84b61acdf4baa", func := "bezant/bezanttop.TopBack", spec := "topBack", inPlace := ["internal/bytealg.IndexByte", "internal/bytealg.Index", "internal/reflectlite.ValueOf", "(internal/reflectlite.Value).Type", "(internal/reflectlite.Value).IsNil", "internal/reflectlite.TypeOf", "(internal/reflectlite.Value).Elem", "(internal/reflectlite.Value).Set"], unfollowed := true, recurses := true, named := ["internal/bytealg.MaxLen", "errors.errorType"], apart := false, laid := [("errors.errorType", laid_errors_errorType)] }
def TopBackSaid : Prop := topBackRow.holds Tryz.pinned (OpenSpec.ofChange topBackSpec)

/-- ITS FALSE NEIGHBOUR: 'it returns false'. Refute it at one input. -/
def topBackWrong : ChangeSpec := { name := "topBack", fn := fun _ => fun
  | [d1, d2] => { results := [.lit (.bool false)], args := [d1, d2] }
  | _ => none }
def TopBackWrongFalsely : Prop := topBackRow.holds Tryz.pinned (OpenSpec.ofChange topBackWrong)

/-- 'bezanttop.TopSame': WHATEVER THE INPUT: true; the input reads as it did. -/
def topSameSpec : ChangeSpec := { name := "topSame", fn := fun _ => fun
  | [d1, d2] => { results := [.lit (.bool true)], args := [d1, d2] }
  | _ => none }
def topSameRow : OpenClaim := { program := "ytcffpnlochillaagreatdoor", sum := "c6469cb89369df5bef3bbb9d91b392b53ccc368d39a7a5ea07c84b61acdf4baa", func := "bezant/bezanttop.TopSame", spec := "topSame", inPlace := ["internal/bytealg.IndexByte", "internal/bytealg.Index", "internal/reflectlite.ValueOf", "(internal/reflectlite.Value).Type", "(internal/reflectlite.Value).IsNil", "internal/reflectlite.TypeOf", "(internal/reflectlite.Value).Elem", "(internal/reflectlite.Value).Set"], unfollowed := true, recurses := true, named := ["internal/bytealg.MaxLen", "errors.errorType"], apart := false, laid := [("errors.errorType", laid_errors_errorType)] }
def TopSameSaid : Prop := topSameRow.holds Tryz.pinned (OpenSpec.ofChange topSameSpec)

/-- ITS FALSE NEIGHBOUR: 'it returns false'. Refute it at one input. -/
def topSameWrong : ChangeSpec := { name := "topSame", fn := fun _ => fun
  | [d1, d2] => { results := [.lit (.bool false)], args := [d1, d2] }
  | _ => none }
def TopSameWrongFalsely : Prop := topSameRow.holds Tryz.pinned (OpenSpec.ofChange topSameWrong)

/-- 'bezanttop.TopTotal': WHATEVER THE INPUT: true; the input reads as it did. -/
def topTotalSpec : ChangeSpec := { name := "topTotal", fn := fun _ => fun
  | [d] => { results := [.lit (.bool true)], args := [d] }
  | _ => none }
def topTotalRow : OpenClaim := { program := "ytcffpnlochillaagreatdoor", sum := "c6469cb89369df5bef3bbb9d91b392b53ccc368d39a7a5ea07c84b61acdf4baa", func := "bezant/bezanttop.TopTotal", spec := "topTotal", inPlace := ["internal/bytealg.IndexByte", "internal/bytealg.Index", "internal/reflectlite.ValueOf", "(internal/reflectlite.Value).Type", "(internal/reflectlite.Value).IsNil", "internal/reflectlite.TypeOf", "(internal/reflectlite.Value).Elem", "(internal/reflectlite.Value).Set"], unfollowed := true, recurses := true, named := ["internal/bytealg.MaxLen", "errors.errorType"], apart := false, laid := [("errors.errorType", laid_errors_errorType)] }
def TopTotalSaid : Prop := topTotalRow.holds Tryz.pinned (OpenSpec.ofChange topTotalSpec)

/-- ITS FALSE NEIGHBOUR: 'it returns false'. Refute it at one input. -/
def topTotalWrong : ChangeSpec := { name := "topTotal", fn := fun _ => fun
  | [d] => { results := [.lit (.bool false)], args := [d] }
  | _ => none }
def TopTotalWrongFalsely : Prop := topTotalRow.holds Tryz.pinned (OpenSpec.ofChange topTotalWrong)

/-- 'bezantlaw16.FileEncodes': WHATEVER THE INPUT: true; the input reads as it did. -/
def fileEncodesSpec : ChangeSpec := { name := "fileEncodes", fn := fun _ => fun
  | [d] => { results := [.lit (.bool true)], args := [d] }
  | _ => none }
def fileEncodesRow : OpenClaim := { program := "ytcffpnlochillaagreatdoor", sum := "c6469cb89369df5bef3bbb9d91b392b53ccc368d39a7a5ea07c84b61acdf4baa", func := "bezant/bezantlaw16.FileEncodes", spec := "fileEncodes", inPlace := ["internal/bytealg.IndexByte", "internal/bytealg.Index", "internal/reflectlite.ValueOf", "(internal/reflectlite.Value).Type", "(internal/reflectlite.Value).IsNil", "internal/reflectlite.TypeOf", "(internal/reflectlite.Value).Elem", "(internal/reflectlite.Value).Set"], unfollowed := true, recurses := true, named := ["internal/bytealg.MaxLen", "errors.errorType"], apart := false, laid := [("errors.errorType", laid_errors_errorType)] }
def FileEncodesSaid : Prop := fileEncodesRow.holds Tryz.pinned (OpenSpec.ofChange fileEncodesSpec)

/-- ITS FALSE NEIGHBOUR: 'it returns false'. Refute it at one input. -/
def fileEncodesWrong : ChangeSpec := { name := "fileEncodes", fn := fun _ => fun
  | [d] => { results := [.lit (.bool false)], args := [d] }
  | _ => none }
def FileEncodesWrongFalsely : Prop := fileEncodesRow.holds Tryz.pinned (OpenSpec.ofChange fileEncodesWrong)

/-- 'bezantlaw16.FileParses': WHATEVER THE INPUT: true; the input reads as it did. -/
def fileParsesSpec : ChangeSpec := { name := "fileParses", fn := fun _ => fun
  | [d] => { results := [.lit (.bool true)], args := [d] }
  | _ => none }
def fileParsesRow : OpenClaim := { program := "ytcffpnlochillaagreatdoor", sum := "c6469cb89369df5bef3bbb9d91b392b53ccc368d39a7a5ea07c84b61acdf4baa", func := "bezant/bezantlaw16.FileParses", spec := "fileParses", inPlace := ["internal/bytealg.IndexByte", "internal/bytealg.Index", "internal/reflectlite.ValueOf", "(internal/reflectlite.Value).Type", "(internal/reflectlite.Value).IsNil", "internal/reflectlite.TypeOf", "(internal/reflectlite.Value).Elem", "(internal/reflectlite.Value).Set"], unfollowed := true, recurses := true, named := ["internal/bytealg.MaxLen", "errors.errorType"], apart := false, laid := [("errors.errorType", laid_errors_errorType)] }
def FileParsesSaid : Prop := fileParsesRow.holds Tryz.pinned (OpenSpec.ofChange fileParsesSpec)

/-- ITS FALSE NEIGHBOUR: 'it returns false'. Refute it at one input. -/
def fileParsesWrong : ChangeSpec := { name := "fileParses", fn := fun _ => fun
  | [d] => { results := [.lit (.bool false)], args := [d] }
  | _ => none }
def FileParsesWrongFalsely : Prop := fileParsesRow.holds Tryz.pinned (OpenSpec.ofChange fileParsesWrong)

/-- 'bezantlaw16.FileBack': WHATEVER THE INPUT: true; the input reads as it did. -/
def fileBackSpec : ChangeSpec := { name := "fileBack", fn := fun _ => fun
  | [d1, d2] => { results := [.lit (.bool true)], args := [d1, d2] }
  | _ => none }
def fileBackRow : OpenClaim := { program := "ytcffpnlochillaagreatdoor", sum := "c6469cb89369df5bef3bbb9d91b392b53ccc368d39a7a5ea07c84b61acdf4baa", func := "bezant/bezantlaw16.FileBack", spec := "fileBack", inPlace := ["internal/bytealg.IndexByte", "internal/bytealg.Index", "internal/reflectlite.ValueOf", "(internal/reflectlite.Value).Type", "(internal/reflectlite.Value).IsNil", "internal/reflectlite.TypeOf", "(internal/reflectlite.Value).Elem", "(internal/reflectlite.Value).Set"], unfollowed := true, recurses := true, named := ["internal/bytealg.MaxLen", "errors.errorType"], apart := false, laid := [("errors.errorType", laid_errors_errorType)] }
def FileBackSaid : Prop := fileBackRow.holds Tryz.pinned (OpenSpec.ofChange fileBackSpec)

/-- ITS FALSE NEIGHBOUR: 'it returns false'. Refute it at one input. -/
def fileBackWrong : ChangeSpec := { name := "fileBack", fn := fun _ => fun
  | [d1, d2] => { results := [.lit (.bool false)], args := [d1, d2] }
  | _ => none }
def FileBackWrongFalsely : Prop := fileBackRow.holds Tryz.pinned (OpenSpec.ofChange fileBackWrong)

/-- 'bezantlaw20.ScriptStays': WHATEVER THE INPUT: true; the input reads as it did. -/
def scriptStaysSpec : ChangeSpec := { name := "scriptStays", fn := fun _ => fun
  | [d1, d2] => { results := [.lit (.bool true)], args := [d1, d2] }
  | _ => none }
def scriptStaysRow : OpenClaim := { program := "ytcffpnlochillaagreatdoor", sum := "c6469cb89369df5bef3bbb9d91b392b53ccc368d39a7a5ea07c84b61acdf4baa", func := "bezant/bezantlaw20.ScriptStays", spec := "scriptStays", inPlace := ["internal/bytealg.IndexByte", "internal/bytealg.Index", "internal/reflectlite.ValueOf", "(internal/reflectlite.Value).Type", "(internal/reflectlite.Value).IsNil", "internal/reflectlite.TypeOf", "(internal/reflectlite.Value).Elem", "(internal/reflectlite.Value).Set"], unfollowed := true, recurses := true, named := ["internal/bytealg.MaxLen", "errors.errorType"], apart := false, laid := [("errors.errorType", laid_errors_errorType)] }
def ScriptStaysSaid : Prop := scriptStaysRow.holds Tryz.pinned (OpenSpec.ofChange scriptStaysSpec)

/-- ITS FALSE NEIGHBOUR: 'it returns false'. Refute it at one input. -/
def scriptStaysWrong : ChangeSpec := { name := "scriptStays", fn := fun _ => fun
  | [d1, d2] => { results := [.lit (.bool false)], args := [d1, d2] }
  | _ => none }
def ScriptStaysWrongFalsely : Prop := scriptStaysRow.holds Tryz.pinned (OpenSpec.ofChange scriptStaysWrong)

/-- 'bezanttop.TopStrips': WHATEVER THE INPUT: true; the input reads as it did. -/
def topStripsSpec : ChangeSpec := { name := "topStrips", fn := fun _ => fun
  | [d] => { results := [.lit (.bool true)], args := [d] }
  | _ => none }
def topStripsRow : OpenClaim := { program := "ytcffpnlochillaagreatdoor", sum := "c6469cb89369df5bef3bbb9d91b392b53ccc368d39a7a5ea07c84b61acdf4baa", func := "bezant/bezanttop.TopStrips", spec := "topStrips", inPlace := ["internal/bytealg.IndexByte", "internal/bytealg.Index", "internal/reflectlite.ValueOf", "(internal/reflectlite.Value).Type", "(internal/reflectlite.Value).IsNil", "internal/reflectlite.TypeOf", "(internal/reflectlite.Value).Elem", "(internal/reflectlite.Value).Set"], unfollowed := true, recurses := true, named := ["internal/bytealg.MaxLen", "errors.errorType"], apart := false, laid := [("errors.errorType", laid_errors_errorType)] }
def TopStripsSaid : Prop := topStripsRow.holds Tryz.pinned (OpenSpec.ofChange topStripsSpec)

/-- ITS FALSE NEIGHBOUR: 'it returns false'. Refute it at one input. -/
def topStripsWrong : ChangeSpec := { name := "topStrips", fn := fun _ => fun
  | [d] => { results := [.lit (.bool false)], args := [d] }
  | _ => none }
def TopStripsWrongFalsely : Prop := topStripsRow.holds Tryz.pinned (OpenSpec.ofChange topStripsWrong)

/- THE SECOND FORM. 'bulk': how many values and letters a reading holds, each counted each time it is reached (what is shared counts as often as it is met; a slice's spare places count too). A statement '..UptoSaid' is the law's where the arguments, and the package variables that the reading takes, are together of bulk at most 1048576: NARROWER than '..Said'. Prove '..Said' where nothing that the law and all that it calls make is longer than what came in: it says more and counts as full. Else prove '..UptoSaid'. A law counts once. -/
mutual
def uptoBulk {H : Type} : DataW H → Nat
  | .lit (.string bytes) => bytes.length + 1
  | .lit _ => 1
  | .nil => 1
  | .ptr d => uptoBulk d + 1
  | .slice elems spare => uptoBulkAll elems + uptoBulkAll spare + 1
  | .agg parts => uptoBulkAll parts + 1
  | .iface _ d => uptoBulk d + 1
  | .map entries => uptoBulkEntries entries + 1
  | .held _ => 1
def uptoBulkAll {H : Type} : List (DataW H) → Nat
  | [] => 0
  | d :: r => uptoBulk d + uptoBulkAll r
def uptoBulkEntries {H : Type} : List (Lit × DataW H) → Nat
  | [] => 0
  | x :: r => uptoBulkEntry x + uptoBulkEntries r
def uptoBulkEntry {H : Type} : Lit × DataW H → Nat
  | (.string bytes, d) => bytes.length + uptoBulk d + 1
  | (_, d) => uptoBulk d + 1
 end
def uptoSmall : (H : Type) → List (DataW H) → Bool := fun _ ds => decide (uptoBulkAll ds ≤ 1048576)
def OpenSpec.upto (s : _root_.Go.ChangeSpec) : _root_.Go.OpenSpec := { _root_.Go.OpenSpec.ofChange s with cond := some uptoSmall }

/-- 'bezanttop.TopBack', WHERE WHAT IT READS IS OF BULK AT MOST 1048576: true; the input reads as it did. -/
def topBackUptoRow : OpenClaim := { program := "ytcffpnlochillaagreatdoor", sum := "c6469cb89369df5bef3bbb9d91b392b53ccc368d39a7a5ea07c84b61acdf4baa", func := "bezant/bezanttop.TopBack", spec := "topBack", inPlace := ["internal/bytealg.IndexByte", "internal/bytealg.Index", "internal/reflectlite.ValueOf", "(internal/reflectlite.Value).Type", "(internal/reflectlite.Value).IsNil", "internal/reflectlite.TypeOf", "(internal/reflectlite.Value).Elem", "(internal/reflectlite.Value).Set"], unfollowed := true, recurses := true, named := ["internal/bytealg.MaxLen", "errors.errorType"], apart := false, laid := [("errors.errorType", laid_errors_errorType)], narrowed := true }
def TopBackUptoSaid : Prop := topBackUptoRow.holds Tryz.pinned (OpenSpec.upto topBackSpec)

/-- 'bezanttop.TopSame', WHERE WHAT IT READS IS OF BULK AT MOST 1048576: true; the input reads as it did. -/
def topSameUptoRow : OpenClaim := { program := "ytcffpnlochillaagreatdoor", sum := "c6469cb89369df5bef3bbb9d91b392b53ccc368d39a7a5ea07c84b61acdf4baa", func := "bezant/bezanttop.TopSame", spec := "topSame", inPlace := ["internal/bytealg.IndexByte", "internal/bytealg.Index", "internal/reflectlite.ValueOf", "(internal/reflectlite.Value).Type", "(internal/reflectlite.Value).IsNil", "internal/reflectlite.TypeOf", "(internal/reflectlite.Value).Elem", "(internal/reflectlite.Value).Set"], unfollowed := true, recurses := true, named := ["internal/bytealg.MaxLen", "errors.errorType"], apart := false, laid := [("errors.errorType", laid_errors_errorType)], narrowed := true }
def TopSameUptoSaid : Prop := topSameUptoRow.holds Tryz.pinned (OpenSpec.upto topSameSpec)

/-- 'bezanttop.TopTotal', WHERE WHAT IT READS IS OF BULK AT MOST 1048576: true; the input reads as it did. -/
def topTotalUptoRow : OpenClaim := { program := "ytcffpnlochillaagreatdoor", sum := "c6469cb89369df5bef3bbb9d91b392b53ccc368d39a7a5ea07c84b61acdf4baa", func := "bezant/bezanttop.TopTotal", spec := "topTotal", inPlace := ["internal/bytealg.IndexByte", "internal/bytealg.Index", "internal/reflectlite.ValueOf", "(internal/reflectlite.Value).Type", "(internal/reflectlite.Value).IsNil", "internal/reflectlite.TypeOf", "(internal/reflectlite.Value).Elem", "(internal/reflectlite.Value).Set"], unfollowed := true, recurses := true, named := ["internal/bytealg.MaxLen", "errors.errorType"], apart := false, laid := [("errors.errorType", laid_errors_errorType)], narrowed := true }
def TopTotalUptoSaid : Prop := topTotalUptoRow.holds Tryz.pinned (OpenSpec.upto topTotalSpec)

/-- 'bezantlaw16.FileEncodes', WHERE WHAT IT READS IS OF BULK AT MOST 1048576: true; the input reads as it did. -/
def fileEncodesUptoRow : OpenClaim := { program := "ytcffpnlochillaagreatdoor", sum := "c6469cb89369df5bef3bbb9d91b392b53ccc368d39a7a5ea07c84b61acdf4baa", func := "bezant/bezantlaw16.FileEncodes", spec := "fileEncodes", inPlace := ["internal/bytealg.IndexByte", "internal/bytealg.Index", "internal/reflectlite.ValueOf", "(internal/reflectlite.Value).Type", "(internal/reflectlite.Value).IsNil", "internal/reflectlite.TypeOf", "(internal/reflectlite.Value).Elem", "(internal/reflectlite.Value).Set"], unfollowed := true, recurses := true, named := ["internal/bytealg.MaxLen", "errors.errorType"], apart := false, laid := [("errors.errorType", laid_errors_errorType)], narrowed := true }
def FileEncodesUptoSaid : Prop := fileEncodesUptoRow.holds Tryz.pinned (OpenSpec.upto fileEncodesSpec)

/-- 'bezantlaw16.FileParses', WHERE WHAT IT READS IS OF BULK AT MOST 1048576: true; the input reads as it did. -/
def fileParsesUptoRow : OpenClaim := { program := "ytcffpnlochillaagreatdoor", sum := "c6469cb89369df5bef3bbb9d91b392b53ccc368d39a7a5ea07c84b61acdf4baa", func := "bezant/bezantlaw16.FileParses", spec := "fileParses", inPlace := ["internal/bytealg.IndexByte", "internal/bytealg.Index", "internal/reflectlite.ValueOf", "(internal/reflectlite.Value).Type", "(internal/reflectlite.Value).IsNil", "internal/reflectlite.TypeOf", "(internal/reflectlite.Value).Elem", "(internal/reflectlite.Value).Set"], unfollowed := true, recurses := true, named := ["internal/bytealg.MaxLen", "errors.errorType"], apart := false, laid := [("errors.errorType", laid_errors_errorType)], narrowed := true }
def FileParsesUptoSaid : Prop := fileParsesUptoRow.holds Tryz.pinned (OpenSpec.upto fileParsesSpec)

/-- 'bezantlaw16.FileBack', WHERE WHAT IT READS IS OF BULK AT MOST 1048576: true; the input reads as it did. -/
def fileBackUptoRow : OpenClaim := { program := "ytcffpnlochillaagreatdoor", sum := "c6469cb89369df5bef3bbb9d91b392b53ccc368d39a7a5ea07c84b61acdf4baa", func := "bezant/bezantlaw16.FileBack", spec := "fileBack", inPlace := ["internal/bytealg.IndexByte", "internal/bytealg.Index", "internal/reflectlite.ValueOf", "(internal/reflectlite.Value).Type", "(internal/reflectlite.Value).IsNil", "internal/reflectlite.TypeOf", "(internal/reflectlite.Value).Elem", "(internal/reflectlite.Value).Set"], unfollowed := true, recurses := true, named := ["internal/bytealg.MaxLen", "errors.errorType"], apart := false, laid := [("errors.errorType", laid_errors_errorType)], narrowed := true }
def FileBackUptoSaid : Prop := fileBackUptoRow.holds Tryz.pinned (OpenSpec.upto fileBackSpec)

/-- 'bezantlaw20.ScriptStays', WHERE WHAT IT READS IS OF BULK AT MOST 1048576: true; the input reads as it did. -/
def scriptStaysUptoRow : OpenClaim := { program := "ytcffpnlochillaagreatdoor", sum := "c6469cb89369df5bef3bbb9d91b392b53ccc368d39a7a5ea07c84b61acdf4baa", func := "bezant/bezantlaw20.ScriptStays", spec := "scriptStays", inPlace := ["internal/bytealg.IndexByte", "internal/bytealg.Index", "internal/reflectlite.ValueOf", "(internal/reflectlite.Value).Type", "(internal/reflectlite.Value).IsNil", "internal/reflectlite.TypeOf", "(internal/reflectlite.Value).Elem", "(internal/reflectlite.Value).Set"], unfollowed := true, recurses := true, named := ["internal/bytealg.MaxLen", "errors.errorType"], apart := false, laid := [("errors.errorType", laid_errors_errorType)], narrowed := true }
def ScriptStaysUptoSaid : Prop := scriptStaysUptoRow.holds Tryz.pinned (OpenSpec.upto scriptStaysSpec)

/-- 'bezanttop.TopStrips', WHERE WHAT IT READS IS OF BULK AT MOST 1048576: true; the input reads as it did. -/
def topStripsUptoRow : OpenClaim := { program := "ytcffpnlochillaagreatdoor", sum := "c6469cb89369df5bef3bbb9d91b392b53ccc368d39a7a5ea07c84b61acdf4baa", func := "bezant/bezanttop.TopStrips", spec := "topStrips", inPlace := ["internal/bytealg.IndexByte", "internal/bytealg.Index", "internal/reflectlite.ValueOf", "(internal/reflectlite.Value).Type", "(internal/reflectlite.Value).IsNil", "internal/reflectlite.TypeOf", "(internal/reflectlite.Value).Elem", "(internal/reflectlite.Value).Set"], unfollowed := true, recurses := true, named := ["internal/bytealg.MaxLen", "errors.errorType"], apart := false, laid := [("errors.errorType", laid_errors_errorType)], narrowed := true }
def TopStripsUptoSaid : Prop := topStripsUptoRow.holds Tryz.pinned (OpenSpec.upto topStripsSpec)

end Rows
end Go.Proofs.YtcffpnlochillaaGreatDoor

/-
  DERIVED. GIVEN WITH THE SEED: THE CARDS: each row of YtcffpnlochillaaGreatDoorRows.lean that lists a variable, with what it lists TIED to the program's text (the seventh form; the later family's looks); each row that meets fmt, with fmt's text TOLD by the authors' own Lean function (tested against real Go, not proved from fmt's source: count such statements apart). THE CARD IS WHAT COUNTS. Prove the row's statement (the work); the ties are given (YtcffpnlochillaaGreatDoorTie.lean); close each card by the builder's one call (the guide's Derived/Test/ToyasCard.lean, 'card_holds'). Laid BY PROGRAM, IN A SANDBOX (cutbox-door.mjs). By AI agents, Wed Nov 11 2026. No macro, syntax, notation, axiom, sorry.
-/
import Derived.Test.YtcffpnlochillaaGreatDoorRows
import GoSem.ClaimSeven
namespace Go.Proofs.YtcffpnlochillaaGreatDoor
namespace Rows

/-- THE TIED CARD OF 'bezanttop.TopBack'. -/
def topBackCard : Claim7 := { stood := { row := topBackRow, standIns := [], harness := (true, "8bb61fc5b3a00e8dc2b73046837d3128f3490ecefcbcf0396a69a68348031141"), looks := true }, kinds := [], alts := [], laidByText := true, laidKinds := [.handle], laidTests := true, laidLooks := .later }
def TopBackCardSaid : Prop := Claim7.holds Tryz.pinned (.plain (OpenSpec.ofChange topBackSpec)) topBackCard

/-- THE TIED CARD OF 'bezanttop.TopSame'. -/
def topSameCard : Claim7 := { stood := { row := topSameRow, standIns := [], harness := (true, "8bb61fc5b3a00e8dc2b73046837d3128f3490ecefcbcf0396a69a68348031141"), looks := true }, kinds := [], alts := [], laidByText := true, laidKinds := [.handle], laidTests := true, laidLooks := .later }
def TopSameCardSaid : Prop := Claim7.holds Tryz.pinned (.plain (OpenSpec.ofChange topSameSpec)) topSameCard

/-- THE TIED CARD OF 'bezanttop.TopTotal'. -/
def topTotalCard : Claim7 := { stood := { row := topTotalRow, standIns := [], harness := (true, "8bb61fc5b3a00e8dc2b73046837d3128f3490ecefcbcf0396a69a68348031141"), looks := true }, kinds := [], alts := [], laidByText := true, laidKinds := [.handle], laidTests := true, laidLooks := .later }
def TopTotalCardSaid : Prop := Claim7.holds Tryz.pinned (.plain (OpenSpec.ofChange topTotalSpec)) topTotalCard

/-- THE TIED CARD OF 'bezantlaw16.FileEncodes'. -/
def fileEncodesCard : Claim7 := { stood := { row := fileEncodesRow, standIns := [], harness := (true, "8bb61fc5b3a00e8dc2b73046837d3128f3490ecefcbcf0396a69a68348031141"), looks := true }, kinds := [], alts := [], laidByText := true, laidKinds := [.handle], laidTests := true, laidLooks := .later }
def FileEncodesCardSaid : Prop := Claim7.holds Tryz.pinned (.plain (OpenSpec.ofChange fileEncodesSpec)) fileEncodesCard

/-- THE TIED CARD OF 'bezantlaw16.FileParses'. -/
def fileParsesCard : Claim7 := { stood := { row := fileParsesRow, standIns := [], harness := (true, "8bb61fc5b3a00e8dc2b73046837d3128f3490ecefcbcf0396a69a68348031141"), looks := true }, kinds := [], alts := [], laidByText := true, laidKinds := [.handle], laidTests := true, laidLooks := .later }
def FileParsesCardSaid : Prop := Claim7.holds Tryz.pinned (.plain (OpenSpec.ofChange fileParsesSpec)) fileParsesCard

/-- THE TIED CARD OF 'bezantlaw16.FileBack'. -/
def fileBackCard : Claim7 := { stood := { row := fileBackRow, standIns := [], harness := (true, "8bb61fc5b3a00e8dc2b73046837d3128f3490ecefcbcf0396a69a68348031141"), looks := true }, kinds := [], alts := [], laidByText := true, laidKinds := [.handle], laidTests := true, laidLooks := .later }
def FileBackCardSaid : Prop := Claim7.holds Tryz.pinned (.plain (OpenSpec.ofChange fileBackSpec)) fileBackCard

/-- THE TIED CARD OF 'bezantlaw20.ScriptStays'. -/
def scriptStaysCard : Claim7 := { stood := { row := scriptStaysRow, standIns := [], harness := (true, "8bb61fc5b3a00e8dc2b73046837d3128f3490ecefcbcf0396a69a68348031141"), looks := true }, kinds := [], alts := [], laidByText := true, laidKinds := [.handle], laidTests := true, laidLooks := .later }
def ScriptStaysCardSaid : Prop := Claim7.holds Tryz.pinned (.plain (OpenSpec.ofChange scriptStaysSpec)) scriptStaysCard

/-- THE TIED CARD OF 'bezanttop.TopStrips'. -/
def topStripsCard : Claim7 := { stood := { row := topStripsRow, standIns := [], harness := (true, "8bb61fc5b3a00e8dc2b73046837d3128f3490ecefcbcf0396a69a68348031141"), looks := true }, kinds := [], alts := [], laidByText := true, laidKinds := [.handle], laidTests := true, laidLooks := .later }
def TopStripsCardSaid : Prop := Claim7.holds Tryz.pinned (.plain (OpenSpec.ofChange topStripsSpec)) topStripsCard

/-- THE SECOND FORM's CARD OF 'bezanttop.TopBack'. -/
def topBackUptoCard : Claim7 := { stood := { row := topBackUptoRow, standIns := [], harness := (true, "8bb61fc5b3a00e8dc2b73046837d3128f3490ecefcbcf0396a69a68348031141"), looks := true }, kinds := [], alts := [], laidByText := true, laidKinds := [.handle], laidTests := true, laidLooks := .later }
def TopBackUptoCardSaid : Prop := Claim7.holds Tryz.pinned (.plain (OpenSpec.upto topBackSpec)) topBackUptoCard

/-- THE SECOND FORM's CARD OF 'bezanttop.TopSame'. -/
def topSameUptoCard : Claim7 := { stood := { row := topSameUptoRow, standIns := [], harness := (true, "8bb61fc5b3a00e8dc2b73046837d3128f3490ecefcbcf0396a69a68348031141"), looks := true }, kinds := [], alts := [], laidByText := true, laidKinds := [.handle], laidTests := true, laidLooks := .later }
def TopSameUptoCardSaid : Prop := Claim7.holds Tryz.pinned (.plain (OpenSpec.upto topSameSpec)) topSameUptoCard

/-- THE SECOND FORM's CARD OF 'bezanttop.TopTotal'. -/
def topTotalUptoCard : Claim7 := { stood := { row := topTotalUptoRow, standIns := [], harness := (true, "8bb61fc5b3a00e8dc2b73046837d3128f3490ecefcbcf0396a69a68348031141"), looks := true }, kinds := [], alts := [], laidByText := true, laidKinds := [.handle], laidTests := true, laidLooks := .later }
def TopTotalUptoCardSaid : Prop := Claim7.holds Tryz.pinned (.plain (OpenSpec.upto topTotalSpec)) topTotalUptoCard

/-- THE SECOND FORM's CARD OF 'bezantlaw16.FileEncodes'. -/
def fileEncodesUptoCard : Claim7 := { stood := { row := fileEncodesUptoRow, standIns := [], harness := (true, "8bb61fc5b3a00e8dc2b73046837d3128f3490ecefcbcf0396a69a68348031141"), looks := true }, kinds := [], alts := [], laidByText := true, laidKinds := [.handle], laidTests := true, laidLooks := .later }
def FileEncodesUptoCardSaid : Prop := Claim7.holds Tryz.pinned (.plain (OpenSpec.upto fileEncodesSpec)) fileEncodesUptoCard

/-- THE SECOND FORM's CARD OF 'bezantlaw16.FileParses'. -/
def fileParsesUptoCard : Claim7 := { stood := { row := fileParsesUptoRow, standIns := [], harness := (true, "8bb61fc5b3a00e8dc2b73046837d3128f3490ecefcbcf0396a69a68348031141"), looks := true }, kinds := [], alts := [], laidByText := true, laidKinds := [.handle], laidTests := true, laidLooks := .later }
def FileParsesUptoCardSaid : Prop := Claim7.holds Tryz.pinned (.plain (OpenSpec.upto fileParsesSpec)) fileParsesUptoCard

/-- THE SECOND FORM's CARD OF 'bezantlaw16.FileBack'. -/
def fileBackUptoCard : Claim7 := { stood := { row := fileBackUptoRow, standIns := [], harness := (true, "8bb61fc5b3a00e8dc2b73046837d3128f3490ecefcbcf0396a69a68348031141"), looks := true }, kinds := [], alts := [], laidByText := true, laidKinds := [.handle], laidTests := true, laidLooks := .later }
def FileBackUptoCardSaid : Prop := Claim7.holds Tryz.pinned (.plain (OpenSpec.upto fileBackSpec)) fileBackUptoCard

/-- THE SECOND FORM's CARD OF 'bezantlaw20.ScriptStays'. -/
def scriptStaysUptoCard : Claim7 := { stood := { row := scriptStaysUptoRow, standIns := [], harness := (true, "8bb61fc5b3a00e8dc2b73046837d3128f3490ecefcbcf0396a69a68348031141"), looks := true }, kinds := [], alts := [], laidByText := true, laidKinds := [.handle], laidTests := true, laidLooks := .later }
def ScriptStaysUptoCardSaid : Prop := Claim7.holds Tryz.pinned (.plain (OpenSpec.upto scriptStaysSpec)) scriptStaysUptoCard

/-- THE SECOND FORM's CARD OF 'bezanttop.TopStrips'. -/
def topStripsUptoCard : Claim7 := { stood := { row := topStripsUptoRow, standIns := [], harness := (true, "8bb61fc5b3a00e8dc2b73046837d3128f3490ecefcbcf0396a69a68348031141"), looks := true }, kinds := [], alts := [], laidByText := true, laidKinds := [.handle], laidTests := true, laidLooks := .later }
def TopStripsUptoCardSaid : Prop := Claim7.holds Tryz.pinned (.plain (OpenSpec.upto topStripsSpec)) topStripsUptoCard
end Rows
end Go.Proofs.YtcffpnlochillaaGreatDoor

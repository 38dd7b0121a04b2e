/-
  DERIVED. GIVEN WITH THE SEED: THE CARDS: each row of YtlbepbcgnhodaaaGreatDoorRows.lean that lists a variable, with what it lists TIED to the program's text (the seventh form; the later family's looks); each row that meets fmt, with fmt's text TOLD by the authors' own Lean function (tested against real Go, not proved from fmt's source: count such statements apart). THE CARD IS WHAT COUNTS. Prove the row's statement (the work); the ties are given (YtlbepbcgnhodaaaGreatDoorTie.lean); close each card by the builder's one call (the guide's Derived/Test/ToyasCard.lean, 'card_holds'). Laid BY PROGRAM, IN A SANDBOX (cutbox-door.mjs). By AI agents, Wed Nov 11 2026. No macro, syntax, notation, axiom, sorry.
-/
import Derived.Test.YtlbepbcgnhodaaaGreatDoorRows
import GoSem.ClaimSeven
namespace Go.Proofs.YtlbepbcgnhodaaaGreatDoor
namespace Rows

/-- THE TIED CARD OF 'hamperlaw30.CmdNumbers'. -/
def cmdNumbersCard : Claim7 := { stood := { row := cmdNumbersRow, standIns := [], harness := (true, "0155de35e7362e3650afaaf1afbc536ca21186278d376238b654b24868bca2ff"), looks := true }, kinds := [], alts := [], laidByText := true, laidKinds := [.data, .data, .data, .data, .sentinel, .sentinel, .pinned], laidTests := true, laidLooks := .later }
def CmdNumbersCardSaid : Prop := Claim7.holds Tryz.pinned (.plain (OpenSpec.ofChange cmdNumbersSpec)) cmdNumbersCard

/-- THE TIED CARD OF 'hamperlaw30.CmdParses'. -/
def cmdParsesCard : Claim7 := { stood := { row := cmdParsesRow, standIns := [], harness := (true, "0155de35e7362e3650afaaf1afbc536ca21186278d376238b654b24868bca2ff"), looks := true }, kinds := [], alts := [], laidByText := true, laidKinds := [.data, .data, .data, .data, .sentinel, .sentinel, .pinned], laidTests := true, laidLooks := .later }
def CmdParsesCardSaid : Prop := Claim7.holds Tryz.pinned (.plain (OpenSpec.ofChange cmdParsesSpec)) cmdParsesCard

/-- THE TIED CARD OF 'hamperlaw30.CmdLetters'. -/
def cmdLettersCard : Claim7 := { stood := { row := cmdLettersRow, standIns := [], harness := (true, "0155de35e7362e3650afaaf1afbc536ca21186278d376238b654b24868bca2ff"), looks := true }, kinds := [], alts := [], laidByText := true, laidKinds := [.data, .data, .data, .data, .sentinel, .sentinel, .pinned], laidTests := true, laidLooks := .later }
def CmdLettersCardSaid : Prop := Claim7.holds Tryz.pinned (.plain (OpenSpec.ofChange cmdLettersSpec)) cmdLettersCard

/-- THE TIED CARD OF 'hamperlaw30.CmdSections'. -/
def cmdSectionsCard : Claim7 := { stood := { row := cmdSectionsRow, standIns := [], harness := (true, "0155de35e7362e3650afaaf1afbc536ca21186278d376238b654b24868bca2ff"), looks := true }, kinds := [], alts := [], laidByText := true, laidKinds := [.data, .data, .data, .data, .sentinel, .sentinel, .pinned], laidTests := true, laidLooks := .later }
def CmdSectionsCardSaid : Prop := Claim7.holds Tryz.pinned (.plain (OpenSpec.ofChange cmdSectionsSpec)) cmdSectionsCard

/-- THE TIED CARD OF 'hamperlaw30.CmdWords'. -/
def cmdWordsCard : Claim7 := { stood := { row := cmdWordsRow, standIns := [], harness := (true, "0155de35e7362e3650afaaf1afbc536ca21186278d376238b654b24868bca2ff"), looks := true }, kinds := [], alts := [], laidByText := true, laidKinds := [.data, .data, .data, .data, .sentinel, .sentinel, .pinned], laidTests := true, laidLooks := .later }
def CmdWordsCardSaid : Prop := Claim7.holds Tryz.pinned (.plain (OpenSpec.ofChange cmdWordsSpec)) cmdWordsCard

/-- THE SECOND FORM's CARD OF 'hamperlaw30.CmdNumbers'. -/
def cmdNumbersUptoCard : Claim7 := { stood := { row := cmdNumbersUptoRow, standIns := [], harness := (true, "0155de35e7362e3650afaaf1afbc536ca21186278d376238b654b24868bca2ff"), looks := true }, kinds := [], alts := [], laidByText := true, laidKinds := [.data, .data, .data, .data, .sentinel, .sentinel, .pinned], laidTests := true, laidLooks := .later }
def CmdNumbersUptoCardSaid : Prop := Claim7.holds Tryz.pinned (.plain (OpenSpec.upto cmdNumbersSpec)) cmdNumbersUptoCard

/-- THE SECOND FORM's CARD OF 'hamperlaw30.CmdParses'. -/
def cmdParsesUptoCard : Claim7 := { stood := { row := cmdParsesUptoRow, standIns := [], harness := (true, "0155de35e7362e3650afaaf1afbc536ca21186278d376238b654b24868bca2ff"), looks := true }, kinds := [], alts := [], laidByText := true, laidKinds := [.data, .data, .data, .data, .sentinel, .sentinel, .pinned], laidTests := true, laidLooks := .later }
def CmdParsesUptoCardSaid : Prop := Claim7.holds Tryz.pinned (.plain (OpenSpec.upto cmdParsesSpec)) cmdParsesUptoCard

/-- THE SECOND FORM's CARD OF 'hamperlaw30.CmdLetters'. -/
def cmdLettersUptoCard : Claim7 := { stood := { row := cmdLettersUptoRow, standIns := [], harness := (true, "0155de35e7362e3650afaaf1afbc536ca21186278d376238b654b24868bca2ff"), looks := true }, kinds := [], alts := [], laidByText := true, laidKinds := [.data, .data, .data, .data, .sentinel, .sentinel, .pinned], laidTests := true, laidLooks := .later }
def CmdLettersUptoCardSaid : Prop := Claim7.holds Tryz.pinned (.plain (OpenSpec.upto cmdLettersSpec)) cmdLettersUptoCard

/-- THE SECOND FORM's CARD OF 'hamperlaw30.CmdSections'. -/
def cmdSectionsUptoCard : Claim7 := { stood := { row := cmdSectionsUptoRow, standIns := [], harness := (true, "0155de35e7362e3650afaaf1afbc536ca21186278d376238b654b24868bca2ff"), looks := true }, kinds := [], alts := [], laidByText := true, laidKinds := [.data, .data, .data, .data, .sentinel, .sentinel, .pinned], laidTests := true, laidLooks := .later }
def CmdSectionsUptoCardSaid : Prop := Claim7.holds Tryz.pinned (.plain (OpenSpec.upto cmdSectionsSpec)) cmdSectionsUptoCard

/-- THE SECOND FORM's CARD OF 'hamperlaw30.CmdWords'. -/
def cmdWordsUptoCard : Claim7 := { stood := { row := cmdWordsUptoRow, standIns := [], harness := (true, "0155de35e7362e3650afaaf1afbc536ca21186278d376238b654b24868bca2ff"), looks := true }, kinds := [], alts := [], laidByText := true, laidKinds := [.data, .data, .data, .data, .sentinel, .sentinel, .pinned], laidTests := true, laidLooks := .later }
def CmdWordsUptoCardSaid : Prop := Claim7.holds Tryz.pinned (.plain (OpenSpec.upto cmdWordsSpec)) cmdWordsUptoCard
end Rows
end Go.Proofs.YtlbepbcgnhodaaaGreatDoor

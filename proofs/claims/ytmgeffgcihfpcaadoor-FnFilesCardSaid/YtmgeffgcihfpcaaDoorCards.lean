/-
  DERIVED. GIVEN WITH THE SEED: THE CARDS: each row of YtmgeffgcihfpcaaDoorRows.lean that lists a variable, with what it lists TIED to the program's text (the seventh form; the later family's looks); each row that meets fmt, with fmt's text TOLD by the authors' own Lean function (tested against real Go, not proved from fmt's source: count such statements apart). THE CARD IS WHAT COUNTS. Prove the row's statement (the work); the ties are given (YtmgeffgcihfpcaaDoorTie.lean); close each card by the builder's one call (the guide's Derived/Test/ToyasCard.lean, 'card_holds'). Laid BY PROGRAM, IN A SANDBOX (cutbox-door.mjs). By AI agents, Wed Nov 11 2026. No macro, syntax, notation, axiom, sorry.
-/
import Derived.Test.YtmgeffgcihfpcaaDoorRows
import GoSem.ClaimSeven
namespace Go.Proofs.YtmgeffgcihfpcaaDoor
namespace Rows

/-- THE TIED CARD OF 'laws.FnExactDiskOk'. -/
def fnExactDiskOkCard : Claim7 := { stood := { row := fnExactDiskOkRow, standIns := [], harness := (true, "0d237fb825eb718256397f307b5ffec76eaf7c8950bef828907dadf65337cff5"), looks := false }, kinds := [], alts := [], laidByText := true, laidKinds := [.data, .pinned], laidTests := true, laidLooks := .later }
def FnExactDiskOkCardSaid : Prop := Claim7.holds Tryd.pinned (.plain (OpenSpec.ofChange fnExactDiskOkSpec)) fnExactDiskOkCard

/-- THE TIED CARD OF 'laws.FnExactContent'. -/
def fnExactContentCard : Claim7 := { stood := { row := fnExactContentRow, standIns := [], harness := (true, "0d237fb825eb718256397f307b5ffec76eaf7c8950bef828907dadf65337cff5"), looks := false }, kinds := [], alts := [], laidByText := true, laidKinds := [.data, .pinned], laidTests := true, laidLooks := .later }
def FnExactContentCardSaid : Prop := Claim7.holds Tryd.pinned (.plain (OpenSpec.ofChange fnExactContentSpec)) fnExactContentCard

/-- THE TIED CARD OF 'laws.FnExactRemoveFile'. -/
def fnExactRemoveFileCard : Claim7 := { stood := { row := fnExactRemoveFileRow, standIns := [], harness := (true, "0d237fb825eb718256397f307b5ffec76eaf7c8950bef828907dadf65337cff5"), looks := false }, kinds := [], alts := [], laidByText := true, laidKinds := [.data, .pinned], laidTests := true, laidLooks := .later }
def FnExactRemoveFileCardSaid : Prop := Claim7.holds Tryd.pinned (.plain (OpenSpec.ofChange fnExactRemoveFileSpec)) fnExactRemoveFileCard

/-- THE TIED CARD OF 'laws.FnExactSyncFile'. -/
def fnExactSyncFileCard : Claim7 := { stood := { row := fnExactSyncFileRow, standIns := [], harness := (true, "0d237fb825eb718256397f307b5ffec76eaf7c8950bef828907dadf65337cff5"), looks := false }, kinds := [], alts := [], laidByText := true, laidKinds := [.data, .pinned], laidTests := true, laidLooks := .later }
def FnExactSyncFileCardSaid : Prop := Claim7.holds Tryd.pinned (.plain (OpenSpec.ofChange fnExactSyncFileSpec)) fnExactSyncFileCard

/-- THE TIED CARD OF 'laws.FnExactCutFile'. -/
def fnExactCutFileCard : Claim7 := { stood := { row := fnExactCutFileRow, standIns := [], harness := (true, "0d237fb825eb718256397f307b5ffec76eaf7c8950bef828907dadf65337cff5"), looks := false }, kinds := [], alts := [], laidByText := true, laidKinds := [.data, .pinned], laidTests := true, laidLooks := .later }
def FnExactCutFileCardSaid : Prop := Claim7.holds Tryd.pinned (.plain (OpenSpec.ofChange fnExactCutFileSpec)) fnExactCutFileCard

/-- THE TIED CARD OF 'laws.FnExactCrash'. -/
def fnExactCrashCard : Claim7 := { stood := { row := fnExactCrashRow, standIns := [], harness := (true, "0d237fb825eb718256397f307b5ffec76eaf7c8950bef828907dadf65337cff5"), looks := false }, kinds := [], alts := [], laidByText := true, laidKinds := [.data, .pinned], laidTests := true, laidLooks := .later }
def FnExactCrashCardSaid : Prop := Claim7.holds Tryd.pinned (.plain (OpenSpec.ofChange fnExactCrashSpec)) fnExactCrashCard

/-- THE TIED CARD OF 'laws.FnExactAppendFile'. -/
def fnExactAppendFileCard : Claim7 := { stood := { row := fnExactAppendFileRow, standIns := [], harness := (true, "0d237fb825eb718256397f307b5ffec76eaf7c8950bef828907dadf65337cff5"), looks := false }, kinds := [], alts := [], laidByText := true, laidKinds := [.data, .pinned], laidTests := true, laidLooks := .later }
def FnExactAppendFileCardSaid : Prop := Claim7.holds Tryd.pinned (.plain (OpenSpec.ofChange fnExactAppendFileSpec)) fnExactAppendFileCard

/-- THE TIED CARD OF 'laws.FnExactRenameFile'. -/
def fnExactRenameFileCard : Claim7 := { stood := { row := fnExactRenameFileRow, standIns := [], harness := (true, "0d237fb825eb718256397f307b5ffec76eaf7c8950bef828907dadf65337cff5"), looks := false }, kinds := [], alts := [], laidByText := true, laidKinds := [.data, .pinned], laidTests := true, laidLooks := .later }
def FnExactRenameFileCardSaid : Prop := Claim7.holds Tryd.pinned (.plain (OpenSpec.ofChange fnExactRenameFileSpec)) fnExactRenameFileCard

/-- THE TIED CARD OF 'laws.FnExactPlayDisk'. -/
def fnExactPlayDiskCard : Claim7 := { stood := { row := fnExactPlayDiskRow, standIns := [], harness := (true, "0d237fb825eb718256397f307b5ffec76eaf7c8950bef828907dadf65337cff5"), looks := false }, kinds := [], alts := [], laidByText := true, laidKinds := [.data, .pinned], laidTests := true, laidLooks := .later }
def FnExactPlayDiskCardSaid : Prop := Claim7.holds Tryd.pinned (.plain (OpenSpec.ofChange fnExactPlayDiskSpec)) fnExactPlayDiskCard

/-- THE TIED CARD OF 'laws.FnFiles'. -/
def fnFilesCard : Claim7 := { stood := { row := fnFilesRow, standIns := [], harness := (true, "0d237fb825eb718256397f307b5ffec76eaf7c8950bef828907dadf65337cff5"), looks := false }, kinds := [], alts := [], laidByText := true, laidKinds := [.data, .pinned], laidTests := true, laidLooks := .later }
def FnFilesCardSaid : Prop := Claim7.holds Tryd.pinned (.plain (OpenSpec.ofChange fnFilesSpec)) fnFilesCard

/-- THE TIED CARD OF 'laws.FnCrash'. -/
def fnCrashCard : Claim7 := { stood := { row := fnCrashRow, standIns := [], harness := (true, "0d237fb825eb718256397f307b5ffec76eaf7c8950bef828907dadf65337cff5"), looks := false }, kinds := [], alts := [], laidByText := true, laidKinds := [.data, .pinned], laidTests := true, laidLooks := .later }
def FnCrashCardSaid : Prop := Claim7.holds Tryd.pinned (.plain (OpenSpec.ofChange fnCrashSpec)) fnCrashCard

/-- THE SECOND FORM's CARD OF 'laws.FnExactDiskOk'. -/
def fnExactDiskOkUptoCard : Claim7 := { stood := { row := fnExactDiskOkUptoRow, standIns := [], harness := (true, "0d237fb825eb718256397f307b5ffec76eaf7c8950bef828907dadf65337cff5"), looks := false }, kinds := [], alts := [], laidByText := true, laidKinds := [.data, .pinned], laidTests := true, laidLooks := .later }
def FnExactDiskOkUptoCardSaid : Prop := Claim7.holds Tryd.pinned (.plain (OpenSpec.upto fnExactDiskOkSpec)) fnExactDiskOkUptoCard

/-- THE SECOND FORM's CARD OF 'laws.FnExactContent'. -/
def fnExactContentUptoCard : Claim7 := { stood := { row := fnExactContentUptoRow, standIns := [], harness := (true, "0d237fb825eb718256397f307b5ffec76eaf7c8950bef828907dadf65337cff5"), looks := false }, kinds := [], alts := [], laidByText := true, laidKinds := [.data, .pinned], laidTests := true, laidLooks := .later }
def FnExactContentUptoCardSaid : Prop := Claim7.holds Tryd.pinned (.plain (OpenSpec.upto fnExactContentSpec)) fnExactContentUptoCard

/-- THE SECOND FORM's CARD OF 'laws.FnExactRemoveFile'. -/
def fnExactRemoveFileUptoCard : Claim7 := { stood := { row := fnExactRemoveFileUptoRow, standIns := [], harness := (true, "0d237fb825eb718256397f307b5ffec76eaf7c8950bef828907dadf65337cff5"), looks := false }, kinds := [], alts := [], laidByText := true, laidKinds := [.data, .pinned], laidTests := true, laidLooks := .later }
def FnExactRemoveFileUptoCardSaid : Prop := Claim7.holds Tryd.pinned (.plain (OpenSpec.upto fnExactRemoveFileSpec)) fnExactRemoveFileUptoCard

/-- THE SECOND FORM's CARD OF 'laws.FnExactSyncFile'. -/
def fnExactSyncFileUptoCard : Claim7 := { stood := { row := fnExactSyncFileUptoRow, standIns := [], harness := (true, "0d237fb825eb718256397f307b5ffec76eaf7c8950bef828907dadf65337cff5"), looks := false }, kinds := [], alts := [], laidByText := true, laidKinds := [.data, .pinned], laidTests := true, laidLooks := .later }
def FnExactSyncFileUptoCardSaid : Prop := Claim7.holds Tryd.pinned (.plain (OpenSpec.upto fnExactSyncFileSpec)) fnExactSyncFileUptoCard

/-- THE SECOND FORM's CARD OF 'laws.FnExactCutFile'. -/
def fnExactCutFileUptoCard : Claim7 := { stood := { row := fnExactCutFileUptoRow, standIns := [], harness := (true, "0d237fb825eb718256397f307b5ffec76eaf7c8950bef828907dadf65337cff5"), looks := false }, kinds := [], alts := [], laidByText := true, laidKinds := [.data, .pinned], laidTests := true, laidLooks := .later }
def FnExactCutFileUptoCardSaid : Prop := Claim7.holds Tryd.pinned (.plain (OpenSpec.upto fnExactCutFileSpec)) fnExactCutFileUptoCard

/-- THE SECOND FORM's CARD OF 'laws.FnExactCrash'. -/
def fnExactCrashUptoCard : Claim7 := { stood := { row := fnExactCrashUptoRow, standIns := [], harness := (true, "0d237fb825eb718256397f307b5ffec76eaf7c8950bef828907dadf65337cff5"), looks := false }, kinds := [], alts := [], laidByText := true, laidKinds := [.data, .pinned], laidTests := true, laidLooks := .later }
def FnExactCrashUptoCardSaid : Prop := Claim7.holds Tryd.pinned (.plain (OpenSpec.upto fnExactCrashSpec)) fnExactCrashUptoCard

/-- THE SECOND FORM's CARD OF 'laws.FnExactAppendFile'. -/
def fnExactAppendFileUptoCard : Claim7 := { stood := { row := fnExactAppendFileUptoRow, standIns := [], harness := (true, "0d237fb825eb718256397f307b5ffec76eaf7c8950bef828907dadf65337cff5"), looks := false }, kinds := [], alts := [], laidByText := true, laidKinds := [.data, .pinned], laidTests := true, laidLooks := .later }
def FnExactAppendFileUptoCardSaid : Prop := Claim7.holds Tryd.pinned (.plain (OpenSpec.upto fnExactAppendFileSpec)) fnExactAppendFileUptoCard

/-- THE SECOND FORM's CARD OF 'laws.FnExactRenameFile'. -/
def fnExactRenameFileUptoCard : Claim7 := { stood := { row := fnExactRenameFileUptoRow, standIns := [], harness := (true, "0d237fb825eb718256397f307b5ffec76eaf7c8950bef828907dadf65337cff5"), looks := false }, kinds := [], alts := [], laidByText := true, laidKinds := [.data, .pinned], laidTests := true, laidLooks := .later }
def FnExactRenameFileUptoCardSaid : Prop := Claim7.holds Tryd.pinned (.plain (OpenSpec.upto fnExactRenameFileSpec)) fnExactRenameFileUptoCard

/-- THE SECOND FORM's CARD OF 'laws.FnExactPlayDisk'. -/
def fnExactPlayDiskUptoCard : Claim7 := { stood := { row := fnExactPlayDiskUptoRow, standIns := [], harness := (true, "0d237fb825eb718256397f307b5ffec76eaf7c8950bef828907dadf65337cff5"), looks := false }, kinds := [], alts := [], laidByText := true, laidKinds := [.data, .pinned], laidTests := true, laidLooks := .later }
def FnExactPlayDiskUptoCardSaid : Prop := Claim7.holds Tryd.pinned (.plain (OpenSpec.upto fnExactPlayDiskSpec)) fnExactPlayDiskUptoCard

/-- THE SECOND FORM's CARD OF 'laws.FnFiles'. -/
def fnFilesUptoCard : Claim7 := { stood := { row := fnFilesUptoRow, standIns := [], harness := (true, "0d237fb825eb718256397f307b5ffec76eaf7c8950bef828907dadf65337cff5"), looks := false }, kinds := [], alts := [], laidByText := true, laidKinds := [.data, .pinned], laidTests := true, laidLooks := .later }
def FnFilesUptoCardSaid : Prop := Claim7.holds Tryd.pinned (.plain (OpenSpec.upto fnFilesSpec)) fnFilesUptoCard

/-- THE SECOND FORM's CARD OF 'laws.FnCrash'. -/
def fnCrashUptoCard : Claim7 := { stood := { row := fnCrashUptoRow, standIns := [], harness := (true, "0d237fb825eb718256397f307b5ffec76eaf7c8950bef828907dadf65337cff5"), looks := false }, kinds := [], alts := [], laidByText := true, laidKinds := [.data, .pinned], laidTests := true, laidLooks := .later }
def FnCrashUptoCardSaid : Prop := Claim7.holds Tryd.pinned (.plain (OpenSpec.upto fnCrashSpec)) fnCrashUptoCard
end Rows
end Go.Proofs.YtmgeffgcihfpcaaDoor

/-
  DERIVED. GIVEN WITH THE SEED: THE CARDS: each row of YtcgojdhbphocgaaDoorRows.lean that lists a variable, with what it lists TIED to the program's text (the seventh form; the later family's looks); each row that meets fmt, with fmt's text TOLD by the authors' own Lean function (tested against real Go, not proved from fmt's source: count such statements apart). THE CARD IS WHAT COUNTS. Prove the row's statement (the work); the ties are given (YtcgojdhbphocgaaDoorTie.lean); close each card by the builder's one call (the guide's Derived/Test/ToyasCard.lean, 'card_holds'). Laid BY PROGRAM, IN A SANDBOX (cutbox-door.mjs). By AI agents, Wed Nov 11 2026. No macro, syntax, notation, axiom, sorry.
-/
import Derived.Test.YtcgojdhbphocgaaDoorRows
import GoSem.ClaimSeven
namespace Go.Proofs.YtcgojdhbphocgaaDoor
namespace Rows

/-- THE TIED CARD OF 'laws.FnExactWalSync'. -/
def fnExactWalSyncCard : Claim7 := { stood := { row := fnExactWalSyncRow, standIns := [], harness := (true, "b1692b742e095caf07432562fc799f6de926d7c60cbedae255e76c598c097c94"), looks := false }, kinds := [], alts := [], laidByText := true, laidKinds := [.data, .pinned], laidTests := true, laidLooks := .later }
def FnExactWalSyncCardSaid : Prop := Claim7.holds Tryd.pinned (.plain (OpenSpec.ofChange fnExactWalSyncSpec)) fnExactWalSyncCard

/-- THE TIED CARD OF 'laws.FnExactWalCount'. -/
def fnExactWalCountCard : Claim7 := { stood := { row := fnExactWalCountRow, standIns := [], harness := (true, "b1692b742e095caf07432562fc799f6de926d7c60cbedae255e76c598c097c94"), looks := false }, kinds := [], alts := [], laidByText := true, laidKinds := [.data, .pinned], laidTests := true, laidLooks := .later }
def FnExactWalCountCardSaid : Prop := Claim7.holds Tryd.pinned (.plain (OpenSpec.ofChange fnExactWalCountSpec)) fnExactWalCountCard

/-- THE TIED CARD OF 'laws.FnExactWalRead'. -/
def fnExactWalReadCard : Claim7 := { stood := { row := fnExactWalReadRow, standIns := [], harness := (true, "b1692b742e095caf07432562fc799f6de926d7c60cbedae255e76c598c097c94"), looks := false }, kinds := [], alts := [], laidByText := true, laidKinds := [.data, .pinned], laidTests := true, laidLooks := .later }
def FnExactWalReadCardSaid : Prop := Claim7.holds Tryd.pinned (.plain (OpenSpec.ofChange fnExactWalReadSpec)) fnExactWalReadCard

/-- THE TIED CARD OF 'laws.FnExactWalRepair'. -/
def fnExactWalRepairCard : Claim7 := { stood := { row := fnExactWalRepairRow, standIns := [], harness := (true, "b1692b742e095caf07432562fc799f6de926d7c60cbedae255e76c598c097c94"), looks := false }, kinds := [], alts := [], laidByText := true, laidKinds := [.data, .pinned], laidTests := true, laidLooks := .later }
def FnExactWalRepairCardSaid : Prop := Claim7.holds Tryd.pinned (.plain (OpenSpec.ofChange fnExactWalRepairSpec)) fnExactWalRepairCard

/-- THE TIED CARD OF 'laws.FnExactWalAppend'. -/
def fnExactWalAppendCard : Claim7 := { stood := { row := fnExactWalAppendRow, standIns := [], harness := (true, "b1692b742e095caf07432562fc799f6de926d7c60cbedae255e76c598c097c94"), looks := false }, kinds := [], alts := [], laidByText := true, laidKinds := [.data, .pinned], laidTests := true, laidLooks := .later }
def FnExactWalAppendCardSaid : Prop := Claim7.holds Tryd.pinned (.plain (OpenSpec.ofChange fnExactWalAppendSpec)) fnExactWalAppendCard

/-- THE TIED CARD OF 'laws.FnExactWalCompact'. -/
def fnExactWalCompactCard : Claim7 := { stood := { row := fnExactWalCompactRow, standIns := [], harness := (true, "b1692b742e095caf07432562fc799f6de926d7c60cbedae255e76c598c097c94"), looks := false }, kinds := [], alts := [], laidByText := true, laidKinds := [.data, .pinned], laidTests := true, laidLooks := .later }
def FnExactWalCompactCardSaid : Prop := Claim7.holds Tryd.pinned (.plain (OpenSpec.ofChange fnExactWalCompactSpec)) fnExactWalCompactCard

/-- THE TIED CARD OF 'laws.FnWal'. -/
def fnWalCard : Claim7 := { stood := { row := fnWalRow, standIns := [], harness := (true, "b1692b742e095caf07432562fc799f6de926d7c60cbedae255e76c598c097c94"), looks := false }, kinds := [], alts := [], laidByText := true, laidKinds := [.data, .pinned], laidTests := true, laidLooks := .later }
def FnWalCardSaid : Prop := Claim7.holds Tryd.pinned (.plain (OpenSpec.ofChange fnWalSpec)) fnWalCard

/-- THE TIED CARD OF 'laws.FnCompact'. -/
def fnCompactCard : Claim7 := { stood := { row := fnCompactRow, standIns := [], harness := (true, "b1692b742e095caf07432562fc799f6de926d7c60cbedae255e76c598c097c94"), looks := false }, kinds := [], alts := [], laidByText := true, laidKinds := [.data, .pinned], laidTests := true, laidLooks := .later }
def FnCompactCardSaid : Prop := Claim7.holds Tryd.pinned (.plain (OpenSpec.ofChange fnCompactSpec)) fnCompactCard

/-- THE SECOND FORM's CARD OF 'laws.FnExactWalSync'. -/
def fnExactWalSyncUptoCard : Claim7 := { stood := { row := fnExactWalSyncUptoRow, standIns := [], harness := (true, "b1692b742e095caf07432562fc799f6de926d7c60cbedae255e76c598c097c94"), looks := false }, kinds := [], alts := [], laidByText := true, laidKinds := [.data, .pinned], laidTests := true, laidLooks := .later }
def FnExactWalSyncUptoCardSaid : Prop := Claim7.holds Tryd.pinned (.plain (OpenSpec.upto fnExactWalSyncSpec)) fnExactWalSyncUptoCard

/-- THE SECOND FORM's CARD OF 'laws.FnExactWalCount'. -/
def fnExactWalCountUptoCard : Claim7 := { stood := { row := fnExactWalCountUptoRow, standIns := [], harness := (true, "b1692b742e095caf07432562fc799f6de926d7c60cbedae255e76c598c097c94"), looks := false }, kinds := [], alts := [], laidByText := true, laidKinds := [.data, .pinned], laidTests := true, laidLooks := .later }
def FnExactWalCountUptoCardSaid : Prop := Claim7.holds Tryd.pinned (.plain (OpenSpec.upto fnExactWalCountSpec)) fnExactWalCountUptoCard

/-- THE SECOND FORM's CARD OF 'laws.FnExactWalRead'. -/
def fnExactWalReadUptoCard : Claim7 := { stood := { row := fnExactWalReadUptoRow, standIns := [], harness := (true, "b1692b742e095caf07432562fc799f6de926d7c60cbedae255e76c598c097c94"), looks := false }, kinds := [], alts := [], laidByText := true, laidKinds := [.data, .pinned], laidTests := true, laidLooks := .later }
def FnExactWalReadUptoCardSaid : Prop := Claim7.holds Tryd.pinned (.plain (OpenSpec.upto fnExactWalReadSpec)) fnExactWalReadUptoCard

/-- THE SECOND FORM's CARD OF 'laws.FnExactWalRepair'. -/
def fnExactWalRepairUptoCard : Claim7 := { stood := { row := fnExactWalRepairUptoRow, standIns := [], harness := (true, "b1692b742e095caf07432562fc799f6de926d7c60cbedae255e76c598c097c94"), looks := false }, kinds := [], alts := [], laidByText := true, laidKinds := [.data, .pinned], laidTests := true, laidLooks := .later }
def FnExactWalRepairUptoCardSaid : Prop := Claim7.holds Tryd.pinned (.plain (OpenSpec.upto fnExactWalRepairSpec)) fnExactWalRepairUptoCard

/-- THE SECOND FORM's CARD OF 'laws.FnExactWalAppend'. -/
def fnExactWalAppendUptoCard : Claim7 := { stood := { row := fnExactWalAppendUptoRow, standIns := [], harness := (true, "b1692b742e095caf07432562fc799f6de926d7c60cbedae255e76c598c097c94"), looks := false }, kinds := [], alts := [], laidByText := true, laidKinds := [.data, .pinned], laidTests := true, laidLooks := .later }
def FnExactWalAppendUptoCardSaid : Prop := Claim7.holds Tryd.pinned (.plain (OpenSpec.upto fnExactWalAppendSpec)) fnExactWalAppendUptoCard

/-- THE SECOND FORM's CARD OF 'laws.FnExactWalCompact'. -/
def fnExactWalCompactUptoCard : Claim7 := { stood := { row := fnExactWalCompactUptoRow, standIns := [], harness := (true, "b1692b742e095caf07432562fc799f6de926d7c60cbedae255e76c598c097c94"), looks := false }, kinds := [], alts := [], laidByText := true, laidKinds := [.data, .pinned], laidTests := true, laidLooks := .later }
def FnExactWalCompactUptoCardSaid : Prop := Claim7.holds Tryd.pinned (.plain (OpenSpec.upto fnExactWalCompactSpec)) fnExactWalCompactUptoCard

/-- THE SECOND FORM's CARD OF 'laws.FnWal'. -/
def fnWalUptoCard : Claim7 := { stood := { row := fnWalUptoRow, standIns := [], harness := (true, "b1692b742e095caf07432562fc799f6de926d7c60cbedae255e76c598c097c94"), looks := false }, kinds := [], alts := [], laidByText := true, laidKinds := [.data, .pinned], laidTests := true, laidLooks := .later }
def FnWalUptoCardSaid : Prop := Claim7.holds Tryd.pinned (.plain (OpenSpec.upto fnWalSpec)) fnWalUptoCard

/-- THE SECOND FORM's CARD OF 'laws.FnCompact'. -/
def fnCompactUptoCard : Claim7 := { stood := { row := fnCompactUptoRow, standIns := [], harness := (true, "b1692b742e095caf07432562fc799f6de926d7c60cbedae255e76c598c097c94"), looks := false }, kinds := [], alts := [], laidByText := true, laidKinds := [.data, .pinned], laidTests := true, laidLooks := .later }
def FnCompactUptoCardSaid : Prop := Claim7.holds Tryd.pinned (.plain (OpenSpec.upto fnCompactSpec)) fnCompactUptoCard
end Rows
end Go.Proofs.YtcgojdhbphocgaaDoor

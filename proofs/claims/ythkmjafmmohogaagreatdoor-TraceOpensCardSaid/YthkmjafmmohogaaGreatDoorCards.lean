/-
  DERIVED. GIVEN WITH THE SEED: THE CARDS: each row of YthkmjafmmohogaaGreatDoorRows.lean that lists a variable, with what it lists TIED to the program's text (the seventh form; the later family's looks); each row that meets fmt, with fmt's text TOLD by the authors' own Lean function (tested against real Go, not proved from fmt's source: count such statements apart). THE CARD IS WHAT COUNTS. Prove the row's statement (the work); the ties are given (YthkmjafmmohogaaGreatDoorTie.lean); close each card by the builder's one call (the guide's Derived/Test/ToyasCard.lean, 'card_holds'). Laid BY PROGRAM, IN A SANDBOX (cutbox-door.mjs). By AI agents, Wed Nov 11 2026. No macro, syntax, notation, axiom, sorry.
-/
import Derived.Test.YthkmjafmmohogaaGreatDoorRows
import GoSem.ClaimSeven
namespace Go.Proofs.YthkmjafmmohogaaGreatDoor
namespace Rows

/-- THE TIED CARD OF 'courierlaw11.DecodeUnknown'. -/
def decodeUnknownCard : Claim7 := { stood := { row := decodeUnknownRow, standIns := [], harness := (true, "d43956e2c0045511a75c1058566ce7f98b6ed240f5717de9ee814e2f89693d4d"), looks := true }, kinds := [], alts := [], laidByText := true, laidKinds := [.data, .pinned], laidTests := true, laidLooks := .later }
def DecodeUnknownCardSaid : Prop := Claim7.holds Tryz.pinned (.plain (OpenSpec.ofChange decodeUnknownSpec)) decodeUnknownCard

/-- THE TIED CARD OF 'courierlaw21.TraceOpens'. -/
def traceOpensCard : Claim7 := { stood := { row := traceOpensRow, standIns := [], harness := (true, "d43956e2c0045511a75c1058566ce7f98b6ed240f5717de9ee814e2f89693d4d"), looks := true }, kinds := [], alts := [], laidByText := true, laidKinds := [.data, .pinned], laidTests := true, laidLooks := .later }
def TraceOpensCardSaid : Prop := Claim7.holds Tryz.pinned (.plain (OpenSpec.ofChange traceOpensSpec)) traceOpensCard

/-- THE TIED CARD OF 'courierlaw24.WorldNames'. -/
def worldNamesCard : Claim7 := { stood := { row := worldNamesRow, standIns := [], harness := (true, "d43956e2c0045511a75c1058566ce7f98b6ed240f5717de9ee814e2f89693d4d"), looks := true }, kinds := [], alts := [], laidByText := true, laidKinds := [.data, .pinned], laidTests := true, laidLooks := .later }
def WorldNamesCardSaid : Prop := Claim7.holds Tryz.pinned (.plain (OpenSpec.ofChange worldNamesSpec)) worldNamesCard

/-- THE SECOND FORM's CARD OF 'courierlaw11.DecodeUnknown'. -/
def decodeUnknownUptoCard : Claim7 := { stood := { row := decodeUnknownUptoRow, standIns := [], harness := (true, "d43956e2c0045511a75c1058566ce7f98b6ed240f5717de9ee814e2f89693d4d"), looks := true }, kinds := [], alts := [], laidByText := true, laidKinds := [.data, .pinned], laidTests := true, laidLooks := .later }
def DecodeUnknownUptoCardSaid : Prop := Claim7.holds Tryz.pinned (.plain (OpenSpec.upto decodeUnknownSpec)) decodeUnknownUptoCard

/-- THE SECOND FORM's CARD OF 'courierlaw21.TraceOpens'. -/
def traceOpensUptoCard : Claim7 := { stood := { row := traceOpensUptoRow, standIns := [], harness := (true, "d43956e2c0045511a75c1058566ce7f98b6ed240f5717de9ee814e2f89693d4d"), looks := true }, kinds := [], alts := [], laidByText := true, laidKinds := [.data, .pinned], laidTests := true, laidLooks := .later }
def TraceOpensUptoCardSaid : Prop := Claim7.holds Tryz.pinned (.plain (OpenSpec.upto traceOpensSpec)) traceOpensUptoCard

/-- THE SECOND FORM's CARD OF 'courierlaw24.WorldNames'. -/
def worldNamesUptoCard : Claim7 := { stood := { row := worldNamesUptoRow, standIns := [], harness := (true, "d43956e2c0045511a75c1058566ce7f98b6ed240f5717de9ee814e2f89693d4d"), looks := true }, kinds := [], alts := [], laidByText := true, laidKinds := [.data, .pinned], laidTests := true, laidLooks := .later }
def WorldNamesUptoCardSaid : Prop := Claim7.holds Tryz.pinned (.plain (OpenSpec.upto worldNamesSpec)) worldNamesUptoCard
end Rows
end Go.Proofs.YthkmjafmmohogaaGreatDoor

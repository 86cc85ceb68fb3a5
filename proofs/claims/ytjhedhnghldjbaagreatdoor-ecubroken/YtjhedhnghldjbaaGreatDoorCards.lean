/-
  DERIVED. GIVEN WITH THE SEED: THE CARDS: each row of YtjhedhnghldjbaaGreatDoorRows.lean that lists a variable, with what it lists TIED to the program's text (the seventh form; the later family's looks); each row that meets fmt, with fmt's text TOLD by the authors' own Lean function (tested against real Go, not proved from fmt's source: count such statements apart). THE CARD IS WHAT COUNTS. Prove the row's statement (the work); the ties are given (YtjhedhnghldjbaaGreatDoorTie.lean); close each card by the builder's one call (the guide's Derived/Test/ToyasCard.lean, 'card_holds'). Laid BY PROGRAM, IN A SANDBOX (cutbox-door.mjs). By AI agents, Wed Nov 11 2026. No macro, syntax, notation, axiom, sorry.
-/
import Derived.Test.YtjhedhnghldjbaaGreatDoorRows
import GoSem.ClaimSeven
namespace Go.Proofs.YtjhedhnghldjbaaGreatDoor
namespace Rows

/-- THE TIED CARD OF 'magnetolaw56.EcuExplains'. -/
def ecuExplainsCard : Claim7 := { stood := { row := ecuExplainsRow, standIns := [], harness := (true, "4e142df824e10561aebcc6baf8ea7fc659197786861958a9deeb91bde1b806d6"), looks := false }, kinds := [], alts := [], laidByText := true, laidKinds := [.data, .data, .data], laidTests := true, laidLooks := .later }
def EcuExplainsCardSaid : Prop := Claim7.holds Tryz.pinned (.plain (OpenSpec.ofChange ecuExplainsSpec)) ecuExplainsCard

/-- THE TIED CARD OF 'magnetolaw56.EcuBroken'. -/
def ecuBrokenCard : Claim7 := { stood := { row := ecuBrokenRow, standIns := [], harness := (true, "4e142df824e10561aebcc6baf8ea7fc659197786861958a9deeb91bde1b806d6"), looks := false }, kinds := [], alts := [], laidByText := true, laidKinds := [.data, .data, .data], laidTests := true, laidLooks := .later }
def EcuBrokenCardSaid : Prop := Claim7.holds Tryz.pinned (.plain (OpenSpec.ofChange ecuBrokenSpec)) ecuBrokenCard

/-- THE SECOND FORM's CARD OF 'magnetolaw56.EcuExplains'. -/
def ecuExplainsUptoCard : Claim7 := { stood := { row := ecuExplainsUptoRow, standIns := [], harness := (true, "4e142df824e10561aebcc6baf8ea7fc659197786861958a9deeb91bde1b806d6"), looks := false }, kinds := [], alts := [], laidByText := true, laidKinds := [.data, .data, .data], laidTests := true, laidLooks := .later }
def EcuExplainsUptoCardSaid : Prop := Claim7.holds Tryz.pinned (.plain (OpenSpec.upto ecuExplainsSpec)) ecuExplainsUptoCard

/-- THE SECOND FORM's CARD OF 'magnetolaw56.EcuBroken'. -/
def ecuBrokenUptoCard : Claim7 := { stood := { row := ecuBrokenUptoRow, standIns := [], harness := (true, "4e142df824e10561aebcc6baf8ea7fc659197786861958a9deeb91bde1b806d6"), looks := false }, kinds := [], alts := [], laidByText := true, laidKinds := [.data, .data, .data], laidTests := true, laidLooks := .later }
def EcuBrokenUptoCardSaid : Prop := Claim7.holds Tryz.pinned (.plain (OpenSpec.upto ecuBrokenSpec)) ecuBrokenUptoCard
end Rows
end Go.Proofs.YtjhedhnghldjbaaGreatDoor

/-
  No cell of these rows narrows 'for every input' (looked for: loops, veiled, ifaces, maps, wideKeys, modest, calm, conditions, laid).
  DERIVED. THE GIVEN ROWS OF THIS SEAT. 8 by the template 'for every input the law returns true; each argument reads behind the call as it read before'; 0 by the template 'total and deterministic' (their statements: YtmocoljbdiphoaaTotals.lean).
  GIVEN WITH THE SEED: the statements are not yours to turn. If you find one false, say at which input.
  Laid BY PROGRAM, IN A SANDBOX (cutbox-rows.mjs): the forced cells as the released guide's own fill.sh prints them over the translation aa7c110a77755a96… (all of the seat's roots in one cut). By AI agents, Wed Nov 11 2026. No macro, syntax, notation, axiom, sorry.
-/
import Derived.Test.YtmocoljbdiphoaaChecked
import GoSem.Claim
import GoSem.ClaimJoined
import GoSem.ClaimMapViews
import Derived.JoinedTies
import Derived.KernelRfl
namespace Go.Proofs.Ytmocoljbdiphoaa
/- THE CELL 'sum', in the pinned program and in every row, IS THE sha256 OF THE DUMP (.gsa) THAT YtmocoljbdiphoaaProg.lean LOADS. Nothing in Lean hashes anything: it is a label: what it is worth is what the hold of that sum in a sandbox is worth. -/
noncomputable def Try.pinned : Pinned := { name := "ytmocoljbdiphoaa", sum := "aa7c110a77755a968fc2dd96f121d7c8a4debd2421053134623a5c8f14e6e8a1", checked := Try.checked }
namespace Rows
def none {H : Type} : Left H := { results := [], args := [] }

/-- 'magnetolaw23.EventsValid': WHATEVER THE INPUT: true; the input reads as it did. -/
def eventsValidSpec : ChangeSpec := { name := "eventsValid", fn := fun _ => fun
  | [d1, d2] => { results := [.lit (.bool true)], args := [d1, d2] }
  | _ => none }
def eventsValidRow : OpenClaim := { program := "ytmocoljbdiphoaa", sum := "aa7c110a77755a968fc2dd96f121d7c8a4debd2421053134623a5c8f14e6e8a1", func := "magneto/magnetolaw23.EventsValid", spec := "eventsValid", unfollowed := true, recurses := true, apart := false }
def EventsValidSaid : Prop := eventsValidRow.holds Try.pinned (OpenSpec.ofChange eventsValidSpec)

/-- ITS FALSE NEIGHBOUR: 'it returns false'. Refute it at one input. -/
def eventsValidWrong : ChangeSpec := { name := "eventsValid", fn := fun _ => fun
  | [d1, d2] => { results := [.lit (.bool false)], args := [d1, d2] }
  | _ => none }
def EventsValidWrongFalsely : Prop := eventsValidRow.holds Try.pinned (OpenSpec.ofChange eventsValidWrong)

/-- 'magnetolaw23.EventsCenters': WHATEVER THE INPUT: true; the input reads as it did. -/
def eventsCentersSpec : ChangeSpec := { name := "eventsCenters", fn := fun _ => fun
  | [d1, d2] => { results := [.lit (.bool true)], args := [d1, d2] }
  | _ => none }
def eventsCentersRow : OpenClaim := { program := "ytmocoljbdiphoaa", sum := "aa7c110a77755a968fc2dd96f121d7c8a4debd2421053134623a5c8f14e6e8a1", func := "magneto/magnetolaw23.EventsCenters", spec := "eventsCenters", unfollowed := true, recurses := true, apart := false }
def EventsCentersSaid : Prop := eventsCentersRow.holds Try.pinned (OpenSpec.ofChange eventsCentersSpec)

/-- ITS FALSE NEIGHBOUR: 'it returns false'. Refute it at one input. -/
def eventsCentersWrong : ChangeSpec := { name := "eventsCenters", fn := fun _ => fun
  | [d1, d2] => { results := [.lit (.bool false)], args := [d1, d2] }
  | _ => none }
def EventsCentersWrongFalsely : Prop := eventsCentersRow.holds Try.pinned (OpenSpec.ofChange eventsCentersWrong)

/-- 'magnetolaw23.EventsPlans': WHATEVER THE INPUT: true; the input reads as it did. -/
def eventsPlansSpec : ChangeSpec := { name := "eventsPlans", fn := fun _ => fun
  | [d1, d2, d3] => { results := [.lit (.bool true)], args := [d1, d2, d3] }
  | _ => none }
def eventsPlansRow : OpenClaim := { program := "ytmocoljbdiphoaa", sum := "aa7c110a77755a968fc2dd96f121d7c8a4debd2421053134623a5c8f14e6e8a1", func := "magneto/magnetolaw23.EventsPlans", spec := "eventsPlans", unfollowed := true, recurses := true, apart := false }
def EventsPlansSaid : Prop := eventsPlansRow.holds Try.pinned (OpenSpec.ofChange eventsPlansSpec)

/-- ITS FALSE NEIGHBOUR: 'it returns false'. Refute it at one input. -/
def eventsPlansWrong : ChangeSpec := { name := "eventsPlans", fn := fun _ => fun
  | [d1, d2, d3] => { results := [.lit (.bool false)], args := [d1, d2, d3] }
  | _ => none }
def EventsPlansWrongFalsely : Prop := eventsPlansRow.holds Try.pinned (OpenSpec.ofChange eventsPlansWrong)

/-- 'magnetolaw23.EventsTurned': WHATEVER THE INPUT: true; the input reads as it did. -/
def eventsTurnedSpec : ChangeSpec := { name := "eventsTurned", fn := fun _ => fun
  | [d1, d2, d3, d4] => { results := [.lit (.bool true)], args := [d1, d2, d3, d4] }
  | _ => none }
def eventsTurnedRow : OpenClaim := { program := "ytmocoljbdiphoaa", sum := "aa7c110a77755a968fc2dd96f121d7c8a4debd2421053134623a5c8f14e6e8a1", func := "magneto/magnetolaw23.EventsTurned", spec := "eventsTurned", unfollowed := true, recurses := true, apart := false }
def EventsTurnedSaid : Prop := eventsTurnedRow.holds Try.pinned (OpenSpec.ofChange eventsTurnedSpec)

/-- ITS FALSE NEIGHBOUR: 'it returns false'. Refute it at one input. -/
def eventsTurnedWrong : ChangeSpec := { name := "eventsTurned", fn := fun _ => fun
  | [d1, d2, d3, d4] => { results := [.lit (.bool false)], args := [d1, d2, d3, d4] }
  | _ => none }
def EventsTurnedWrongFalsely : Prop := eventsTurnedRow.holds Try.pinned (OpenSpec.ofChange eventsTurnedWrong)

/-- 'magnetolaw23.EventsSpread': WHATEVER THE INPUT: true; the input reads as it did. -/
def eventsSpreadSpec : ChangeSpec := { name := "eventsSpread", fn := fun _ => fun
  | [d] => { results := [.lit (.bool true)], args := [d] }
  | _ => none }
def eventsSpreadRow : OpenClaim := { program := "ytmocoljbdiphoaa", sum := "aa7c110a77755a968fc2dd96f121d7c8a4debd2421053134623a5c8f14e6e8a1", func := "magneto/magnetolaw23.EventsSpread", spec := "eventsSpread", unfollowed := true, recurses := true, apart := false }
def EventsSpreadSaid : Prop := eventsSpreadRow.holds Try.pinned (OpenSpec.ofChange eventsSpreadSpec)

/-- ITS FALSE NEIGHBOUR: 'it returns false'. Refute it at one input. -/
def eventsSpreadWrong : ChangeSpec := { name := "eventsSpread", fn := fun _ => fun
  | [d] => { results := [.lit (.bool false)], args := [d] }
  | _ => none }
def EventsSpreadWrongFalsely : Prop := eventsSpreadRow.holds Try.pinned (OpenSpec.ofChange eventsSpreadWrong)

/-- 'magnetolaw23.EventsPairs': WHATEVER THE INPUT: true; the input reads as it did. -/
def eventsPairsSpec : ChangeSpec := { name := "eventsPairs", fn := fun _ => fun
  | [d1, d2, d3] => { results := [.lit (.bool true)], args := [d1, d2, d3] }
  | _ => none }
def eventsPairsRow : OpenClaim := { program := "ytmocoljbdiphoaa", sum := "aa7c110a77755a968fc2dd96f121d7c8a4debd2421053134623a5c8f14e6e8a1", func := "magneto/magnetolaw23.EventsPairs", spec := "eventsPairs", unfollowed := true, recurses := true, apart := false }
def EventsPairsSaid : Prop := eventsPairsRow.holds Try.pinned (OpenSpec.ofChange eventsPairsSpec)

/-- ITS FALSE NEIGHBOUR: 'it returns false'. Refute it at one input. -/
def eventsPairsWrong : ChangeSpec := { name := "eventsPairs", fn := fun _ => fun
  | [d1, d2, d3] => { results := [.lit (.bool false)], args := [d1, d2, d3] }
  | _ => none }
def EventsPairsWrongFalsely : Prop := eventsPairsRow.holds Try.pinned (OpenSpec.ofChange eventsPairsWrong)

/-- 'magnetolaw23.EventsDue': WHATEVER THE INPUT: true; the input reads as it did. -/
def eventsDueSpec : ChangeSpec := { name := "eventsDue", fn := fun _ => fun
  | [d1, d2, d3] => { results := [.lit (.bool true)], args := [d1, d2, d3] }
  | _ => none }
def eventsDueRow : OpenClaim := { program := "ytmocoljbdiphoaa", sum := "aa7c110a77755a968fc2dd96f121d7c8a4debd2421053134623a5c8f14e6e8a1", func := "magneto/magnetolaw23.EventsDue", spec := "eventsDue", unfollowed := true, recurses := true, apart := false }
def EventsDueSaid : Prop := eventsDueRow.holds Try.pinned (OpenSpec.ofChange eventsDueSpec)

/-- ITS FALSE NEIGHBOUR: 'it returns false'. Refute it at one input. -/
def eventsDueWrong : ChangeSpec := { name := "eventsDue", fn := fun _ => fun
  | [d1, d2, d3] => { results := [.lit (.bool false)], args := [d1, d2, d3] }
  | _ => none }
def EventsDueWrongFalsely : Prop := eventsDueRow.holds Try.pinned (OpenSpec.ofChange eventsDueWrong)

/-- 'magnetolaw23.EventsParts': WHATEVER THE INPUT: true; the input reads as it did. -/
def eventsPartsSpec : ChangeSpec := { name := "eventsParts", fn := fun _ => fun
  | [d1, d2, d3, d4] => { results := [.lit (.bool true)], args := [d1, d2, d3, d4] }
  | _ => none }
def eventsPartsRow : OpenClaim := { program := "ytmocoljbdiphoaa", sum := "aa7c110a77755a968fc2dd96f121d7c8a4debd2421053134623a5c8f14e6e8a1", func := "magneto/magnetolaw23.EventsParts", spec := "eventsParts", unfollowed := true, recurses := true, apart := false }
def EventsPartsSaid : Prop := eventsPartsRow.holds Try.pinned (OpenSpec.ofChange eventsPartsSpec)

/-- ITS FALSE NEIGHBOUR: 'it returns false'. Refute it at one input. -/
def eventsPartsWrong : ChangeSpec := { name := "eventsParts", fn := fun _ => fun
  | [d1, d2, d3, d4] => { results := [.lit (.bool false)], args := [d1, d2, d3, d4] }
  | _ => none }
def EventsPartsWrongFalsely : Prop := eventsPartsRow.holds Try.pinned (OpenSpec.ofChange eventsPartsWrong)

/- THE SECOND FORM. 'bulk': how many values and letters a reading holds, each counted each time it is reached (what is shared counts as often as it is met; a slice's spare places count too). A statement '..UptoSaid' is the law's where the arguments, and the package variables that the reading takes, are together of bulk at most 1048576: NARROWER than '..Said'. Prove '..Said' where nothing that the law and all that it calls make is longer than what came in: it says more and counts as full. Else prove '..UptoSaid'. A law counts once. -/
mutual
def uptoBulk {H : Type} : DataW H → Nat
  | .lit (.string bytes) => bytes.length + 1
  | .lit _ => 1
  | .nil => 1
  | .ptr d => uptoBulk d + 1
  | .slice elems spare => uptoBulkAll elems + uptoBulkAll spare + 1
  | .agg parts => uptoBulkAll parts + 1
  | .iface _ d => uptoBulk d + 1
  | .map entries => uptoBulkEntries entries + 1
  | .held _ => 1
def uptoBulkAll {H : Type} : List (DataW H) → Nat
  | [] => 0
  | d :: r => uptoBulk d + uptoBulkAll r
def uptoBulkEntries {H : Type} : List (Lit × DataW H) → Nat
  | [] => 0
  | x :: r => uptoBulkEntry x + uptoBulkEntries r
def uptoBulkEntry {H : Type} : Lit × DataW H → Nat
  | (.string bytes, d) => bytes.length + uptoBulk d + 1
  | (_, d) => uptoBulk d + 1
 end
def uptoSmall : (H : Type) → List (DataW H) → Bool := fun _ ds => decide (uptoBulkAll ds ≤ 1048576)
def OpenSpec.upto (s : _root_.Go.ChangeSpec) : _root_.Go.OpenSpec := { _root_.Go.OpenSpec.ofChange s with cond := some uptoSmall }

/-- 'magnetolaw23.EventsValid', WHERE WHAT IT READS IS OF BULK AT MOST 1048576: true; the input reads as it did. -/
def eventsValidUptoRow : OpenClaim := { program := "ytmocoljbdiphoaa", sum := "aa7c110a77755a968fc2dd96f121d7c8a4debd2421053134623a5c8f14e6e8a1", func := "magneto/magnetolaw23.EventsValid", spec := "eventsValid", unfollowed := true, recurses := true, apart := false, narrowed := true }
def EventsValidUptoSaid : Prop := eventsValidUptoRow.holds Try.pinned (OpenSpec.upto eventsValidSpec)

/-- 'magnetolaw23.EventsCenters', WHERE WHAT IT READS IS OF BULK AT MOST 1048576: true; the input reads as it did. -/
def eventsCentersUptoRow : OpenClaim := { program := "ytmocoljbdiphoaa", sum := "aa7c110a77755a968fc2dd96f121d7c8a4debd2421053134623a5c8f14e6e8a1", func := "magneto/magnetolaw23.EventsCenters", spec := "eventsCenters", unfollowed := true, recurses := true, apart := false, narrowed := true }
def EventsCentersUptoSaid : Prop := eventsCentersUptoRow.holds Try.pinned (OpenSpec.upto eventsCentersSpec)

/-- 'magnetolaw23.EventsPlans', WHERE WHAT IT READS IS OF BULK AT MOST 1048576: true; the input reads as it did. -/
def eventsPlansUptoRow : OpenClaim := { program := "ytmocoljbdiphoaa", sum := "aa7c110a77755a968fc2dd96f121d7c8a4debd2421053134623a5c8f14e6e8a1", func := "magneto/magnetolaw23.EventsPlans", spec := "eventsPlans", unfollowed := true, recurses := true, apart := false, narrowed := true }
def EventsPlansUptoSaid : Prop := eventsPlansUptoRow.holds Try.pinned (OpenSpec.upto eventsPlansSpec)

/-- 'magnetolaw23.EventsTurned', WHERE WHAT IT READS IS OF BULK AT MOST 1048576: true; the input reads as it did. -/
def eventsTurnedUptoRow : OpenClaim := { program := "ytmocoljbdiphoaa", sum := "aa7c110a77755a968fc2dd96f121d7c8a4debd2421053134623a5c8f14e6e8a1", func := "magneto/magnetolaw23.EventsTurned", spec := "eventsTurned", unfollowed := true, recurses := true, apart := false, narrowed := true }
def EventsTurnedUptoSaid : Prop := eventsTurnedUptoRow.holds Try.pinned (OpenSpec.upto eventsTurnedSpec)

/-- 'magnetolaw23.EventsSpread', WHERE WHAT IT READS IS OF BULK AT MOST 1048576: true; the input reads as it did. -/
def eventsSpreadUptoRow : OpenClaim := { program := "ytmocoljbdiphoaa", sum := "aa7c110a77755a968fc2dd96f121d7c8a4debd2421053134623a5c8f14e6e8a1", func := "magneto/magnetolaw23.EventsSpread", spec := "eventsSpread", unfollowed := true, recurses := true, apart := false, narrowed := true }
def EventsSpreadUptoSaid : Prop := eventsSpreadUptoRow.holds Try.pinned (OpenSpec.upto eventsSpreadSpec)

/-- 'magnetolaw23.EventsPairs', WHERE WHAT IT READS IS OF BULK AT MOST 1048576: true; the input reads as it did. -/
def eventsPairsUptoRow : OpenClaim := { program := "ytmocoljbdiphoaa", sum := "aa7c110a77755a968fc2dd96f121d7c8a4debd2421053134623a5c8f14e6e8a1", func := "magneto/magnetolaw23.EventsPairs", spec := "eventsPairs", unfollowed := true, recurses := true, apart := false, narrowed := true }
def EventsPairsUptoSaid : Prop := eventsPairsUptoRow.holds Try.pinned (OpenSpec.upto eventsPairsSpec)

/-- 'magnetolaw23.EventsDue', WHERE WHAT IT READS IS OF BULK AT MOST 1048576: true; the input reads as it did. -/
def eventsDueUptoRow : OpenClaim := { program := "ytmocoljbdiphoaa", sum := "aa7c110a77755a968fc2dd96f121d7c8a4debd2421053134623a5c8f14e6e8a1", func := "magneto/magnetolaw23.EventsDue", spec := "eventsDue", unfollowed := true, recurses := true, apart := false, narrowed := true }
def EventsDueUptoSaid : Prop := eventsDueUptoRow.holds Try.pinned (OpenSpec.upto eventsDueSpec)

/-- 'magnetolaw23.EventsParts', WHERE WHAT IT READS IS OF BULK AT MOST 1048576: true; the input reads as it did. -/
def eventsPartsUptoRow : OpenClaim := { program := "ytmocoljbdiphoaa", sum := "aa7c110a77755a968fc2dd96f121d7c8a4debd2421053134623a5c8f14e6e8a1", func := "magneto/magnetolaw23.EventsParts", spec := "eventsParts", unfollowed := true, recurses := true, apart := false, narrowed := true }
def EventsPartsUptoSaid : Prop := eventsPartsUptoRow.holds Try.pinned (OpenSpec.upto eventsPartsSpec)

end Rows
end Go.Proofs.Ytmocoljbdiphoaa

/-
  No cell of these rows narrows 'for every input' (looked for: loops, veiled, ifaces, maps, wideKeys, modest, calm, conditions, laid).
  DERIVED. THE GIVEN ROWS OF THIS SEAT. 3 by the template 'for every input the law returns true; each argument reads behind the call as it read before'; 0 by the template 'total and deterministic' (their statements: YtmhdghdbojdgfaaGreatTotals.lean).
  GIVEN WITH THE SEED: the statements are not yours to turn. If you find one false, say at which input.
  Laid BY PROGRAM, IN A SANDBOX (cutbox-rows.mjs): the forced cells as the released guide's own fill.sh prints them over the translation 5286c8f7c25946fa… (all of the seat's roots in one cut). By AI agents, Wed Nov 11 2026. No macro, syntax, notation, axiom, sorry.
-/
import Derived.Test.YtmhdghdbojdgfaaGreatChecked
import GoSem.Claim
import GoSem.ClaimJoined
import GoSem.ClaimMapViews
import Derived.JoinedTies
import Derived.KernelRfl
namespace Go.Proofs.YtmhdghdbojdgfaaGreat
/- THE CELL 'sum', in the pinned program and in every row, IS THE sha256 OF THE DUMP (.gsa) THAT YtmhdghdbojdgfaaGreatProg.lean LOADS. Nothing in Lean hashes anything: it is a label: what it is worth is what the hold of that sum in a sandbox is worth. -/
noncomputable def Tryz.pinned : Pinned := { name := "ytmhdghdbojdgfaagreat", sum := "5286c8f7c25946fa716ed487f43ade0c5d57d6e1ad9253299eef9dc5525a3938", checked := Tryz.checked }
namespace Rows
def none {H : Type} : Left H := { results := [], args := [] }

/-- 'magnetolaw56.EcuQuiet': WHATEVER THE INPUT: true; the input reads as it did. -/
def ecuQuietSpec : ChangeSpec := { name := "ecuQuiet", fn := fun _ => fun
  | [d1, d2, d3, d4, d5] => { results := [.lit (.bool true)], args := [d1, d2, d3, d4, d5] }
  | _ => none }
def ecuQuietRow : OpenClaim := { program := "ytmhdghdbojdgfaagreat", sum := "5286c8f7c25946fa716ed487f43ade0c5d57d6e1ad9253299eef9dc5525a3938", func := "magneto/magnetolaw56.EcuQuiet", spec := "ecuQuiet", unfollowed := true, recurses := true, named := ["math/bits.divideError", "math/bits.overflowError"], apart := false }
def EcuQuietSaid : Prop := ecuQuietRow.holds Tryz.pinned (OpenSpec.ofChange ecuQuietSpec)

/-- ITS FALSE NEIGHBOUR: 'it returns false'. Refute it at one input. -/
def ecuQuietWrong : ChangeSpec := { name := "ecuQuiet", fn := fun _ => fun
  | [d1, d2, d3, d4, d5] => { results := [.lit (.bool false)], args := [d1, d2, d3, d4, d5] }
  | _ => none }
def EcuQuietWrongFalsely : Prop := ecuQuietRow.holds Tryz.pinned (OpenSpec.ofChange ecuQuietWrong)

/-- 'magnetolaw56.EcuSwitches': WHATEVER THE INPUT: true; the input reads as it did. -/
def ecuSwitchesSpec : ChangeSpec := { name := "ecuSwitches", fn := fun _ => fun
  | [d1, d2, d3, d4, d5] => { results := [.lit (.bool true)], args := [d1, d2, d3, d4, d5] }
  | _ => none }
def ecuSwitchesRow : OpenClaim := { program := "ytmhdghdbojdgfaagreat", sum := "5286c8f7c25946fa716ed487f43ade0c5d57d6e1ad9253299eef9dc5525a3938", func := "magneto/magnetolaw56.EcuSwitches", spec := "ecuSwitches", unfollowed := true, recurses := true, named := ["math/bits.divideError", "math/bits.overflowError"], apart := false }
def EcuSwitchesSaid : Prop := ecuSwitchesRow.holds Tryz.pinned (OpenSpec.ofChange ecuSwitchesSpec)

/-- ITS FALSE NEIGHBOUR: 'it returns false'. Refute it at one input. -/
def ecuSwitchesWrong : ChangeSpec := { name := "ecuSwitches", fn := fun _ => fun
  | [d1, d2, d3, d4, d5] => { results := [.lit (.bool false)], args := [d1, d2, d3, d4, d5] }
  | _ => none }
def EcuSwitchesWrongFalsely : Prop := ecuSwitchesRow.holds Tryz.pinned (OpenSpec.ofChange ecuSwitchesWrong)

/-- 'magnetolaw56.EcuStops': WHATEVER THE INPUT: true; the input reads as it did. -/
def ecuStopsSpec : ChangeSpec := { name := "ecuStops", fn := fun _ => fun
  | [d1, d2, d3, d4, d5] => { results := [.lit (.bool true)], args := [d1, d2, d3, d4, d5] }
  | _ => none }
def ecuStopsRow : OpenClaim := { program := "ytmhdghdbojdgfaagreat", sum := "5286c8f7c25946fa716ed487f43ade0c5d57d6e1ad9253299eef9dc5525a3938", func := "magneto/magnetolaw56.EcuStops", spec := "ecuStops", unfollowed := true, recurses := true, named := ["math/bits.divideError", "math/bits.overflowError"], apart := false }
def EcuStopsSaid : Prop := ecuStopsRow.holds Tryz.pinned (OpenSpec.ofChange ecuStopsSpec)

/-- ITS FALSE NEIGHBOUR: 'it returns false'. Refute it at one input. -/
def ecuStopsWrong : ChangeSpec := { name := "ecuStops", fn := fun _ => fun
  | [d1, d2, d3, d4, d5] => { results := [.lit (.bool false)], args := [d1, d2, d3, d4, d5] }
  | _ => none }
def EcuStopsWrongFalsely : Prop := ecuStopsRow.holds Tryz.pinned (OpenSpec.ofChange ecuStopsWrong)

/- THE SECOND FORM. 'bulk': how many values and letters a reading holds, each counted each time it is reached (what is shared counts as often as it is met; a slice's spare places count too). A statement '..UptoSaid' is the law's where the arguments, and the package variables that the reading takes, are together of bulk at most 1048576: NARROWER than '..Said'. Prove '..Said' where nothing that the law and all that it calls make is longer than what came in: it says more and counts as full. Else prove '..UptoSaid'. A law counts once. -/
mutual
def uptoBulk {H : Type} : DataW H → Nat
  | .lit (.string bytes) => bytes.length + 1
  | .lit _ => 1
  | .nil => 1
  | .ptr d => uptoBulk d + 1
  | .slice elems spare => uptoBulkAll elems + uptoBulkAll spare + 1
  | .agg parts => uptoBulkAll parts + 1
  | .iface _ d => uptoBulk d + 1
  | .map entries => uptoBulkEntries entries + 1
  | .held _ => 1
def uptoBulkAll {H : Type} : List (DataW H) → Nat
  | [] => 0
  | d :: r => uptoBulk d + uptoBulkAll r
def uptoBulkEntries {H : Type} : List (Lit × DataW H) → Nat
  | [] => 0
  | x :: r => uptoBulkEntry x + uptoBulkEntries r
def uptoBulkEntry {H : Type} : Lit × DataW H → Nat
  | (.string bytes, d) => bytes.length + uptoBulk d + 1
  | (_, d) => uptoBulk d + 1
 end
def uptoSmall : (H : Type) → List (DataW H) → Bool := fun _ ds => decide (uptoBulkAll ds ≤ 1048576)
def OpenSpec.upto (s : _root_.Go.ChangeSpec) : _root_.Go.OpenSpec := { _root_.Go.OpenSpec.ofChange s with cond := some uptoSmall }

/-- 'magnetolaw56.EcuQuiet', WHERE WHAT IT READS IS OF BULK AT MOST 1048576: true; the input reads as it did. -/
def ecuQuietUptoRow : OpenClaim := { program := "ytmhdghdbojdgfaagreat", sum := "5286c8f7c25946fa716ed487f43ade0c5d57d6e1ad9253299eef9dc5525a3938", func := "magneto/magnetolaw56.EcuQuiet", spec := "ecuQuiet", unfollowed := true, recurses := true, named := ["math/bits.divideError", "math/bits.overflowError"], apart := false, narrowed := true }
def EcuQuietUptoSaid : Prop := ecuQuietUptoRow.holds Tryz.pinned (OpenSpec.upto ecuQuietSpec)

/-- 'magnetolaw56.EcuSwitches', WHERE WHAT IT READS IS OF BULK AT MOST 1048576: true; the input reads as it did. -/
def ecuSwitchesUptoRow : OpenClaim := { program := "ytmhdghdbojdgfaagreat", sum := "5286c8f7c25946fa716ed487f43ade0c5d57d6e1ad9253299eef9dc5525a3938", func := "magneto/magnetolaw56.EcuSwitches", spec := "ecuSwitches", unfollowed := true, recurses := true, named := ["math/bits.divideError", "math/bits.overflowError"], apart := false, narrowed := true }
def EcuSwitchesUptoSaid : Prop := ecuSwitchesUptoRow.holds Tryz.pinned (OpenSpec.upto ecuSwitchesSpec)

/-- 'magnetolaw56.EcuStops', WHERE WHAT IT READS IS OF BULK AT MOST 1048576: true; the input reads as it did. -/
def ecuStopsUptoRow : OpenClaim := { program := "ytmhdghdbojdgfaagreat", sum := "5286c8f7c25946fa716ed487f43ade0c5d57d6e1ad9253299eef9dc5525a3938", func := "magneto/magnetolaw56.EcuStops", spec := "ecuStops", unfollowed := true, recurses := true, named := ["math/bits.divideError", "math/bits.overflowError"], apart := false, narrowed := true }
def EcuStopsUptoSaid : Prop := ecuStopsUptoRow.holds Tryz.pinned (OpenSpec.upto ecuStopsSpec)

end Rows
end Go.Proofs.YtmhdghdbojdgfaaGreat

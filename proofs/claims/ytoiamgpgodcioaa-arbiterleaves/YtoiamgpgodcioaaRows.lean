/-
  No cell of these rows narrows 'for every input' (looked for: loops, veiled, ifaces, maps, wideKeys, modest, calm, conditions, laid).
  DERIVED. THE GIVEN ROWS OF THIS SEAT. 7 by the template 'for every input the law returns true; each argument reads behind the call as it read before'; 0 by the template 'total and deterministic' (their statements: YtoiamgpgodcioaaTotals.lean).
  GIVEN WITH THE SEED: the statements are not yours to turn. If you find one false, say at which input.
  Laid BY PROGRAM, IN A SANDBOX (cutbox-rows.mjs): the forced cells as the released guide's own fill.sh prints them over the translation 5ef70f106a9c410f… (all of the seat's roots in one cut). By AI agents, Wed Nov 11 2026. No macro, syntax, notation, axiom, sorry.
-/
import Derived.Test.YtoiamgpgodcioaaChecked
import GoSem.Claim
import GoSem.ClaimJoined
import GoSem.ClaimMapViews
import Derived.JoinedTies
import Derived.KernelRfl
namespace Go.Proofs.Ytoiamgpgodcioaa
/- THE CELL 'sum', in the pinned program and in every row, IS THE sha256 OF THE DUMP (.gsa) THAT YtoiamgpgodcioaaProg.lean LOADS. Nothing in Lean hashes anything: it is a label: what it is worth is what the hold of that sum in a sandbox is worth. -/
noncomputable def Try.pinned : Pinned := { name := "ytoiamgpgodcioaa", sum := "5ef70f106a9c410f304d04e82e95489e4ff178e316be28534cf70890720e1289", checked := Try.checked }
namespace Rows
def none {H : Type} : Left H := { results := [], args := [] }

/-- 'magnetolaw36.ArbiterExplains': WHATEVER THE INPUT: true; the input reads as it did. -/
def arbiterExplainsSpec : ChangeSpec := { name := "arbiterExplains", fn := fun _ => fun
  | [d1, d2, d3] => { results := [.lit (.bool true)], args := [d1, d2, d3] }
  | _ => none }
def arbiterExplainsRow : OpenClaim := { program := "ytoiamgpgodcioaa", sum := "5ef70f106a9c410f304d04e82e95489e4ff178e316be28534cf70890720e1289", func := "magneto/magnetolaw36.ArbiterExplains", spec := "arbiterExplains", unfollowed := true, recurses := true, apart := false }
def ArbiterExplainsSaid : Prop := arbiterExplainsRow.holds Try.pinned (OpenSpec.ofChange arbiterExplainsSpec)

/-- ITS FALSE NEIGHBOUR: 'it returns false'. Refute it at one input. -/
def arbiterExplainsWrong : ChangeSpec := { name := "arbiterExplains", fn := fun _ => fun
  | [d1, d2, d3] => { results := [.lit (.bool false)], args := [d1, d2, d3] }
  | _ => none }
def ArbiterExplainsWrongFalsely : Prop := arbiterExplainsRow.holds Try.pinned (OpenSpec.ofChange arbiterExplainsWrong)

/-- 'magnetolaw36.ArbiterDecides': WHATEVER THE INPUT: true; the input reads as it did. -/
def arbiterDecidesSpec : ChangeSpec := { name := "arbiterDecides", fn := fun _ => fun
  | [d1, d2, d3] => { results := [.lit (.bool true)], args := [d1, d2, d3] }
  | _ => none }
def arbiterDecidesRow : OpenClaim := { program := "ytoiamgpgodcioaa", sum := "5ef70f106a9c410f304d04e82e95489e4ff178e316be28534cf70890720e1289", func := "magneto/magnetolaw36.ArbiterDecides", spec := "arbiterDecides", unfollowed := true, recurses := true, apart := false }
def ArbiterDecidesSaid : Prop := arbiterDecidesRow.holds Try.pinned (OpenSpec.ofChange arbiterDecidesSpec)

/-- ITS FALSE NEIGHBOUR: 'it returns false'. Refute it at one input. -/
def arbiterDecidesWrong : ChangeSpec := { name := "arbiterDecides", fn := fun _ => fun
  | [d1, d2, d3] => { results := [.lit (.bool false)], args := [d1, d2, d3] }
  | _ => none }
def ArbiterDecidesWrongFalsely : Prop := arbiterDecidesRow.holds Try.pinned (OpenSpec.ofChange arbiterDecidesWrong)

/-- 'magnetolaw36.ArbiterObeys': WHATEVER THE INPUT: true; the input reads as it did. -/
def arbiterObeysSpec : ChangeSpec := { name := "arbiterObeys", fn := fun _ => fun
  | [d1, d2, d3] => { results := [.lit (.bool true)], args := [d1, d2, d3] }
  | _ => none }
def arbiterObeysRow : OpenClaim := { program := "ytoiamgpgodcioaa", sum := "5ef70f106a9c410f304d04e82e95489e4ff178e316be28534cf70890720e1289", func := "magneto/magnetolaw36.ArbiterObeys", spec := "arbiterObeys", unfollowed := true, recurses := true, apart := false }
def ArbiterObeysSaid : Prop := arbiterObeysRow.holds Try.pinned (OpenSpec.ofChange arbiterObeysSpec)

/-- ITS FALSE NEIGHBOUR: 'it returns false'. Refute it at one input. -/
def arbiterObeysWrong : ChangeSpec := { name := "arbiterObeys", fn := fun _ => fun
  | [d1, d2, d3] => { results := [.lit (.bool false)], args := [d1, d2, d3] }
  | _ => none }
def ArbiterObeysWrongFalsely : Prop := arbiterObeysRow.holds Try.pinned (OpenSpec.ofChange arbiterObeysWrong)

/-- 'magnetolaw36.ArbiterMonotone': WHATEVER THE INPUT: true; the input reads as it did. -/
def arbiterMonotoneSpec : ChangeSpec := { name := "arbiterMonotone", fn := fun _ => fun
  | [d1, d2, d3, d4, d5] => { results := [.lit (.bool true)], args := [d1, d2, d3, d4, d5] }
  | _ => none }
def arbiterMonotoneRow : OpenClaim := { program := "ytoiamgpgodcioaa", sum := "5ef70f106a9c410f304d04e82e95489e4ff178e316be28534cf70890720e1289", func := "magneto/magnetolaw36.ArbiterMonotone", spec := "arbiterMonotone", unfollowed := true, recurses := true, apart := false }
def ArbiterMonotoneSaid : Prop := arbiterMonotoneRow.holds Try.pinned (OpenSpec.ofChange arbiterMonotoneSpec)

/-- ITS FALSE NEIGHBOUR: 'it returns false'. Refute it at one input. -/
def arbiterMonotoneWrong : ChangeSpec := { name := "arbiterMonotone", fn := fun _ => fun
  | [d1, d2, d3, d4, d5] => { results := [.lit (.bool false)], args := [d1, d2, d3, d4, d5] }
  | _ => none }
def ArbiterMonotoneWrongFalsely : Prop := arbiterMonotoneRow.holds Try.pinned (OpenSpec.ofChange arbiterMonotoneWrong)

/-- 'magnetolaw36.ArbiterSteps': WHATEVER THE INPUT: true; the input reads as it did. -/
def arbiterStepsSpec : ChangeSpec := { name := "arbiterSteps", fn := fun _ => fun
  | [d1, d2, d3, d4, d5, d6] => { results := [.lit (.bool true)], args := [d1, d2, d3, d4, d5, d6] }
  | _ => none }
def arbiterStepsRow : OpenClaim := { program := "ytoiamgpgodcioaa", sum := "5ef70f106a9c410f304d04e82e95489e4ff178e316be28534cf70890720e1289", func := "magneto/magnetolaw36.ArbiterSteps", spec := "arbiterSteps", unfollowed := true, recurses := true, apart := false }
def ArbiterStepsSaid : Prop := arbiterStepsRow.holds Try.pinned (OpenSpec.ofChange arbiterStepsSpec)

/-- ITS FALSE NEIGHBOUR: 'it returns false'. Refute it at one input. -/
def arbiterStepsWrong : ChangeSpec := { name := "arbiterSteps", fn := fun _ => fun
  | [d1, d2, d3, d4, d5, d6] => { results := [.lit (.bool false)], args := [d1, d2, d3, d4, d5, d6] }
  | _ => none }
def ArbiterStepsWrongFalsely : Prop := arbiterStepsRow.holds Try.pinned (OpenSpec.ofChange arbiterStepsWrong)

/-- 'magnetolaw36.ArbiterOrder': WHATEVER THE INPUT: true; the input reads as it did. -/
def arbiterOrderSpec : ChangeSpec := { name := "arbiterOrder", fn := fun _ => fun
  | [d1, d2, d3, d4] => { results := [.lit (.bool true)], args := [d1, d2, d3, d4] }
  | _ => none }
def arbiterOrderRow : OpenClaim := { program := "ytoiamgpgodcioaa", sum := "5ef70f106a9c410f304d04e82e95489e4ff178e316be28534cf70890720e1289", func := "magneto/magnetolaw36.ArbiterOrder", spec := "arbiterOrder", unfollowed := true, recurses := true, apart := false }
def ArbiterOrderSaid : Prop := arbiterOrderRow.holds Try.pinned (OpenSpec.ofChange arbiterOrderSpec)

/-- ITS FALSE NEIGHBOUR: 'it returns false'. Refute it at one input. -/
def arbiterOrderWrong : ChangeSpec := { name := "arbiterOrder", fn := fun _ => fun
  | [d1, d2, d3, d4] => { results := [.lit (.bool false)], args := [d1, d2, d3, d4] }
  | _ => none }
def ArbiterOrderWrongFalsely : Prop := arbiterOrderRow.holds Try.pinned (OpenSpec.ofChange arbiterOrderWrong)

/-- 'magnetolaw36.ArbiterLeaves': WHATEVER THE INPUT: true; the input reads as it did. -/
def arbiterLeavesSpec : ChangeSpec := { name := "arbiterLeaves", fn := fun _ => fun
  | [d1, d2, d3, d4] => { results := [.lit (.bool true)], args := [d1, d2, d3, d4] }
  | _ => none }
def arbiterLeavesRow : OpenClaim := { program := "ytoiamgpgodcioaa", sum := "5ef70f106a9c410f304d04e82e95489e4ff178e316be28534cf70890720e1289", func := "magneto/magnetolaw36.ArbiterLeaves", spec := "arbiterLeaves", unfollowed := true, recurses := true, apart := false }
def ArbiterLeavesSaid : Prop := arbiterLeavesRow.holds Try.pinned (OpenSpec.ofChange arbiterLeavesSpec)

/-- ITS FALSE NEIGHBOUR: 'it returns false'. Refute it at one input. -/
def arbiterLeavesWrong : ChangeSpec := { name := "arbiterLeaves", fn := fun _ => fun
  | [d1, d2, d3, d4] => { results := [.lit (.bool false)], args := [d1, d2, d3, d4] }
  | _ => none }
def ArbiterLeavesWrongFalsely : Prop := arbiterLeavesRow.holds Try.pinned (OpenSpec.ofChange arbiterLeavesWrong)

/- THE SECOND FORM. 'bulk': how many values and letters a reading holds, each counted each time it is reached (what is shared counts as often as it is met; a slice's spare places count too). A statement '..UptoSaid' is the law's where the arguments, and the package variables that the reading takes, are together of bulk at most 1048576: NARROWER than '..Said'. Prove '..Said' where nothing that the law and all that it calls make is longer than what came in: it says more and counts as full. Else prove '..UptoSaid'. A law counts once. -/
mutual
def uptoBulk {H : Type} : DataW H → Nat
  | .lit (.string bytes) => bytes.length + 1
  | .lit _ => 1
  | .nil => 1
  | .ptr d => uptoBulk d + 1
  | .slice elems spare => uptoBulkAll elems + uptoBulkAll spare + 1
  | .agg parts => uptoBulkAll parts + 1
  | .iface _ d => uptoBulk d + 1
  | .map entries => uptoBulkEntries entries + 1
  | .held _ => 1
def uptoBulkAll {H : Type} : List (DataW H) → Nat
  | [] => 0
  | d :: r => uptoBulk d + uptoBulkAll r
def uptoBulkEntries {H : Type} : List (Lit × DataW H) → Nat
  | [] => 0
  | x :: r => uptoBulkEntry x + uptoBulkEntries r
def uptoBulkEntry {H : Type} : Lit × DataW H → Nat
  | (.string bytes, d) => bytes.length + uptoBulk d + 1
  | (_, d) => uptoBulk d + 1
 end
def uptoSmall : (H : Type) → List (DataW H) → Bool := fun _ ds => decide (uptoBulkAll ds ≤ 1048576)
def OpenSpec.upto (s : _root_.Go.ChangeSpec) : _root_.Go.OpenSpec := { _root_.Go.OpenSpec.ofChange s with cond := some uptoSmall }

/-- 'magnetolaw36.ArbiterExplains', WHERE WHAT IT READS IS OF BULK AT MOST 1048576: true; the input reads as it did. -/
def arbiterExplainsUptoRow : OpenClaim := { program := "ytoiamgpgodcioaa", sum := "5ef70f106a9c410f304d04e82e95489e4ff178e316be28534cf70890720e1289", func := "magneto/magnetolaw36.ArbiterExplains", spec := "arbiterExplains", unfollowed := true, recurses := true, apart := false, narrowed := true }
def ArbiterExplainsUptoSaid : Prop := arbiterExplainsUptoRow.holds Try.pinned (OpenSpec.upto arbiterExplainsSpec)

/-- 'magnetolaw36.ArbiterDecides', WHERE WHAT IT READS IS OF BULK AT MOST 1048576: true; the input reads as it did. -/
def arbiterDecidesUptoRow : OpenClaim := { program := "ytoiamgpgodcioaa", sum := "5ef70f106a9c410f304d04e82e95489e4ff178e316be28534cf70890720e1289", func := "magneto/magnetolaw36.ArbiterDecides", spec := "arbiterDecides", unfollowed := true, recurses := true, apart := false, narrowed := true }
def ArbiterDecidesUptoSaid : Prop := arbiterDecidesUptoRow.holds Try.pinned (OpenSpec.upto arbiterDecidesSpec)

/-- 'magnetolaw36.ArbiterObeys', WHERE WHAT IT READS IS OF BULK AT MOST 1048576: true; the input reads as it did. -/
def arbiterObeysUptoRow : OpenClaim := { program := "ytoiamgpgodcioaa", sum := "5ef70f106a9c410f304d04e82e95489e4ff178e316be28534cf70890720e1289", func := "magneto/magnetolaw36.ArbiterObeys", spec := "arbiterObeys", unfollowed := true, recurses := true, apart := false, narrowed := true }
def ArbiterObeysUptoSaid : Prop := arbiterObeysUptoRow.holds Try.pinned (OpenSpec.upto arbiterObeysSpec)

/-- 'magnetolaw36.ArbiterMonotone', WHERE WHAT IT READS IS OF BULK AT MOST 1048576: true; the input reads as it did. -/
def arbiterMonotoneUptoRow : OpenClaim := { program := "ytoiamgpgodcioaa", sum := "5ef70f106a9c410f304d04e82e95489e4ff178e316be28534cf70890720e1289", func := "magneto/magnetolaw36.ArbiterMonotone", spec := "arbiterMonotone", unfollowed := true, recurses := true, apart := false, narrowed := true }
def ArbiterMonotoneUptoSaid : Prop := arbiterMonotoneUptoRow.holds Try.pinned (OpenSpec.upto arbiterMonotoneSpec)

/-- 'magnetolaw36.ArbiterSteps', WHERE WHAT IT READS IS OF BULK AT MOST 1048576: true; the input reads as it did. -/
def arbiterStepsUptoRow : OpenClaim := { program := "ytoiamgpgodcioaa", sum := "5ef70f106a9c410f304d04e82e95489e4ff178e316be28534cf70890720e1289", func := "magneto/magnetolaw36.ArbiterSteps", spec := "arbiterSteps", unfollowed := true, recurses := true, apart := false, narrowed := true }
def ArbiterStepsUptoSaid : Prop := arbiterStepsUptoRow.holds Try.pinned (OpenSpec.upto arbiterStepsSpec)

/-- 'magnetolaw36.ArbiterOrder', WHERE WHAT IT READS IS OF BULK AT MOST 1048576: true; the input reads as it did. -/
def arbiterOrderUptoRow : OpenClaim := { program := "ytoiamgpgodcioaa", sum := "5ef70f106a9c410f304d04e82e95489e4ff178e316be28534cf70890720e1289", func := "magneto/magnetolaw36.ArbiterOrder", spec := "arbiterOrder", unfollowed := true, recurses := true, apart := false, narrowed := true }
def ArbiterOrderUptoSaid : Prop := arbiterOrderUptoRow.holds Try.pinned (OpenSpec.upto arbiterOrderSpec)

/-- 'magnetolaw36.ArbiterLeaves', WHERE WHAT IT READS IS OF BULK AT MOST 1048576: true; the input reads as it did. -/
def arbiterLeavesUptoRow : OpenClaim := { program := "ytoiamgpgodcioaa", sum := "5ef70f106a9c410f304d04e82e95489e4ff178e316be28534cf70890720e1289", func := "magneto/magnetolaw36.ArbiterLeaves", spec := "arbiterLeaves", unfollowed := true, recurses := true, apart := false, narrowed := true }
def ArbiterLeavesUptoSaid : Prop := arbiterLeavesUptoRow.holds Try.pinned (OpenSpec.upto arbiterLeavesSpec)

end Rows
end Go.Proofs.Ytoiamgpgodcioaa

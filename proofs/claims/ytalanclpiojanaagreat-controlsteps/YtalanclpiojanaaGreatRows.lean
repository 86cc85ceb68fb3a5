/-
  No cell of these rows narrows 'for every input' (looked for: loops, veiled, ifaces, maps, wideKeys, modest, calm, conditions, laid).
  DERIVED. THE GIVEN ROWS OF THIS SEAT. 7 by the template 'for every input the law returns true; each argument reads behind the call as it read before'; 0 by the template 'total and deterministic' (their statements: YtalanclpiojanaaGreatTotals.lean).
  GIVEN WITH THE SEED: the statements are not yours to turn. If you find one false, say at which input.
  Laid BY PROGRAM, IN A SANDBOX (cutbox-rows.mjs): the forced cells as the released guide's own fill.sh prints them over the translation 0b665ae2d9fa4aaf… (all of the seat's roots in one cut). By AI agents, Wed Nov 11 2026. No macro, syntax, notation, axiom, sorry.
-/
import Derived.Test.YtalanclpiojanaaGreatChecked
import GoSem.Claim
import GoSem.ClaimJoined
import GoSem.ClaimMapViews
import Derived.JoinedTies
import Derived.KernelRfl
namespace Go.Proofs.YtalanclpiojanaaGreat
/- THE CELL 'sum', in the pinned program and in every row, IS THE sha256 OF THE DUMP (.gsa) THAT YtalanclpiojanaaGreatProg.lean LOADS. Nothing in Lean hashes anything: it is a label: what it is worth is what the hold of that sum in a sandbox is worth. -/
noncomputable def Tryz.pinned : Pinned := { name := "ytalanclpiojanaagreat", sum := "0b665ae2d9fa4aaf57bcf1d8fd11b63b9eddb06c3b12c8484b5fa86a2aedb399", checked := Tryz.checked }
namespace Rows
def none {H : Type} : Left H := { results := [], args := [] }

/-- 'magnetolaw38.ControlStates': WHATEVER THE INPUT: true; the input reads as it did. -/
def controlStatesSpec : ChangeSpec := { name := "controlStates", fn := fun _ => fun
  | [d1, d2, d3, d4, d5] => { results := [.lit (.bool true)], args := [d1, d2, d3, d4, d5] }
  | _ => none }
def controlStatesRow : OpenClaim := { program := "ytalanclpiojanaagreat", sum := "0b665ae2d9fa4aaf57bcf1d8fd11b63b9eddb06c3b12c8484b5fa86a2aedb399", func := "magneto/magnetolaw38.ControlStates", spec := "controlStates", unfollowed := true, recurses := true, apart := false }
def ControlStatesSaid : Prop := controlStatesRow.holds Tryz.pinned (OpenSpec.ofChange controlStatesSpec)

/-- ITS FALSE NEIGHBOUR: 'it returns false'. Refute it at one input. -/
def controlStatesWrong : ChangeSpec := { name := "controlStates", fn := fun _ => fun
  | [d1, d2, d3, d4, d5] => { results := [.lit (.bool false)], args := [d1, d2, d3, d4, d5] }
  | _ => none }
def ControlStatesWrongFalsely : Prop := controlStatesRow.holds Tryz.pinned (OpenSpec.ofChange controlStatesWrong)

/-- 'magnetolaw38.ControlSteps': WHATEVER THE INPUT: true; the input reads as it did. -/
def controlStepsSpec : ChangeSpec := { name := "controlSteps", fn := fun _ => fun
  | [d1, d2, d3, d4, d5] => { results := [.lit (.bool true)], args := [d1, d2, d3, d4, d5] }
  | _ => none }
def controlStepsRow : OpenClaim := { program := "ytalanclpiojanaagreat", sum := "0b665ae2d9fa4aaf57bcf1d8fd11b63b9eddb06c3b12c8484b5fa86a2aedb399", func := "magneto/magnetolaw38.ControlSteps", spec := "controlSteps", unfollowed := true, recurses := true, named := ["math/bits.divideError", "math/bits.overflowError"], apart := false }
def ControlStepsSaid : Prop := controlStepsRow.holds Tryz.pinned (OpenSpec.ofChange controlStepsSpec)

/-- ITS FALSE NEIGHBOUR: 'it returns false'. Refute it at one input. -/
def controlStepsWrong : ChangeSpec := { name := "controlSteps", fn := fun _ => fun
  | [d1, d2, d3, d4, d5] => { results := [.lit (.bool false)], args := [d1, d2, d3, d4, d5] }
  | _ => none }
def ControlStepsWrongFalsely : Prop := controlStepsRow.holds Tryz.pinned (OpenSpec.ofChange controlStepsWrong)

/-- 'magnetolaw38.ControlLimited': WHATEVER THE INPUT: true; the input reads as it did. -/
def controlLimitedSpec : ChangeSpec := { name := "controlLimited", fn := fun _ => fun
  | [d1, d2, d3, d4, d5, d6] => { results := [.lit (.bool true)], args := [d1, d2, d3, d4, d5, d6] }
  | _ => none }
def controlLimitedRow : OpenClaim := { program := "ytalanclpiojanaagreat", sum := "0b665ae2d9fa4aaf57bcf1d8fd11b63b9eddb06c3b12c8484b5fa86a2aedb399", func := "magneto/magnetolaw38.ControlLimited", spec := "controlLimited", unfollowed := true, recurses := true, named := ["math/bits.divideError", "math/bits.overflowError"], apart := false }
def ControlLimitedSaid : Prop := controlLimitedRow.holds Tryz.pinned (OpenSpec.ofChange controlLimitedSpec)

/-- ITS FALSE NEIGHBOUR: 'it returns false'. Refute it at one input. -/
def controlLimitedWrong : ChangeSpec := { name := "controlLimited", fn := fun _ => fun
  | [d1, d2, d3, d4, d5, d6] => { results := [.lit (.bool false)], args := [d1, d2, d3, d4, d5, d6] }
  | _ => none }
def ControlLimitedWrongFalsely : Prop := controlLimitedRow.holds Tryz.pinned (OpenSpec.ofChange controlLimitedWrong)

/-- 'magnetolaw38.ControlPedal': WHATEVER THE INPUT: true; the input reads as it did. -/
def controlPedalSpec : ChangeSpec := { name := "controlPedal", fn := fun _ => fun
  | [d1, d2, d3, d4, d5] => { results := [.lit (.bool true)], args := [d1, d2, d3, d4, d5] }
  | _ => none }
def controlPedalRow : OpenClaim := { program := "ytalanclpiojanaagreat", sum := "0b665ae2d9fa4aaf57bcf1d8fd11b63b9eddb06c3b12c8484b5fa86a2aedb399", func := "magneto/magnetolaw38.ControlPedal", spec := "controlPedal", unfollowed := true, recurses := true, named := ["math/bits.divideError", "math/bits.overflowError"], apart := false }
def ControlPedalSaid : Prop := controlPedalRow.holds Tryz.pinned (OpenSpec.ofChange controlPedalSpec)

/-- ITS FALSE NEIGHBOUR: 'it returns false'. Refute it at one input. -/
def controlPedalWrong : ChangeSpec := { name := "controlPedal", fn := fun _ => fun
  | [d1, d2, d3, d4, d5] => { results := [.lit (.bool false)], args := [d1, d2, d3, d4, d5] }
  | _ => none }
def ControlPedalWrongFalsely : Prop := controlPedalRow.holds Tryz.pinned (OpenSpec.ofChange controlPedalWrong)

/-- 'magnetolaw38.ControlFuel': WHATEVER THE INPUT: true; the input reads as it did. -/
def controlFuelSpec : ChangeSpec := { name := "controlFuel", fn := fun _ => fun
  | [d1, d2, d3, d4, d5] => { results := [.lit (.bool true)], args := [d1, d2, d3, d4, d5] }
  | _ => none }
def controlFuelRow : OpenClaim := { program := "ytalanclpiojanaagreat", sum := "0b665ae2d9fa4aaf57bcf1d8fd11b63b9eddb06c3b12c8484b5fa86a2aedb399", func := "magneto/magnetolaw38.ControlFuel", spec := "controlFuel", unfollowed := true, recurses := true, named := ["math/bits.divideError", "math/bits.overflowError"], apart := false }
def ControlFuelSaid : Prop := controlFuelRow.holds Tryz.pinned (OpenSpec.ofChange controlFuelSpec)

/-- ITS FALSE NEIGHBOUR: 'it returns false'. Refute it at one input. -/
def controlFuelWrong : ChangeSpec := { name := "controlFuel", fn := fun _ => fun
  | [d1, d2, d3, d4, d5] => { results := [.lit (.bool false)], args := [d1, d2, d3, d4, d5] }
  | _ => none }
def ControlFuelWrongFalsely : Prop := controlFuelRow.holds Tryz.pinned (OpenSpec.ofChange controlFuelWrong)

/-- 'magnetolaw38.ControlRuns': WHATEVER THE INPUT: true; the input reads as it did. -/
def controlRunsSpec : ChangeSpec := { name := "controlRuns", fn := fun _ => fun
  | [d1, d2, d3, d4] => { results := [.lit (.bool true)], args := [d1, d2, d3, d4] }
  | _ => none }
def controlRunsRow : OpenClaim := { program := "ytalanclpiojanaagreat", sum := "0b665ae2d9fa4aaf57bcf1d8fd11b63b9eddb06c3b12c8484b5fa86a2aedb399", func := "magneto/magnetolaw38.ControlRuns", spec := "controlRuns", unfollowed := true, recurses := true, named := ["math/bits.divideError", "math/bits.overflowError"], apart := false }
def ControlRunsSaid : Prop := controlRunsRow.holds Tryz.pinned (OpenSpec.ofChange controlRunsSpec)

/-- ITS FALSE NEIGHBOUR: 'it returns false'. Refute it at one input. -/
def controlRunsWrong : ChangeSpec := { name := "controlRuns", fn := fun _ => fun
  | [d1, d2, d3, d4] => { results := [.lit (.bool false)], args := [d1, d2, d3, d4] }
  | _ => none }
def ControlRunsWrongFalsely : Prop := controlRunsRow.holds Tryz.pinned (OpenSpec.ofChange controlRunsWrong)

/-- 'magnetolaw38.ControlParts': WHATEVER THE INPUT: true; the input reads as it did. -/
def controlPartsSpec : ChangeSpec := { name := "controlParts", fn := fun _ => fun
  | [d1, d2, d3, d4, d5] => { results := [.lit (.bool true)], args := [d1, d2, d3, d4, d5] }
  | _ => none }
def controlPartsRow : OpenClaim := { program := "ytalanclpiojanaagreat", sum := "0b665ae2d9fa4aaf57bcf1d8fd11b63b9eddb06c3b12c8484b5fa86a2aedb399", func := "magneto/magnetolaw38.ControlParts", spec := "controlParts", unfollowed := true, recurses := true, named := ["math/bits.divideError", "math/bits.overflowError"], apart := false }
def ControlPartsSaid : Prop := controlPartsRow.holds Tryz.pinned (OpenSpec.ofChange controlPartsSpec)

/-- ITS FALSE NEIGHBOUR: 'it returns false'. Refute it at one input. -/
def controlPartsWrong : ChangeSpec := { name := "controlParts", fn := fun _ => fun
  | [d1, d2, d3, d4, d5] => { results := [.lit (.bool false)], args := [d1, d2, d3, d4, d5] }
  | _ => none }
def ControlPartsWrongFalsely : Prop := controlPartsRow.holds Tryz.pinned (OpenSpec.ofChange controlPartsWrong)

/- THE SECOND FORM. 'bulk': how many values and letters a reading holds, each counted each time it is reached (what is shared counts as often as it is met; a slice's spare places count too). A statement '..UptoSaid' is the law's where the arguments, and the package variables that the reading takes, are together of bulk at most 1048576: NARROWER than '..Said'. Prove '..Said' where nothing that the law and all that it calls make is longer than what came in: it says more and counts as full. Else prove '..UptoSaid'. A law counts once. -/
mutual
def uptoBulk {H : Type} : DataW H → Nat
  | .lit (.string bytes) => bytes.length + 1
  | .lit _ => 1
  | .nil => 1
  | .ptr d => uptoBulk d + 1
  | .slice elems spare => uptoBulkAll elems + uptoBulkAll spare + 1
  | .agg parts => uptoBulkAll parts + 1
  | .iface _ d => uptoBulk d + 1
  | .map entries => uptoBulkEntries entries + 1
  | .held _ => 1
def uptoBulkAll {H : Type} : List (DataW H) → Nat
  | [] => 0
  | d :: r => uptoBulk d + uptoBulkAll r
def uptoBulkEntries {H : Type} : List (Lit × DataW H) → Nat
  | [] => 0
  | x :: r => uptoBulkEntry x + uptoBulkEntries r
def uptoBulkEntry {H : Type} : Lit × DataW H → Nat
  | (.string bytes, d) => bytes.length + uptoBulk d + 1
  | (_, d) => uptoBulk d + 1
 end
def uptoSmall : (H : Type) → List (DataW H) → Bool := fun _ ds => decide (uptoBulkAll ds ≤ 1048576)
def OpenSpec.upto (s : _root_.Go.ChangeSpec) : _root_.Go.OpenSpec := { _root_.Go.OpenSpec.ofChange s with cond := some uptoSmall }

/-- 'magnetolaw38.ControlStates', WHERE WHAT IT READS IS OF BULK AT MOST 1048576: true; the input reads as it did. -/
def controlStatesUptoRow : OpenClaim := { program := "ytalanclpiojanaagreat", sum := "0b665ae2d9fa4aaf57bcf1d8fd11b63b9eddb06c3b12c8484b5fa86a2aedb399", func := "magneto/magnetolaw38.ControlStates", spec := "controlStates", unfollowed := true, recurses := true, apart := false, narrowed := true }
def ControlStatesUptoSaid : Prop := controlStatesUptoRow.holds Tryz.pinned (OpenSpec.upto controlStatesSpec)

/-- 'magnetolaw38.ControlSteps', WHERE WHAT IT READS IS OF BULK AT MOST 1048576: true; the input reads as it did. -/
def controlStepsUptoRow : OpenClaim := { program := "ytalanclpiojanaagreat", sum := "0b665ae2d9fa4aaf57bcf1d8fd11b63b9eddb06c3b12c8484b5fa86a2aedb399", func := "magneto/magnetolaw38.ControlSteps", spec := "controlSteps", unfollowed := true, recurses := true, named := ["math/bits.divideError", "math/bits.overflowError"], apart := false, narrowed := true }
def ControlStepsUptoSaid : Prop := controlStepsUptoRow.holds Tryz.pinned (OpenSpec.upto controlStepsSpec)

/-- 'magnetolaw38.ControlLimited', WHERE WHAT IT READS IS OF BULK AT MOST 1048576: true; the input reads as it did. -/
def controlLimitedUptoRow : OpenClaim := { program := "ytalanclpiojanaagreat", sum := "0b665ae2d9fa4aaf57bcf1d8fd11b63b9eddb06c3b12c8484b5fa86a2aedb399", func := "magneto/magnetolaw38.ControlLimited", spec := "controlLimited", unfollowed := true, recurses := true, named := ["math/bits.divideError", "math/bits.overflowError"], apart := false, narrowed := true }
def ControlLimitedUptoSaid : Prop := controlLimitedUptoRow.holds Tryz.pinned (OpenSpec.upto controlLimitedSpec)

/-- 'magnetolaw38.ControlPedal', WHERE WHAT IT READS IS OF BULK AT MOST 1048576: true; the input reads as it did. -/
def controlPedalUptoRow : OpenClaim := { program := "ytalanclpiojanaagreat", sum := "0b665ae2d9fa4aaf57bcf1d8fd11b63b9eddb06c3b12c8484b5fa86a2aedb399", func := "magneto/magnetolaw38.ControlPedal", spec := "controlPedal", unfollowed := true, recurses := true, named := ["math/bits.divideError", "math/bits.overflowError"], apart := false, narrowed := true }
def ControlPedalUptoSaid : Prop := controlPedalUptoRow.holds Tryz.pinned (OpenSpec.upto controlPedalSpec)

/-- 'magnetolaw38.ControlFuel', WHERE WHAT IT READS IS OF BULK AT MOST 1048576: true; the input reads as it did. -/
def controlFuelUptoRow : OpenClaim := { program := "ytalanclpiojanaagreat", sum := "0b665ae2d9fa4aaf57bcf1d8fd11b63b9eddb06c3b12c8484b5fa86a2aedb399", func := "magneto/magnetolaw38.ControlFuel", spec := "controlFuel", unfollowed := true, recurses := true, named := ["math/bits.divideError", "math/bits.overflowError"], apart := false, narrowed := true }
def ControlFuelUptoSaid : Prop := controlFuelUptoRow.holds Tryz.pinned (OpenSpec.upto controlFuelSpec)

/-- 'magnetolaw38.ControlRuns', WHERE WHAT IT READS IS OF BULK AT MOST 1048576: true; the input reads as it did. -/
def controlRunsUptoRow : OpenClaim := { program := "ytalanclpiojanaagreat", sum := "0b665ae2d9fa4aaf57bcf1d8fd11b63b9eddb06c3b12c8484b5fa86a2aedb399", func := "magneto/magnetolaw38.ControlRuns", spec := "controlRuns", unfollowed := true, recurses := true, named := ["math/bits.divideError", "math/bits.overflowError"], apart := false, narrowed := true }
def ControlRunsUptoSaid : Prop := controlRunsUptoRow.holds Tryz.pinned (OpenSpec.upto controlRunsSpec)

/-- 'magnetolaw38.ControlParts', WHERE WHAT IT READS IS OF BULK AT MOST 1048576: true; the input reads as it did. -/
def controlPartsUptoRow : OpenClaim := { program := "ytalanclpiojanaagreat", sum := "0b665ae2d9fa4aaf57bcf1d8fd11b63b9eddb06c3b12c8484b5fa86a2aedb399", func := "magneto/magnetolaw38.ControlParts", spec := "controlParts", unfollowed := true, recurses := true, named := ["math/bits.divideError", "math/bits.overflowError"], apart := false, narrowed := true }
def ControlPartsUptoSaid : Prop := controlPartsUptoRow.holds Tryz.pinned (OpenSpec.upto controlPartsSpec)

end Rows
end Go.Proofs.YtalanclpiojanaaGreat

/-
  No cell of these rows narrows 'for every input' (looked for: loops, veiled, ifaces, maps, wideKeys, modest, calm, conditions, laid).
  DERIVED. THE GIVEN ROWS OF THIS SEAT. 5 by the template 'for every input the law returns true; each argument reads behind the call as it read before'; 0 by the template 'total and deterministic' (their statements: YtldhbjpnlehpgaaGreatTotals.lean).
  GIVEN WITH THE SEED: the statements are not yours to turn. If you find one false, say at which input.
  Laid BY PROGRAM, IN A SANDBOX (cutbox-rows.mjs): the forced cells as the released guide's own fill.sh prints them over the translation 6da2938137aac42f… (all of the seat's roots in one cut). By AI agents, Wed Nov 11 2026. No macro, syntax, notation, axiom, sorry.
-/
import Derived.Test.YtldhbjpnlehpgaaGreatChecked
import GoSem.Claim
import GoSem.ClaimJoined
import GoSem.ClaimMapViews
import Derived.JoinedTies
import Derived.KernelRfl
namespace Go.Proofs.YtldhbjpnlehpgaaGreat
/- THE CELL 'sum', in the pinned program and in every row, IS THE sha256 OF THE DUMP (.gsa) THAT YtldhbjpnlehpgaaGreatProg.lean LOADS. Nothing in Lean hashes anything: it is a label: what it is worth is what the hold of that sum in a sandbox is worth. -/
noncomputable def Tryz.pinned : Pinned := { name := "ytldhbjpnlehpgaagreat", sum := "6da2938137aac42f73a1c0eeb6ff84e263b595c5f566abd4027c27beee9e7ae6", checked := Tryz.checked }
namespace Rows
def none {H : Type} : Left H := { results := [], args := [] }

/-- 'magnetolaw25.SchedulerTeeth': WHATEVER THE INPUT: true; the input reads as it did. -/
def schedulerTeethSpec : ChangeSpec := { name := "schedulerTeeth", fn := fun _ => fun
  | [d1, d2] => { results := [.lit (.bool true)], args := [d1, d2] }
  | _ => none }
def schedulerTeethRow : OpenClaim := { program := "ytldhbjpnlehpgaagreat", sum := "6da2938137aac42f73a1c0eeb6ff84e263b595c5f566abd4027c27beee9e7ae6", func := "magneto/magnetolaw25.SchedulerTeeth", spec := "schedulerTeeth", unfollowed := true, recurses := true, named := ["math/bits.divideError", "math/bits.overflowError"], apart := false }
def SchedulerTeethSaid : Prop := schedulerTeethRow.holds Tryz.pinned (OpenSpec.ofChange schedulerTeethSpec)

/-- ITS FALSE NEIGHBOUR: 'it returns false'. Refute it at one input. -/
def schedulerTeethWrong : ChangeSpec := { name := "schedulerTeeth", fn := fun _ => fun
  | [d1, d2] => { results := [.lit (.bool false)], args := [d1, d2] }
  | _ => none }
def SchedulerTeethWrongFalsely : Prop := schedulerTeethRow.holds Tryz.pinned (OpenSpec.ofChange schedulerTeethWrong)

/-- 'magnetolaw25.SchedulerOnce': WHATEVER THE INPUT: true; the input reads as it did. -/
def schedulerOnceSpec : ChangeSpec := { name := "schedulerOnce", fn := fun _ => fun
  | [d1, d2, d3, d4, d5, d6] => { results := [.lit (.bool true)], args := [d1, d2, d3, d4, d5, d6] }
  | _ => none }
def schedulerOnceRow : OpenClaim := { program := "ytldhbjpnlehpgaagreat", sum := "6da2938137aac42f73a1c0eeb6ff84e263b595c5f566abd4027c27beee9e7ae6", func := "magneto/magnetolaw25.SchedulerOnce", spec := "schedulerOnce", unfollowed := true, recurses := true, named := ["math/bits.divideError", "math/bits.overflowError"], apart := false }
def SchedulerOnceSaid : Prop := schedulerOnceRow.holds Tryz.pinned (OpenSpec.ofChange schedulerOnceSpec)

/-- ITS FALSE NEIGHBOUR: 'it returns false'. Refute it at one input. -/
def schedulerOnceWrong : ChangeSpec := { name := "schedulerOnce", fn := fun _ => fun
  | [d1, d2, d3, d4, d5, d6] => { results := [.lit (.bool false)], args := [d1, d2, d3, d4, d5, d6] }
  | _ => none }
def SchedulerOnceWrongFalsely : Prop := schedulerOnceRow.holds Tryz.pinned (OpenSpec.ofChange schedulerOnceWrong)

/-- 'magnetolaw25.SchedulerExact': WHATEVER THE INPUT: true; the input reads as it did. -/
def schedulerExactSpec : ChangeSpec := { name := "schedulerExact", fn := fun _ => fun
  | [d1, d2, d3, d4, d5, d6] => { results := [.lit (.bool true)], args := [d1, d2, d3, d4, d5, d6] }
  | _ => none }
def schedulerExactRow : OpenClaim := { program := "ytldhbjpnlehpgaagreat", sum := "6da2938137aac42f73a1c0eeb6ff84e263b595c5f566abd4027c27beee9e7ae6", func := "magneto/magnetolaw25.SchedulerExact", spec := "schedulerExact", unfollowed := true, recurses := true, named := ["math/bits.divideError", "math/bits.overflowError"], apart := false }
def SchedulerExactSaid : Prop := schedulerExactRow.holds Tryz.pinned (OpenSpec.ofChange schedulerExactSpec)

/-- ITS FALSE NEIGHBOUR: 'it returns false'. Refute it at one input. -/
def schedulerExactWrong : ChangeSpec := { name := "schedulerExact", fn := fun _ => fun
  | [d1, d2, d3, d4, d5, d6] => { results := [.lit (.bool false)], args := [d1, d2, d3, d4, d5, d6] }
  | _ => none }
def SchedulerExactWrongFalsely : Prop := schedulerExactRow.holds Tryz.pinned (OpenSpec.ofChange schedulerExactWrong)

/-- 'magnetolaw25.SchedulerStates': WHATEVER THE INPUT: true; the input reads as it did. -/
def schedulerStatesSpec : ChangeSpec := { name := "schedulerStates", fn := fun _ => fun
  | [d1, d2, d3, d4, d5] => { results := [.lit (.bool true)], args := [d1, d2, d3, d4, d5] }
  | _ => none }
def schedulerStatesRow : OpenClaim := { program := "ytldhbjpnlehpgaagreat", sum := "6da2938137aac42f73a1c0eeb6ff84e263b595c5f566abd4027c27beee9e7ae6", func := "magneto/magnetolaw25.SchedulerStates", spec := "schedulerStates", unfollowed := true, recurses := true, named := ["math/bits.divideError", "math/bits.overflowError"], apart := false }
def SchedulerStatesSaid : Prop := schedulerStatesRow.holds Tryz.pinned (OpenSpec.ofChange schedulerStatesSpec)

/-- ITS FALSE NEIGHBOUR: 'it returns false'. Refute it at one input. -/
def schedulerStatesWrong : ChangeSpec := { name := "schedulerStates", fn := fun _ => fun
  | [d1, d2, d3, d4, d5] => { results := [.lit (.bool false)], args := [d1, d2, d3, d4, d5] }
  | _ => none }
def SchedulerStatesWrongFalsely : Prop := schedulerStatesRow.holds Tryz.pinned (OpenSpec.ofChange schedulerStatesWrong)

/-- 'magnetolaw25.SchedulerSafe': WHATEVER THE INPUT: true; the input reads as it did. -/
def schedulerSafeSpec : ChangeSpec := { name := "schedulerSafe", fn := fun _ => fun
  | [d1, d2, d3] => { results := [.lit (.bool true)], args := [d1, d2, d3] }
  | _ => none }
def schedulerSafeRow : OpenClaim := { program := "ytldhbjpnlehpgaagreat", sum := "6da2938137aac42f73a1c0eeb6ff84e263b595c5f566abd4027c27beee9e7ae6", func := "magneto/magnetolaw25.SchedulerSafe", spec := "schedulerSafe", unfollowed := true, recurses := true, named := ["math/bits.divideError", "math/bits.overflowError"], apart := false }
def SchedulerSafeSaid : Prop := schedulerSafeRow.holds Tryz.pinned (OpenSpec.ofChange schedulerSafeSpec)

/-- ITS FALSE NEIGHBOUR: 'it returns false'. Refute it at one input. -/
def schedulerSafeWrong : ChangeSpec := { name := "schedulerSafe", fn := fun _ => fun
  | [d1, d2, d3] => { results := [.lit (.bool false)], args := [d1, d2, d3] }
  | _ => none }
def SchedulerSafeWrongFalsely : Prop := schedulerSafeRow.holds Tryz.pinned (OpenSpec.ofChange schedulerSafeWrong)

/- THE SECOND FORM. 'bulk': how many values and letters a reading holds, each counted each time it is reached (what is shared counts as often as it is met; a slice's spare places count too). A statement '..UptoSaid' is the law's where the arguments, and the package variables that the reading takes, are together of bulk at most 1048576: NARROWER than '..Said'. Prove '..Said' where nothing that the law and all that it calls make is longer than what came in: it says more and counts as full. Else prove '..UptoSaid'. A law counts once. -/
mutual
def uptoBulk {H : Type} : DataW H → Nat
  | .lit (.string bytes) => bytes.length + 1
  | .lit _ => 1
  | .nil => 1
  | .ptr d => uptoBulk d + 1
  | .slice elems spare => uptoBulkAll elems + uptoBulkAll spare + 1
  | .agg parts => uptoBulkAll parts + 1
  | .iface _ d => uptoBulk d + 1
  | .map entries => uptoBulkEntries entries + 1
  | .held _ => 1
def uptoBulkAll {H : Type} : List (DataW H) → Nat
  | [] => 0
  | d :: r => uptoBulk d + uptoBulkAll r
def uptoBulkEntries {H : Type} : List (Lit × DataW H) → Nat
  | [] => 0
  | x :: r => uptoBulkEntry x + uptoBulkEntries r
def uptoBulkEntry {H : Type} : Lit × DataW H → Nat
  | (.string bytes, d) => bytes.length + uptoBulk d + 1
  | (_, d) => uptoBulk d + 1
 end
def uptoSmall : (H : Type) → List (DataW H) → Bool := fun _ ds => decide (uptoBulkAll ds ≤ 1048576)
def OpenSpec.upto (s : _root_.Go.ChangeSpec) : _root_.Go.OpenSpec := { _root_.Go.OpenSpec.ofChange s with cond := some uptoSmall }

/-- 'magnetolaw25.SchedulerTeeth', WHERE WHAT IT READS IS OF BULK AT MOST 1048576: true; the input reads as it did. -/
def schedulerTeethUptoRow : OpenClaim := { program := "ytldhbjpnlehpgaagreat", sum := "6da2938137aac42f73a1c0eeb6ff84e263b595c5f566abd4027c27beee9e7ae6", func := "magneto/magnetolaw25.SchedulerTeeth", spec := "schedulerTeeth", unfollowed := true, recurses := true, named := ["math/bits.divideError", "math/bits.overflowError"], apart := false, narrowed := true }
def SchedulerTeethUptoSaid : Prop := schedulerTeethUptoRow.holds Tryz.pinned (OpenSpec.upto schedulerTeethSpec)

/-- 'magnetolaw25.SchedulerOnce', WHERE WHAT IT READS IS OF BULK AT MOST 1048576: true; the input reads as it did. -/
def schedulerOnceUptoRow : OpenClaim := { program := "ytldhbjpnlehpgaagreat", sum := "6da2938137aac42f73a1c0eeb6ff84e263b595c5f566abd4027c27beee9e7ae6", func := "magneto/magnetolaw25.SchedulerOnce", spec := "schedulerOnce", unfollowed := true, recurses := true, named := ["math/bits.divideError", "math/bits.overflowError"], apart := false, narrowed := true }
def SchedulerOnceUptoSaid : Prop := schedulerOnceUptoRow.holds Tryz.pinned (OpenSpec.upto schedulerOnceSpec)

/-- 'magnetolaw25.SchedulerExact', WHERE WHAT IT READS IS OF BULK AT MOST 1048576: true; the input reads as it did. -/
def schedulerExactUptoRow : OpenClaim := { program := "ytldhbjpnlehpgaagreat", sum := "6da2938137aac42f73a1c0eeb6ff84e263b595c5f566abd4027c27beee9e7ae6", func := "magneto/magnetolaw25.SchedulerExact", spec := "schedulerExact", unfollowed := true, recurses := true, named := ["math/bits.divideError", "math/bits.overflowError"], apart := false, narrowed := true }
def SchedulerExactUptoSaid : Prop := schedulerExactUptoRow.holds Tryz.pinned (OpenSpec.upto schedulerExactSpec)

/-- 'magnetolaw25.SchedulerStates', WHERE WHAT IT READS IS OF BULK AT MOST 1048576: true; the input reads as it did. -/
def schedulerStatesUptoRow : OpenClaim := { program := "ytldhbjpnlehpgaagreat", sum := "6da2938137aac42f73a1c0eeb6ff84e263b595c5f566abd4027c27beee9e7ae6", func := "magneto/magnetolaw25.SchedulerStates", spec := "schedulerStates", unfollowed := true, recurses := true, named := ["math/bits.divideError", "math/bits.overflowError"], apart := false, narrowed := true }
def SchedulerStatesUptoSaid : Prop := schedulerStatesUptoRow.holds Tryz.pinned (OpenSpec.upto schedulerStatesSpec)

/-- 'magnetolaw25.SchedulerSafe', WHERE WHAT IT READS IS OF BULK AT MOST 1048576: true; the input reads as it did. -/
def schedulerSafeUptoRow : OpenClaim := { program := "ytldhbjpnlehpgaagreat", sum := "6da2938137aac42f73a1c0eeb6ff84e263b595c5f566abd4027c27beee9e7ae6", func := "magneto/magnetolaw25.SchedulerSafe", spec := "schedulerSafe", unfollowed := true, recurses := true, named := ["math/bits.divideError", "math/bits.overflowError"], apart := false, narrowed := true }
def SchedulerSafeUptoSaid : Prop := schedulerSafeUptoRow.holds Tryz.pinned (OpenSpec.upto schedulerSafeSpec)

end Rows
end Go.Proofs.YtldhbjpnlehpgaaGreat

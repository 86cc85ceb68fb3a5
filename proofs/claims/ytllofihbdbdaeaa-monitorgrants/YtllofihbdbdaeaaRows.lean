/-
  No cell of these rows narrows 'for every input' (looked for: loops, veiled, ifaces, maps, wideKeys, modest, calm, conditions, laid).
  DERIVED. THE GIVEN ROWS OF THIS SEAT. 8 by the template 'for every input the law returns true; each argument reads behind the call as it read before'; 0 by the template 'total and deterministic' (their statements: YtllofihbdbdaeaaTotals.lean).
  GIVEN WITH THE SEED: the statements are not yours to turn. If you find one false, say at which input.
  Laid BY PROGRAM, IN A SANDBOX (cutbox-rows.mjs): the forced cells as the released guide's own fill.sh prints them over the translation 6723612b434d4ce1… (all of the seat's roots in one cut). By AI agents, Wed Nov 11 2026. No macro, syntax, notation, axiom, sorry.
-/
import Derived.Test.YtllofihbdbdaeaaChecked
import GoSem.Claim
import GoSem.ClaimJoined
import GoSem.ClaimMapViews
import Derived.JoinedTies
import Derived.KernelRfl
namespace Go.Proofs.Ytllofihbdbdaeaa
/- THE CELL 'sum', in the pinned program and in every row, IS THE sha256 OF THE DUMP (.gsa) THAT YtllofihbdbdaeaaProg.lean LOADS. Nothing in Lean hashes anything: it is a label: what it is worth is what the hold of that sum in a sandbox is worth. -/
noncomputable def Try.pinned : Pinned := { name := "ytllofihbdbdaeaa", sum := "6723612b434d4ce1254828493c977ecf8dd0395eabb8218b16c8ade9a1412811", checked := Try.checked }
namespace Rows
def none {H : Type} : Left H := { results := [], args := [] }

/-- 'magnetolaw39.MonitorPermits': WHATEVER THE INPUT: true; the input reads as it did. -/
def monitorPermitsSpec : ChangeSpec := { name := "monitorPermits", fn := fun _ => fun
  | [d1, d2, d3, d4] => { results := [.lit (.bool true)], args := [d1, d2, d3, d4] }
  | _ => none }
def monitorPermitsRow : OpenClaim := { program := "ytllofihbdbdaeaa", sum := "6723612b434d4ce1254828493c977ecf8dd0395eabb8218b16c8ade9a1412811", func := "magneto/magnetolaw39.MonitorPermits", spec := "monitorPermits", unfollowed := true, recurses := true, apart := false }
def MonitorPermitsSaid : Prop := monitorPermitsRow.holds Try.pinned (OpenSpec.ofChange monitorPermitsSpec)

/-- ITS FALSE NEIGHBOUR: 'it returns false'. Refute it at one input. -/
def monitorPermitsWrong : ChangeSpec := { name := "monitorPermits", fn := fun _ => fun
  | [d1, d2, d3, d4] => { results := [.lit (.bool false)], args := [d1, d2, d3, d4] }
  | _ => none }
def MonitorPermitsWrongFalsely : Prop := monitorPermitsRow.holds Try.pinned (OpenSpec.ofChange monitorPermitsWrong)

/-- 'magnetolaw39.MonitorLimits': WHATEVER THE INPUT: true; the input reads as it did. -/
def monitorLimitsSpec : ChangeSpec := { name := "monitorLimits", fn := fun _ => fun
  | [d1, d2, d3, d4, d5] => { results := [.lit (.bool true)], args := [d1, d2, d3, d4, d5] }
  | _ => none }
def monitorLimitsRow : OpenClaim := { program := "ytllofihbdbdaeaa", sum := "6723612b434d4ce1254828493c977ecf8dd0395eabb8218b16c8ade9a1412811", func := "magneto/magnetolaw39.MonitorLimits", spec := "monitorLimits", unfollowed := true, recurses := true, apart := false }
def MonitorLimitsSaid : Prop := monitorLimitsRow.holds Try.pinned (OpenSpec.ofChange monitorLimitsSpec)

/-- ITS FALSE NEIGHBOUR: 'it returns false'. Refute it at one input. -/
def monitorLimitsWrong : ChangeSpec := { name := "monitorLimits", fn := fun _ => fun
  | [d1, d2, d3, d4, d5] => { results := [.lit (.bool false)], args := [d1, d2, d3, d4, d5] }
  | _ => none }
def MonitorLimitsWrongFalsely : Prop := monitorLimitsRow.holds Try.pinned (OpenSpec.ofChange monitorLimitsWrong)

/-- 'magnetolaw39.MonitorSteps': WHATEVER THE INPUT: true; the input reads as it did. -/
def monitorStepsSpec : ChangeSpec := { name := "monitorSteps", fn := fun _ => fun
  | [d1, d2, d3] => { results := [.lit (.bool true)], args := [d1, d2, d3] }
  | _ => none }
def monitorStepsRow : OpenClaim := { program := "ytllofihbdbdaeaa", sum := "6723612b434d4ce1254828493c977ecf8dd0395eabb8218b16c8ade9a1412811", func := "magneto/magnetolaw39.MonitorSteps", spec := "monitorSteps", unfollowed := true, recurses := true, apart := false }
def MonitorStepsSaid : Prop := monitorStepsRow.holds Try.pinned (OpenSpec.ofChange monitorStepsSpec)

/-- ITS FALSE NEIGHBOUR: 'it returns false'. Refute it at one input. -/
def monitorStepsWrong : ChangeSpec := { name := "monitorSteps", fn := fun _ => fun
  | [d1, d2, d3] => { results := [.lit (.bool false)], args := [d1, d2, d3] }
  | _ => none }
def MonitorStepsWrongFalsely : Prop := monitorStepsRow.holds Try.pinned (OpenSpec.ofChange monitorStepsWrong)

/-- 'magnetolaw39.MonitorMeasures': WHATEVER THE INPUT: true; the input reads as it did. -/
def monitorMeasuresSpec : ChangeSpec := { name := "monitorMeasures", fn := fun _ => fun
  | [d1, d2, d3, d4] => { results := [.lit (.bool true)], args := [d1, d2, d3, d4] }
  | _ => none }
def monitorMeasuresRow : OpenClaim := { program := "ytllofihbdbdaeaa", sum := "6723612b434d4ce1254828493c977ecf8dd0395eabb8218b16c8ade9a1412811", func := "magneto/magnetolaw39.MonitorMeasures", spec := "monitorMeasures", unfollowed := true, recurses := true, apart := false }
def MonitorMeasuresSaid : Prop := monitorMeasuresRow.holds Try.pinned (OpenSpec.ofChange monitorMeasuresSpec)

/-- ITS FALSE NEIGHBOUR: 'it returns false'. Refute it at one input. -/
def monitorMeasuresWrong : ChangeSpec := { name := "monitorMeasures", fn := fun _ => fun
  | [d1, d2, d3, d4] => { results := [.lit (.bool false)], args := [d1, d2, d3, d4] }
  | _ => none }
def MonitorMeasuresWrongFalsely : Prop := monitorMeasuresRow.holds Try.pinned (OpenSpec.ofChange monitorMeasuresWrong)

/-- 'magnetolaw39.MonitorCut': WHATEVER THE INPUT: true; the input reads as it did. -/
def monitorCutSpec : ChangeSpec := { name := "monitorCut", fn := fun _ => fun
  | [d1, d2, d3, d4, d5] => { results := [.lit (.bool true)], args := [d1, d2, d3, d4, d5] }
  | _ => none }
def monitorCutRow : OpenClaim := { program := "ytllofihbdbdaeaa", sum := "6723612b434d4ce1254828493c977ecf8dd0395eabb8218b16c8ade9a1412811", func := "magneto/magnetolaw39.MonitorCut", spec := "monitorCut", unfollowed := true, recurses := true, apart := false }
def MonitorCutSaid : Prop := monitorCutRow.holds Try.pinned (OpenSpec.ofChange monitorCutSpec)

/-- ITS FALSE NEIGHBOUR: 'it returns false'. Refute it at one input. -/
def monitorCutWrong : ChangeSpec := { name := "monitorCut", fn := fun _ => fun
  | [d1, d2, d3, d4, d5] => { results := [.lit (.bool false)], args := [d1, d2, d3, d4, d5] }
  | _ => none }
def MonitorCutWrongFalsely : Prop := monitorCutRow.holds Try.pinned (OpenSpec.ofChange monitorCutWrong)

/-- 'magnetolaw39.MonitorReacts': WHATEVER THE INPUT: true; the input reads as it did. -/
def monitorReactsSpec : ChangeSpec := { name := "monitorReacts", fn := fun _ => fun
  | [d] => { results := [.lit (.bool true)], args := [d] }
  | _ => none }
def monitorReactsRow : OpenClaim := { program := "ytllofihbdbdaeaa", sum := "6723612b434d4ce1254828493c977ecf8dd0395eabb8218b16c8ade9a1412811", func := "magneto/magnetolaw39.MonitorReacts", spec := "monitorReacts", unfollowed := true, recurses := true, apart := false }
def MonitorReactsSaid : Prop := monitorReactsRow.holds Try.pinned (OpenSpec.ofChange monitorReactsSpec)

/-- ITS FALSE NEIGHBOUR: 'it returns false'. Refute it at one input. -/
def monitorReactsWrong : ChangeSpec := { name := "monitorReacts", fn := fun _ => fun
  | [d] => { results := [.lit (.bool false)], args := [d] }
  | _ => none }
def MonitorReactsWrongFalsely : Prop := monitorReactsRow.holds Try.pinned (OpenSpec.ofChange monitorReactsWrong)

/-- 'magnetolaw39.MonitorSees': WHATEVER THE INPUT: true; the input reads as it did. -/
def monitorSeesSpec : ChangeSpec := { name := "monitorSees", fn := fun _ => fun
  | [d1, d2, d3, d4, d5] => { results := [.lit (.bool true)], args := [d1, d2, d3, d4, d5] }
  | _ => none }
def monitorSeesRow : OpenClaim := { program := "ytllofihbdbdaeaa", sum := "6723612b434d4ce1254828493c977ecf8dd0395eabb8218b16c8ade9a1412811", func := "magneto/magnetolaw39.MonitorSees", spec := "monitorSees", unfollowed := true, recurses := true, named := ["math/bits.divideError", "math/bits.overflowError"], apart := false }
def MonitorSeesSaid : Prop := monitorSeesRow.holds Try.pinned (OpenSpec.ofChange monitorSeesSpec)

/-- ITS FALSE NEIGHBOUR: 'it returns false'. Refute it at one input. -/
def monitorSeesWrong : ChangeSpec := { name := "monitorSees", fn := fun _ => fun
  | [d1, d2, d3, d4, d5] => { results := [.lit (.bool false)], args := [d1, d2, d3, d4, d5] }
  | _ => none }
def MonitorSeesWrongFalsely : Prop := monitorSeesRow.holds Try.pinned (OpenSpec.ofChange monitorSeesWrong)

/-- 'magnetolaw39.MonitorGrants': WHATEVER THE INPUT: true; the input reads as it did. -/
def monitorGrantsSpec : ChangeSpec := { name := "monitorGrants", fn := fun _ => fun
  | [d1, d2, d3, d4, d5, d6] => { results := [.lit (.bool true)], args := [d1, d2, d3, d4, d5, d6] }
  | _ => none }
def monitorGrantsRow : OpenClaim := { program := "ytllofihbdbdaeaa", sum := "6723612b434d4ce1254828493c977ecf8dd0395eabb8218b16c8ade9a1412811", func := "magneto/magnetolaw39.MonitorGrants", spec := "monitorGrants", unfollowed := true, recurses := true, named := ["math/bits.divideError", "math/bits.overflowError"], apart := false }
def MonitorGrantsSaid : Prop := monitorGrantsRow.holds Try.pinned (OpenSpec.ofChange monitorGrantsSpec)

/-- ITS FALSE NEIGHBOUR: 'it returns false'. Refute it at one input. -/
def monitorGrantsWrong : ChangeSpec := { name := "monitorGrants", fn := fun _ => fun
  | [d1, d2, d3, d4, d5, d6] => { results := [.lit (.bool false)], args := [d1, d2, d3, d4, d5, d6] }
  | _ => none }
def MonitorGrantsWrongFalsely : Prop := monitorGrantsRow.holds Try.pinned (OpenSpec.ofChange monitorGrantsWrong)

/- THE SECOND FORM. 'bulk': how many values and letters a reading holds, each counted each time it is reached (what is shared counts as often as it is met; a slice's spare places count too). A statement '..UptoSaid' is the law's where the arguments, and the package variables that the reading takes, are together of bulk at most 1048576: NARROWER than '..Said'. Prove '..Said' where nothing that the law and all that it calls make is longer than what came in: it says more and counts as full. Else prove '..UptoSaid'. A law counts once. -/
mutual
def uptoBulk {H : Type} : DataW H → Nat
  | .lit (.string bytes) => bytes.length + 1
  | .lit _ => 1
  | .nil => 1
  | .ptr d => uptoBulk d + 1
  | .slice elems spare => uptoBulkAll elems + uptoBulkAll spare + 1
  | .agg parts => uptoBulkAll parts + 1
  | .iface _ d => uptoBulk d + 1
  | .map entries => uptoBulkEntries entries + 1
  | .held _ => 1
def uptoBulkAll {H : Type} : List (DataW H) → Nat
  | [] => 0
  | d :: r => uptoBulk d + uptoBulkAll r
def uptoBulkEntries {H : Type} : List (Lit × DataW H) → Nat
  | [] => 0
  | x :: r => uptoBulkEntry x + uptoBulkEntries r
def uptoBulkEntry {H : Type} : Lit × DataW H → Nat
  | (.string bytes, d) => bytes.length + uptoBulk d + 1
  | (_, d) => uptoBulk d + 1
 end
def uptoSmall : (H : Type) → List (DataW H) → Bool := fun _ ds => decide (uptoBulkAll ds ≤ 1048576)
def OpenSpec.upto (s : _root_.Go.ChangeSpec) : _root_.Go.OpenSpec := { _root_.Go.OpenSpec.ofChange s with cond := some uptoSmall }

/-- 'magnetolaw39.MonitorPermits', WHERE WHAT IT READS IS OF BULK AT MOST 1048576: true; the input reads as it did. -/
def monitorPermitsUptoRow : OpenClaim := { program := "ytllofihbdbdaeaa", sum := "6723612b434d4ce1254828493c977ecf8dd0395eabb8218b16c8ade9a1412811", func := "magneto/magnetolaw39.MonitorPermits", spec := "monitorPermits", unfollowed := true, recurses := true, apart := false, narrowed := true }
def MonitorPermitsUptoSaid : Prop := monitorPermitsUptoRow.holds Try.pinned (OpenSpec.upto monitorPermitsSpec)

/-- 'magnetolaw39.MonitorLimits', WHERE WHAT IT READS IS OF BULK AT MOST 1048576: true; the input reads as it did. -/
def monitorLimitsUptoRow : OpenClaim := { program := "ytllofihbdbdaeaa", sum := "6723612b434d4ce1254828493c977ecf8dd0395eabb8218b16c8ade9a1412811", func := "magneto/magnetolaw39.MonitorLimits", spec := "monitorLimits", unfollowed := true, recurses := true, apart := false, narrowed := true }
def MonitorLimitsUptoSaid : Prop := monitorLimitsUptoRow.holds Try.pinned (OpenSpec.upto monitorLimitsSpec)

/-- 'magnetolaw39.MonitorSteps', WHERE WHAT IT READS IS OF BULK AT MOST 1048576: true; the input reads as it did. -/
def monitorStepsUptoRow : OpenClaim := { program := "ytllofihbdbdaeaa", sum := "6723612b434d4ce1254828493c977ecf8dd0395eabb8218b16c8ade9a1412811", func := "magneto/magnetolaw39.MonitorSteps", spec := "monitorSteps", unfollowed := true, recurses := true, apart := false, narrowed := true }
def MonitorStepsUptoSaid : Prop := monitorStepsUptoRow.holds Try.pinned (OpenSpec.upto monitorStepsSpec)

/-- 'magnetolaw39.MonitorMeasures', WHERE WHAT IT READS IS OF BULK AT MOST 1048576: true; the input reads as it did. -/
def monitorMeasuresUptoRow : OpenClaim := { program := "ytllofihbdbdaeaa", sum := "6723612b434d4ce1254828493c977ecf8dd0395eabb8218b16c8ade9a1412811", func := "magneto/magnetolaw39.MonitorMeasures", spec := "monitorMeasures", unfollowed := true, recurses := true, apart := false, narrowed := true }
def MonitorMeasuresUptoSaid : Prop := monitorMeasuresUptoRow.holds Try.pinned (OpenSpec.upto monitorMeasuresSpec)

/-- 'magnetolaw39.MonitorCut', WHERE WHAT IT READS IS OF BULK AT MOST 1048576: true; the input reads as it did. -/
def monitorCutUptoRow : OpenClaim := { program := "ytllofihbdbdaeaa", sum := "6723612b434d4ce1254828493c977ecf8dd0395eabb8218b16c8ade9a1412811", func := "magneto/magnetolaw39.MonitorCut", spec := "monitorCut", unfollowed := true, recurses := true, apart := false, narrowed := true }
def MonitorCutUptoSaid : Prop := monitorCutUptoRow.holds Try.pinned (OpenSpec.upto monitorCutSpec)

/-- 'magnetolaw39.MonitorReacts', WHERE WHAT IT READS IS OF BULK AT MOST 1048576: true; the input reads as it did. -/
def monitorReactsUptoRow : OpenClaim := { program := "ytllofihbdbdaeaa", sum := "6723612b434d4ce1254828493c977ecf8dd0395eabb8218b16c8ade9a1412811", func := "magneto/magnetolaw39.MonitorReacts", spec := "monitorReacts", unfollowed := true, recurses := true, apart := false, narrowed := true }
def MonitorReactsUptoSaid : Prop := monitorReactsUptoRow.holds Try.pinned (OpenSpec.upto monitorReactsSpec)

/-- 'magnetolaw39.MonitorSees', WHERE WHAT IT READS IS OF BULK AT MOST 1048576: true; the input reads as it did. -/
def monitorSeesUptoRow : OpenClaim := { program := "ytllofihbdbdaeaa", sum := "6723612b434d4ce1254828493c977ecf8dd0395eabb8218b16c8ade9a1412811", func := "magneto/magnetolaw39.MonitorSees", spec := "monitorSees", unfollowed := true, recurses := true, named := ["math/bits.divideError", "math/bits.overflowError"], apart := false, narrowed := true }
def MonitorSeesUptoSaid : Prop := monitorSeesUptoRow.holds Try.pinned (OpenSpec.upto monitorSeesSpec)

/-- 'magnetolaw39.MonitorGrants', WHERE WHAT IT READS IS OF BULK AT MOST 1048576: true; the input reads as it did. -/
def monitorGrantsUptoRow : OpenClaim := { program := "ytllofihbdbdaeaa", sum := "6723612b434d4ce1254828493c977ecf8dd0395eabb8218b16c8ade9a1412811", func := "magneto/magnetolaw39.MonitorGrants", spec := "monitorGrants", unfollowed := true, recurses := true, named := ["math/bits.divideError", "math/bits.overflowError"], apart := false, narrowed := true }
def MonitorGrantsUptoSaid : Prop := monitorGrantsUptoRow.holds Try.pinned (OpenSpec.upto monitorGrantsSpec)

end Rows
end Go.Proofs.Ytllofihbdbdaeaa

/-
  No cell of these rows narrows 'for every input' (looked for: loops, veiled, ifaces, maps, wideKeys, modest, calm, conditions, laid).
  DERIVED. THE GIVEN ROWS OF THIS SEAT. 7 by the template 'for every input the law returns true; each argument reads behind the call as it read before'; 0 by the template 'total and deterministic' (their statements: YtbkjebepjcnklaaTotals.lean).
  GIVEN WITH THE SEED: the statements are not yours to turn. If you find one false, say at which input.
  Laid BY PROGRAM, IN A SANDBOX (cutbox-rows.mjs): the forced cells as the released guide's own fill.sh prints them over the translation 9552edc855b375e2… (all of the seat's roots in one cut). By AI agents, Wed Nov 11 2026. No macro, syntax, notation, axiom, sorry.
-/
import Derived.Test.YtbkjebepjcnklaaChecked
import GoSem.Claim
import GoSem.ClaimJoined
import GoSem.ClaimMapViews
import Derived.JoinedTies
import Derived.KernelRfl
namespace Go.Proofs.Ytbkjebepjcnklaa
/- THE CELL 'sum', in the pinned program and in every row, IS THE sha256 OF THE DUMP (.gsa) THAT YtbkjebepjcnklaaProg.lean LOADS. Nothing in Lean hashes anything: it is a label: what it is worth is what the hold of that sum in a sandbox is worth. -/
noncomputable def Try.pinned : Pinned := { name := "ytbkjebepjcnklaa", sum := "9552edc855b375e29633cd2453fe0fc56c539f76bd8cf75021638c180e48ae86", checked := Try.checked }
namespace Rows
def none {H : Type} : Left H := { results := [], args := [] }

/-- 'magnetolaw24.TimerLevels': WHATEVER THE INPUT: true; the input reads as it did. -/
def timerLevelsSpec : ChangeSpec := { name := "timerLevels", fn := fun _ => fun
  | [d1, d2] => { results := [.lit (.bool true)], args := [d1, d2] }
  | _ => none }
def timerLevelsRow : OpenClaim := { program := "ytbkjebepjcnklaa", sum := "9552edc855b375e29633cd2453fe0fc56c539f76bd8cf75021638c180e48ae86", func := "magneto/magnetolaw24.TimerLevels", spec := "timerLevels", unfollowed := true, recurses := true, apart := false }
def TimerLevelsSaid : Prop := timerLevelsRow.holds Try.pinned (OpenSpec.ofChange timerLevelsSpec)

/-- ITS FALSE NEIGHBOUR: 'it returns false'. Refute it at one input. -/
def timerLevelsWrong : ChangeSpec := { name := "timerLevels", fn := fun _ => fun
  | [d1, d2] => { results := [.lit (.bool false)], args := [d1, d2] }
  | _ => none }
def TimerLevelsWrongFalsely : Prop := timerLevelsRow.holds Try.pinned (OpenSpec.ofChange timerLevelsWrong)

/-- 'magnetolaw24.TimerArms': WHATEVER THE INPUT: true; the input reads as it did. -/
def timerArmsSpec : ChangeSpec := { name := "timerArms", fn := fun _ => fun
  | [d1, d2, d3, d4, d5] => { results := [.lit (.bool true)], args := [d1, d2, d3, d4, d5] }
  | _ => none }
def timerArmsRow : OpenClaim := { program := "ytbkjebepjcnklaa", sum := "9552edc855b375e29633cd2453fe0fc56c539f76bd8cf75021638c180e48ae86", func := "magneto/magnetolaw24.TimerArms", spec := "timerArms", unfollowed := true, recurses := true, apart := false }
def TimerArmsSaid : Prop := timerArmsRow.holds Try.pinned (OpenSpec.ofChange timerArmsSpec)

/-- ITS FALSE NEIGHBOUR: 'it returns false'. Refute it at one input. -/
def timerArmsWrong : ChangeSpec := { name := "timerArms", fn := fun _ => fun
  | [d1, d2, d3, d4, d5] => { results := [.lit (.bool false)], args := [d1, d2, d3, d4, d5] }
  | _ => none }
def TimerArmsWrongFalsely : Prop := timerArmsRow.holds Try.pinned (OpenSpec.ofChange timerArmsWrong)

/-- 'magnetolaw24.TimerForces': WHATEVER THE INPUT: true; the input reads as it did. -/
def timerForcesSpec : ChangeSpec := { name := "timerForces", fn := fun _ => fun
  | [d1, d2, d3] => { results := [.lit (.bool true)], args := [d1, d2, d3] }
  | _ => none }
def timerForcesRow : OpenClaim := { program := "ytbkjebepjcnklaa", sum := "9552edc855b375e29633cd2453fe0fc56c539f76bd8cf75021638c180e48ae86", func := "magneto/magnetolaw24.TimerForces", spec := "timerForces", unfollowed := true, recurses := true, apart := false }
def TimerForcesSaid : Prop := timerForcesRow.holds Try.pinned (OpenSpec.ofChange timerForcesSpec)

/-- ITS FALSE NEIGHBOUR: 'it returns false'. Refute it at one input. -/
def timerForcesWrong : ChangeSpec := { name := "timerForces", fn := fun _ => fun
  | [d1, d2, d3] => { results := [.lit (.bool false)], args := [d1, d2, d3] }
  | _ => none }
def TimerForcesWrongFalsely : Prop := timerForcesRow.holds Try.pinned (OpenSpec.ofChange timerForcesWrong)

/-- 'magnetolaw24.TimerAdvances': WHATEVER THE INPUT: true; the input reads as it did. -/
def timerAdvancesSpec : ChangeSpec := { name := "timerAdvances", fn := fun _ => fun
  | [d1, d2] => { results := [.lit (.bool true)], args := [d1, d2] }
  | _ => none }
def timerAdvancesRow : OpenClaim := { program := "ytbkjebepjcnklaa", sum := "9552edc855b375e29633cd2453fe0fc56c539f76bd8cf75021638c180e48ae86", func := "magneto/magnetolaw24.TimerAdvances", spec := "timerAdvances", unfollowed := true, recurses := true, apart := false }
def TimerAdvancesSaid : Prop := timerAdvancesRow.holds Try.pinned (OpenSpec.ofChange timerAdvancesSpec)

/-- ITS FALSE NEIGHBOUR: 'it returns false'. Refute it at one input. -/
def timerAdvancesWrong : ChangeSpec := { name := "timerAdvances", fn := fun _ => fun
  | [d1, d2] => { results := [.lit (.bool false)], args := [d1, d2] }
  | _ => none }
def TimerAdvancesWrongFalsely : Prop := timerAdvancesRow.holds Try.pinned (OpenSpec.ofChange timerAdvancesWrong)

/-- 'magnetolaw24.TimerScripts': WHATEVER THE INPUT: true; the input reads as it did. -/
def timerScriptsSpec : ChangeSpec := { name := "timerScripts", fn := fun _ => fun
  | [d1, d2] => { results := [.lit (.bool true)], args := [d1, d2] }
  | _ => none }
def timerScriptsRow : OpenClaim := { program := "ytbkjebepjcnklaa", sum := "9552edc855b375e29633cd2453fe0fc56c539f76bd8cf75021638c180e48ae86", func := "magneto/magnetolaw24.TimerScripts", spec := "timerScripts", unfollowed := true, recurses := true, apart := false }
def TimerScriptsSaid : Prop := timerScriptsRow.holds Try.pinned (OpenSpec.ofChange timerScriptsSpec)

/-- ITS FALSE NEIGHBOUR: 'it returns false'. Refute it at one input. -/
def timerScriptsWrong : ChangeSpec := { name := "timerScripts", fn := fun _ => fun
  | [d1, d2] => { results := [.lit (.bool false)], args := [d1, d2] }
  | _ => none }
def TimerScriptsWrongFalsely : Prop := timerScriptsRow.holds Try.pinned (OpenSpec.ofChange timerScriptsWrong)

/-- 'magnetolaw24.TimerQuiet': WHATEVER THE INPUT: true; the input reads as it did. -/
def timerQuietSpec : ChangeSpec := { name := "timerQuiet", fn := fun _ => fun
  | [d1, d2] => { results := [.lit (.bool true)], args := [d1, d2] }
  | _ => none }
def timerQuietRow : OpenClaim := { program := "ytbkjebepjcnklaa", sum := "9552edc855b375e29633cd2453fe0fc56c539f76bd8cf75021638c180e48ae86", func := "magneto/magnetolaw24.TimerQuiet", spec := "timerQuiet", unfollowed := true, recurses := true, apart := false }
def TimerQuietSaid : Prop := timerQuietRow.holds Try.pinned (OpenSpec.ofChange timerQuietSpec)

/-- ITS FALSE NEIGHBOUR: 'it returns false'. Refute it at one input. -/
def timerQuietWrong : ChangeSpec := { name := "timerQuiet", fn := fun _ => fun
  | [d1, d2] => { results := [.lit (.bool false)], args := [d1, d2] }
  | _ => none }
def TimerQuietWrongFalsely : Prop := timerQuietRow.holds Try.pinned (OpenSpec.ofChange timerQuietWrong)

/-- 'magnetolaw24.TimerSplits': WHATEVER THE INPUT: true; the input reads as it did. -/
def timerSplitsSpec : ChangeSpec := { name := "timerSplits", fn := fun _ => fun
  | [d1, d2, d3] => { results := [.lit (.bool true)], args := [d1, d2, d3] }
  | _ => none }
def timerSplitsRow : OpenClaim := { program := "ytbkjebepjcnklaa", sum := "9552edc855b375e29633cd2453fe0fc56c539f76bd8cf75021638c180e48ae86", func := "magneto/magnetolaw24.TimerSplits", spec := "timerSplits", unfollowed := true, recurses := true, apart := false }
def TimerSplitsSaid : Prop := timerSplitsRow.holds Try.pinned (OpenSpec.ofChange timerSplitsSpec)

/-- ITS FALSE NEIGHBOUR: 'it returns false'. Refute it at one input. -/
def timerSplitsWrong : ChangeSpec := { name := "timerSplits", fn := fun _ => fun
  | [d1, d2, d3] => { results := [.lit (.bool false)], args := [d1, d2, d3] }
  | _ => none }
def TimerSplitsWrongFalsely : Prop := timerSplitsRow.holds Try.pinned (OpenSpec.ofChange timerSplitsWrong)

/- THE SECOND FORM. 'bulk': how many values and letters a reading holds, each counted each time it is reached (what is shared counts as often as it is met; a slice's spare places count too). A statement '..UptoSaid' is the law's where the arguments, and the package variables that the reading takes, are together of bulk at most 1048576: NARROWER than '..Said'. Prove '..Said' where nothing that the law and all that it calls make is longer than what came in: it says more and counts as full. Else prove '..UptoSaid'. A law counts once. -/
mutual
def uptoBulk {H : Type} : DataW H → Nat
  | .lit (.string bytes) => bytes.length + 1
  | .lit _ => 1
  | .nil => 1
  | .ptr d => uptoBulk d + 1
  | .slice elems spare => uptoBulkAll elems + uptoBulkAll spare + 1
  | .agg parts => uptoBulkAll parts + 1
  | .iface _ d => uptoBulk d + 1
  | .map entries => uptoBulkEntries entries + 1
  | .held _ => 1
def uptoBulkAll {H : Type} : List (DataW H) → Nat
  | [] => 0
  | d :: r => uptoBulk d + uptoBulkAll r
def uptoBulkEntries {H : Type} : List (Lit × DataW H) → Nat
  | [] => 0
  | x :: r => uptoBulkEntry x + uptoBulkEntries r
def uptoBulkEntry {H : Type} : Lit × DataW H → Nat
  | (.string bytes, d) => bytes.length + uptoBulk d + 1
  | (_, d) => uptoBulk d + 1
 end
def uptoSmall : (H : Type) → List (DataW H) → Bool := fun _ ds => decide (uptoBulkAll ds ≤ 1048576)
def OpenSpec.upto (s : _root_.Go.ChangeSpec) : _root_.Go.OpenSpec := { _root_.Go.OpenSpec.ofChange s with cond := some uptoSmall }

/-- 'magnetolaw24.TimerLevels', WHERE WHAT IT READS IS OF BULK AT MOST 1048576: true; the input reads as it did. -/
def timerLevelsUptoRow : OpenClaim := { program := "ytbkjebepjcnklaa", sum := "9552edc855b375e29633cd2453fe0fc56c539f76bd8cf75021638c180e48ae86", func := "magneto/magnetolaw24.TimerLevels", spec := "timerLevels", unfollowed := true, recurses := true, apart := false, narrowed := true }
def TimerLevelsUptoSaid : Prop := timerLevelsUptoRow.holds Try.pinned (OpenSpec.upto timerLevelsSpec)

/-- 'magnetolaw24.TimerArms', WHERE WHAT IT READS IS OF BULK AT MOST 1048576: true; the input reads as it did. -/
def timerArmsUptoRow : OpenClaim := { program := "ytbkjebepjcnklaa", sum := "9552edc855b375e29633cd2453fe0fc56c539f76bd8cf75021638c180e48ae86", func := "magneto/magnetolaw24.TimerArms", spec := "timerArms", unfollowed := true, recurses := true, apart := false, narrowed := true }
def TimerArmsUptoSaid : Prop := timerArmsUptoRow.holds Try.pinned (OpenSpec.upto timerArmsSpec)

/-- 'magnetolaw24.TimerForces', WHERE WHAT IT READS IS OF BULK AT MOST 1048576: true; the input reads as it did. -/
def timerForcesUptoRow : OpenClaim := { program := "ytbkjebepjcnklaa", sum := "9552edc855b375e29633cd2453fe0fc56c539f76bd8cf75021638c180e48ae86", func := "magneto/magnetolaw24.TimerForces", spec := "timerForces", unfollowed := true, recurses := true, apart := false, narrowed := true }
def TimerForcesUptoSaid : Prop := timerForcesUptoRow.holds Try.pinned (OpenSpec.upto timerForcesSpec)

/-- 'magnetolaw24.TimerAdvances', WHERE WHAT IT READS IS OF BULK AT MOST 1048576: true; the input reads as it did. -/
def timerAdvancesUptoRow : OpenClaim := { program := "ytbkjebepjcnklaa", sum := "9552edc855b375e29633cd2453fe0fc56c539f76bd8cf75021638c180e48ae86", func := "magneto/magnetolaw24.TimerAdvances", spec := "timerAdvances", unfollowed := true, recurses := true, apart := false, narrowed := true }
def TimerAdvancesUptoSaid : Prop := timerAdvancesUptoRow.holds Try.pinned (OpenSpec.upto timerAdvancesSpec)

/-- 'magnetolaw24.TimerScripts', WHERE WHAT IT READS IS OF BULK AT MOST 1048576: true; the input reads as it did. -/
def timerScriptsUptoRow : OpenClaim := { program := "ytbkjebepjcnklaa", sum := "9552edc855b375e29633cd2453fe0fc56c539f76bd8cf75021638c180e48ae86", func := "magneto/magnetolaw24.TimerScripts", spec := "timerScripts", unfollowed := true, recurses := true, apart := false, narrowed := true }
def TimerScriptsUptoSaid : Prop := timerScriptsUptoRow.holds Try.pinned (OpenSpec.upto timerScriptsSpec)

/-- 'magnetolaw24.TimerQuiet', WHERE WHAT IT READS IS OF BULK AT MOST 1048576: true; the input reads as it did. -/
def timerQuietUptoRow : OpenClaim := { program := "ytbkjebepjcnklaa", sum := "9552edc855b375e29633cd2453fe0fc56c539f76bd8cf75021638c180e48ae86", func := "magneto/magnetolaw24.TimerQuiet", spec := "timerQuiet", unfollowed := true, recurses := true, apart := false, narrowed := true }
def TimerQuietUptoSaid : Prop := timerQuietUptoRow.holds Try.pinned (OpenSpec.upto timerQuietSpec)

/-- 'magnetolaw24.TimerSplits', WHERE WHAT IT READS IS OF BULK AT MOST 1048576: true; the input reads as it did. -/
def timerSplitsUptoRow : OpenClaim := { program := "ytbkjebepjcnklaa", sum := "9552edc855b375e29633cd2453fe0fc56c539f76bd8cf75021638c180e48ae86", func := "magneto/magnetolaw24.TimerSplits", spec := "timerSplits", unfollowed := true, recurses := true, apart := false, narrowed := true }
def TimerSplitsUptoSaid : Prop := timerSplitsUptoRow.holds Try.pinned (OpenSpec.upto timerSplitsSpec)

end Rows
end Go.Proofs.Ytbkjebepjcnklaa

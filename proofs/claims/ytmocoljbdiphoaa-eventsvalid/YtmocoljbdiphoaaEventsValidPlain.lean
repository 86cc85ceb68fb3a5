/- The plain law of EventsValid. -/
import Derived.Test.YtmocoljbdiphoaaRef
set_option linter.unusedSimpArgs false
namespace Go.Pv
open Go
theorem plain_EventsValid (x0 : SEngine) (x1 : SFire) (_ : wf_SEngine x0) (_ : wf_SFire x1) : magnetolaw23_EventsValid x0 x1 = some true := by
  unfold magnetolaw23_EventsValid
  rw [awake23]
  simp only [Option.bind_some, Bool.not_true, cond_false]
  rw [rvalid_eq, valid_eq, fire_eq, pulses_eq, rpulses_eq]
  simp only [Option.bind_some, beq_self_eq_true, cond_true]
  cases hd : decide (engP x0)
  · rfl
  · simp only [cond_true, Bool.true_and]
    rw [rfire_eq _ _ (of_decide_eq_true hd)]
    simp only [Option.bind_some, beq_self_eq_true, cond_true]
end Go.Pv

/- The plain law of MonitorMeasures. -/
import Derived.Test.YtllofihbdbdaeaaMonitorPermitsPlain
set_option linter.unusedSimpArgs false
namespace Go.Pv
open Go

def injG (n : Int) (x : SFire) : Int := bif (x.Inject != 0) then w64 (n + 1) else n

theorem act1 (l : List SFire) (hl : l.length ≤ 20) (s : Int) : rangeM l monitor_Actual_b1 s = some (.inl (l.foldl injG s)) := by
  rw [rangeM_steps _ (by omega)]
  refine stepsL_fold l 0 s fun i s y _ => ?_
  unfold monitor_Actual_b1 injG
  cases (y.Inject != 0) <;> rfl

theorem act2 (l : List SFire) (hl : l.length ≤ 20) (s : Int) : loopM (magnetoref39_Actual_b1 l) (s, 0) = some (.inl (l.foldl injG s, (l.length : Int))) := by
  have k := loopM_fold (mb := magnetoref39_Actual_b1 l) (fun i s => (s, (i : Int))) (g := injG) (out := fun s => .inl (s, (l.length : Int))) l s (fun s => by simp [magnetoref39_Actual_b1]) (fun j s y hy => by
    have hj := (List.getElem?_eq_some_iff.1 hy).1
    unfold magnetoref39_Actual_b1 injG
    have e : decide ((j : Int) < (l.length : Int)) = true := by simp; omega
    simp only [e, getI_nat, hy, Option.bind_some, cond_true, w64_succ j (by omega)]
    cases (y.Inject != 0) <;> rfl)
  exact k

theorem plain_MonitorMeasures (x0 : STables) (x1 : Int) (x2 : Int) (x3 : List SFire) (_ : wf_STables x0) (_ : (fun n => (Lit.int .i64 n).wf = true) x1) (_ : (fun n => (Lit.int .i64 n).wf = true) x2) (_ : (wfL wf_SFire) x3) : magnetolaw39_MonitorMeasures x0 x1 x2 x3 = some true := by
  unfold magnetolaw39_MonitorMeasures
  rw [awake_true]
  simp only [Option.bind_some, Bool.not_true, cond_false]
  cases h20 : decide ((x3.length : Int) > 20)
  · have hl : x3.length ≤ 20 := by simp at h20; omega
    unfold monitor_Actual magnetoref39_Map
    rw [valid_eq, refValid_eq]
    simp only [Option.bind_some, cond_false]
    cases hm : mapB x0.Torque
    · rfl
    · simp only [Bool.not_true, cond_false]
      cases h8 : decide ((x3.length : Int) > 8)
      · simp only [cond_false]
        unfold monitor_within magnetoref39_In
        simp only [Option.bind_some, bif_some]
        generalize (bif !(decide (x1 ≥ 0) && decide (x1 ≤ 12000)) then true else !(decide (x2 ≥ 0) && decide (x2 ≤ 1048576))) = out
        cases out
        · simp only [cond_false]
          unfold magnetoref39_Actual
          cases h0 : ((x3.length : Int) == 0)
          · simp only [cond_false]
            obtain ⟨c, c1, c2⟩ := corner_eq x0.Torque x1 x2 hm
            rw [act1 x3 hl, act2 x3 hl]
            simp only [Option.bind_some, c1, c2, limit_eq c 0 10000 (by decide)]
            have hne : ¬ (x3.length : Int) = 0 := by simpa using h0
            simp only [quoM, if_neg hne, Option.bind_some]
            simp
          · rfl
        · rfl
      · rfl
  · rfl
end Go.Pv

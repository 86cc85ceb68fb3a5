/- The plain law of MonitorSteps. -/
import Derived.Test.YtllofihbdbdaeaaAwake
namespace Go.Pv
open Go

def guardV (g : SGuard) : Prop := (0 ≤ g.Over ∧ g.Over ≤ 5) ∧ (0 ≤ g.Calm ∧ g.Calm ≤ 1000) ∧ (g.Over = 0 ∨ g.Calm = 0) ∧ (g.Off = true ∨ g.Over < 5)
instance (g : SGuard) : Decidable (guardV g) := by unfold guardV; infer_instance

def guardB (g : SGuard) : Bool := (((decide (g.Over ≥ 0) && decide (g.Over ≤ 5)) && (decide (g.Calm ≥ 0) && decide (g.Calm ≤ 1000))) && ((g.Over == 0) || (g.Calm == 0))) && (g.Off || decide (g.Over < 5))

theorem guardB_eq (g : SGuard) : guardB g = decide (guardV g) := by
  rw [Bool.eq_iff_iff]; simp [guardB, guardV, and_assoc]

theorem guard_mon (g : SGuard) : monitor_Valid g = some (decide (guardV g)) := by
  rw [← guardB_eq]
  unfold monitor_Valid monitor_within guardB
  generalize decide (g.Over ≥ 0) = a, decide (g.Over ≤ 5) = b, decide (g.Calm ≥ 0) = c, decide (g.Calm ≤ 1000) = d, (g.Over == 0) = e, (g.Calm == 0) = f, g.Off = h, decide (g.Over < 5) = i
  cases a <;> cases b <;> cases c <;> cases d <;> cases e <;> cases f <;> cases h <;> cases i <;> rfl

theorem guard_ref (g : SGuard) : magnetoref39_Valid g = some (decide (guardV g)) := by
  rw [← guardB_eq]
  unfold magnetoref39_Valid magnetoref39_In guardB
  generalize decide (g.Over ≥ 0) = a, decide (g.Over ≤ 5) = b, decide (g.Calm ≥ 0) = c, decide (g.Calm ≤ 1000) = d, (g.Over == 0) = e, (g.Calm == 0) = f, g.Off = h, decide (g.Over < 5) = i
  cases a <;> cases b <;> cases c <;> cases d <;> cases e <;> cases f <;> cases h <;> cases i <;> rfl

def torqueV (n : Int) : Prop := -20000 ≤ n ∧ n ≤ 20000
instance (n : Int) : Decidable (torqueV n) := by unfold torqueV; infer_instance

theorem torque_mon (n : Int) : monitor_Step_1 n = some (decide (torqueV n)) := by
  simp only [monitor_Step_1, monitor_within, torqueV, Option.bind_some, Option.some.injEq]; rw [Bool.eq_iff_iff]; simp only [Bool.and_eq_true, decide_eq_true_eq, ge_iff_le]; exact decide_eq_true_iff.symm
theorem torque_ref (n : Int) : magnetoref39_Torque n = some (decide (torqueV n)) := by
  simp only [magnetoref39_Torque, magnetoref39_In, torqueV, Option.bind_some, Option.some.injEq]; rw [Bool.eq_iff_iff]; simp only [Bool.and_eq_true, decide_eq_true_eq, ge_iff_le]; exact decide_eq_true_iff.symm

theorem plain_MonitorSteps (x0 : SGuard) (x1 : Int) (x2 : Int) (_ : wf_SGuard x0) (_ : (fun n => (Lit.int .i64 n).wf = true) x1) (_ : (fun n => (Lit.int .i64 n).wf = true) x2) : magnetolaw39_MonitorSteps x0 x1 x2 = some true := by
  by_cases hv : guardV x0
  · by_cases h1 : torqueV x1
    · by_cases h2 : torqueV x2
      · obtain ⟨ov, ca, off⟩ := x0
        have hv0 := hv
        obtain ⟨⟨a1, a2⟩, ⟨a3, a4⟩, a5, a6⟩ := hv
        simp only at a1 a2 a3 a4 a5 a6
        have e1 : w64 (ov + 1) = ov + 1 := w64_of (by omega) (by omega)
        have e2 : w64 (ca + 1) = ca + 1 := w64_of (by omega) (by omega)
        by_cases hgt : x2 > x1
        · by_cases h5 : ov + 1 > 5
          · have hm : minI 5 (ov + 1) = 5 := by unfold minI; omega
            have hg : guardV ⟨5, 0, true⟩ := by decide
            simp [magnetolaw39_MonitorSteps, awake_true, monitor_Step, magnetoref39_Step, guard_mon, guard_ref, torque_mon, torque_ref, hv0, h1, h2, hgt, e1, hm, h5, hg]
          · have hm : minI 5 (ov + 1) = ov + 1 := by unfold minI; split <;> omega
            have hg : guardV ⟨ov + 1, 0, off || (ov + 1 == 5)⟩ := by
              refine ⟨⟨by simp only; omega, by simp only; omega⟩, ⟨by simp, by simp⟩, .inr rfl, ?_⟩
              by_cases h : ov + 1 = 5
              · left; simp [h]
              · right; simp only; omega
            simp [magnetolaw39_MonitorSteps, awake_true, monitor_Step, magnetoref39_Step, guard_mon, guard_ref, torque_mon, torque_ref, hv0, h1, h2, hgt, e1, hm, h5, hg]
        · by_cases h5 : ca + 1 > 1000
          · have hm : minI 1000 (ca + 1) = 1000 := by unfold minI; omega
            have hg : guardV ⟨0, 1000, off⟩ := ⟨⟨by simp, by simp⟩, ⟨by simp, by simp⟩, .inl rfl, .inr (by simp)⟩
            simp [magnetolaw39_MonitorSteps, awake_true, monitor_Step, magnetoref39_Step, guard_mon, guard_ref, torque_mon, torque_ref, hv0, h1, h2, hgt, e2, hm, h5, hg]
          · have hm : minI 1000 (ca + 1) = ca + 1 := by unfold minI; split <;> omega
            have hg : guardV ⟨0, ca + 1, off⟩ := ⟨⟨by simp, by simp⟩, ⟨by simp only; omega, by simp only; omega⟩, .inl rfl, .inr (by simp)⟩
            simp [magnetolaw39_MonitorSteps, awake_true, monitor_Step, magnetoref39_Step, guard_mon, guard_ref, torque_mon, torque_ref, hv0, h1, h2, hgt, e2, hm, h5, hg]
      · simp [magnetolaw39_MonitorSteps, awake_true, monitor_Step, guard_mon, guard_ref, torque_mon, torque_ref, hv, h1, h2]
    · simp [magnetolaw39_MonitorSteps, awake_true, monitor_Step, guard_mon, guard_ref, torque_mon, torque_ref, hv, h1]
  · simp [magnetolaw39_MonitorSteps, awake_true, monitor_Step, guard_mon, guard_ref, hv]
end Go.Pv

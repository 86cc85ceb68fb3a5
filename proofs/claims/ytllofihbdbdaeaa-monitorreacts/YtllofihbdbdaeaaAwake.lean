/- The probe answers true: the models at its data. -/
import Derived.Test.YtllofihbdbdaeaaWf
set_option linter.unusedSimpArgs false
namespace Go.Pv
open Go

def probeMap : SMap := ⟨[0, 1000], [0, 500], [[0, 1000], [0, 1000]]⟩

theorem w64_one : w64 1 = 1 := by decide
theorem w64_zero : w64 0 = 0 := by decide
theorem w64_neg1 : w64 (-1) = -1 := by decide

theorem rangeN_0 {S R : Type} (f : Int → S → Option (Fl S R)) (s : S) : rangeN 0 f s = stepsN f 0 0 s := rangeN_steps 0 (by decide) f s
theorem rangeN_1 {S R : Type} (f : Int → S → Option (Fl S R)) (s : S) : rangeN 1 f s = stepsN f 1 0 s := rangeN_steps 1 (by decide) f s
theorem rangeN_2 {S R : Type} (f : Int → S → Option (Fl S R)) (s : S) : rangeN 2 f s = stepsN f 2 0 s := rangeN_steps 2 (by decide) f s

theorem probe_axis (a b : Int) (ha : surface_element a = some true) (hb : surface_element b = some true) (h : a < b) : surface_axis [a, b] = some true := by
  have h' : ¬ b ≤ a := by omega
  simp [surface_axis, rangeN_0, rangeN_1, rangeN_2, stepsN, surface_axis_b1, getI, ha, hb, w64_zero, h']

theorem probe_contains (a b : Int) (ha : surface_element a = some true) (hb : surface_element b = some true) : slices_ContainsFunc_sint [a, b] surface_Valid_1 = some false := by
  simp [slices_ContainsFunc_sint, slices_IndexFunc_sint, rangeN_0, rangeN_1, rangeN_2, stepsN, slices_IndexFunc_sint_b1, getI, surface_Valid_1, ha, hb]

theorem probe_valid : surface_Valid probeMap = some true := by
  have h1 : surface_element 0 = some true := by simp [surface_element]
  have h2 : surface_element 1000 = some true := by simp [surface_element]
  have h3 : surface_element 500 = some true := by simp [surface_element]
  simp [surface_Valid, probeMap, probe_axis _ _ h1 h2 (by decide), probe_axis _ _ h1 h3 (by decide), rangeM_steps, stepsL, surface_Valid_b1, probe_contains _ _ h1 h2]

theorem probe_around (b x : Int) (h0 : 0 ≤ x) (hx : x < b) : monitor_around [0, b] x = some (0, if x = 0 then 0 else 1) := by
  have hb' : ¬ b ≤ x := by omega
  have hb2 : x ≤ b := by omega
  have hx0 : ¬ x < 0 := by omega
  have e0 : rangeN (([0, b] : List Int).length : Int) (monitor_around_b1 [0, b] x) 0 = some (.inl 0) := by
    simp [rangeN_0, rangeN_1, rangeN_2, stepsN, monitor_around_b1, getI, h0, hb']
  have e1 : w64 ((([0, b] : List Int).length : Int) - 1) = 1 := by simp [w64_one]
  have e2 : loopM (monitor_around_b2 [0, b] x) (1, 1) = some (.inl (-1, if x = 0 then 0 else 1)) := by
    rw [loopM_eq]
    have : monitor_around_b2 [0, b] x (1, 1) = some (.inl (0, 1)) := by simp [monitor_around_b2, getI, hb2, w64_zero]
    simp only [this, Option.bind_some]
    rw [loopM_eq]
    have : monitor_around_b2 [0, b] x (0, 1) = some (.inl (-1, if x = 0 then 0 else 1)) := by
      by_cases hz : x = 0
      · simp [monitor_around_b2, getI, hz, w64_neg1]
      · have : ¬ x ≤ 0 := by omega
        simp [monitor_around_b2, getI, hz, w64_neg1, this]
    simp only [this, Option.bind_some]
    rw [loopM_eq]
    simp [monitor_around_b2]
  unfold monitor_around
  rw [e0, e1]
  simp only [Option.bind_some]
  rw [e2]
  simp [getI, hx0]

theorem probe_corner : monitor_corner probeMap 700 100 = some 1000 := by
  simp [monitor_corner, probeMap, probe_around, getI, maxI]

theorem probe_none : monitor_Permitted ⟨⟨[], [], []⟩, ⟨[], [], []⟩, ⟨[], [], []⟩, probeMap, ⟨[], []⟩, ⟨[], []⟩, ⟨[], []⟩, ⟨[], []⟩, ⟨0, 0, 0, 0⟩⟩ 100 700 [] = some (1100, 0) := by
  simp [monitor_Permitted, probe_valid, slices_ContainsFunc_sRequest, slices_IndexFunc_sRequest, rangeN_0, rangeN_1, rangeN_2, stepsN, monitor_within, probe_corner, rangeM_steps, stepsL, maxI, minI]
  decide

theorem probe_one : monitor_Permitted ⟨⟨[], [], []⟩, ⟨[], [], []⟩, ⟨[], [], []⟩, probeMap, ⟨[], []⟩, ⟨[], []⟩, ⟨[], []⟩, ⟨[], []⟩, ⟨0, 0, 0, 0⟩⟩ 100 700 [⟨3, 1, 400, 0⟩] = some (500, 0) := by
  simp [monitor_Permitted, probe_valid, slices_ContainsFunc_sRequest, slices_IndexFunc_sRequest, slices_IndexFunc_sRequest_b1, monitor_Permitted_1, arbiter_Valid, arbiter_torque, getI, rangeN_0, rangeN_1, rangeN_2, stepsN, monitor_within, probe_corner, rangeM_steps, stepsL, monitor_Permitted_b1, monitor_Permitted_b2, monitor_raises, maxI, minI]
  decide

theorem awake_true : magnetolaw39_awake = some true := by
  have h1 := probe_none
  have h2 := probe_one
  unfold probeMap at h1 h2
  simp [magnetolaw39_awake, magnetolaw39_tables, h1, h2, monitor_Steps]
end Go.Pv

/- The plain law of MonitorReacts. -/
import Derived.Test.YtllofihbdbdaeaaMonitorStepsPlain
set_option linter.unusedSimpArgs false
namespace Go.Pv
open Go

def torP (p : Int × Int) : Bool := decide (torqueV p.1) && decide (torqueV p.2)

def stepG (g : SGuard) (p : Int × Int) : SGuard :=
  if p.2 > p.1 then ⟨minI 5 (g.Over + 1), 0, g.Off || (minI 5 (g.Over + 1) == 5)⟩ else ⟨0, minI 1000 (g.Calm + 1), g.Off⟩

theorem stepG_ok (g : SGuard) (p : Int × Int) (h : guardV g) : guardV (stepG g p) := by
  obtain ⟨⟨a1, a2⟩, ⟨a3, a4⟩, a5, a6⟩ := h
  unfold stepG
  split
  · refine ⟨⟨?_, ?_⟩, ⟨by simp, by simp⟩, .inr rfl, ?_⟩
    · simp only; unfold minI; split <;> omega
    · simp only; unfold minI; split <;> omega
    · simp only
      by_cases h : minI 5 (g.Over + 1) = 5
      · left; simp [h]
      · right; unfold minI at h ⊢; split at h <;> split <;> omega
  · refine ⟨⟨by simp, by simp⟩, ⟨?_, ?_⟩, .inl rfl, .inr (by simp)⟩
    · simp only; unfold minI; split <;> omega
    · simp only; unfold minI; split <;> omega

theorem step_mon (g : SGuard) (p : Int × Int) (h : guardV g) : monitor_Step g p.1 p.2 = some (bif torP p then (stepG g p, 0) else (⟨0, 0, false⟩, 2)) := by
  have h0 := h
  obtain ⟨⟨a1, a2⟩, ⟨a3, a4⟩, a5, a6⟩ := h
  have e1 : w64 (g.Over + 1) = g.Over + 1 := w64_of (by omega) (by omega)
  have e2 : w64 (g.Calm + 1) = g.Calm + 1 := w64_of (by omega) (by omega)
  unfold monitor_Step torP stepG
  rw [guard_mon, torque_mon, torque_mon, e1, e2]
  simp only [h0, decide_true, Bool.not_true, cond_false, Option.bind_some]
  by_cases h1 : torqueV p.1 <;> by_cases h2 : torqueV p.2 <;> by_cases h3 : p.2 > p.1 <;> simp [h1, h2, h3]

def outsG : SGuard → List (Int × Int) → List Bool
  | _, [] => []
  | g, p :: l => (stepG g p).Off :: outsG (stepG g p) l

theorem outsG_get : ∀ (l : List (Int × Int)) (g : SGuard) (i : Nat), i < l.length → (outsG g l)[i]? = some ((l.take (i + 1)).foldl stepG g).Off
  | [], g, i, h => by simp at h
  | p :: l, g, 0, _ => by simp [outsG]
  | p :: l, g, i + 1, h => by
    have := outsG_get l (stepG g p) i (by simpa using h)
    simpa [outsG] using this

theorem outsG_len : ∀ (l : List (Int × Int)) (g : SGuard), (outsG g l).length = l.length
  | [], _ => rfl
  | p :: l, g => by simp [outsG, outsG_len l]

theorem run_steps : ∀ (l : List (Int × Int)) (i : Int) (out : List Bool) (g : SGuard), guardV g → out.length + l.length ≤ 200 →
    stepsL monitor_Run_b1 l i (out, g) = some (bif l.all torP then .inl (out ++ outsG g l, l.foldl stepG g) else .inr ([], 2))
  | [], i, out, g, _, _ => by simp [stepsL, outsG]
  | p :: l, i, out, g, h, hl => by
    simp only [List.length_cons] at hl
    unfold stepsL monitor_Run_b1
    rw [step_mon g p h]
    cases hp : torP p
    · simp [hp]
    · have ha : appendM out [(stepG g p).Off] = some (out ++ [(stepG g p).Off]) := by unfold appendM; simp; omega
      have ih := run_steps l (i + 1) (out ++ [(stepG g p).Off]) (stepG g p) (stepG_ok g p h) (by simp; omega)
      simp only [cond_true, Option.bind_some, ha, List.all_cons, hp, Bool.true_and]
      simp only [bne_self_eq_false, cond_false, Option.bind_some]
      unfold monitor_Run_b1 at ih
      rw [ih]
      simp [outsG]

theorem gstart : guardV ⟨0, 0, false⟩ := by decide

theorem row_steps (l : List (Int × Int)) (hl : l.length ≤ 200) (hq : l.all torP = true) : ∀ (k i : Nat) (row : Int), i + k = l.length → 0 ≤ row → row ≤ i → ((l.take i).foldl stepG ⟨0, 0, false⟩).Over = minI 5 row → guardV ((l.take i).foldl stepG ⟨0, 0, false⟩) →
    ∃ s, stepsN (magnetolaw39_MonitorReacts_b1 l (outsG ⟨0, 0, false⟩ l, 0)) k (i : Int) (row, ((l.take i).foldl stepG ⟨0, 0, false⟩).Off, (l.take i).foldl stepG ⟨0, 0, false⟩) = some (.inl s)
  | 0, i, row, _, _, _, _, _ => ⟨_, rfl⟩
  | k + 1, i, row, hk, h0, hi, ho, hv => by
    have hlt : i < l.length := by omega
    have hg : getI l (i : Int) = some l[i] := by rw [getI_nat, List.getElem?_eq_getElem hlt]
    have hog : getI (outsG ⟨0, 0, false⟩ l) (i : Int) = some ((l.take (i + 1)).foldl stepG ⟨0, 0, false⟩).Off := by rw [getI_nat]; exact outsG_get l _ i hlt
    have htk : (l.take (i + 1)).foldl stepG ⟨0, 0, false⟩ = stepG ((l.take i).foldl stepG ⟨0, 0, false⟩) l[i] := by
      rw [List.take_succ_eq_append_getElem hlt, List.foldl_append]; rfl
    have hp : torP l[i] = true := List.all_eq_true.1 hq _ (List.getElem_mem hlt)
    have hv' := stepG_ok _ l[i] hv
    generalize hx : l[i] = x at *
    rw [htk] at hog
    obtain ⟨s, hs⟩ := row_steps l hl hq k (i + 1) (if x.2 ≤ x.1 then 0 else row + 1) (by omega) (by split <;> omega) (by split <;> omega) (by
      rw [htk]
      generalize (l.take i).foldl stepG ⟨0, 0, false⟩ = g at *
      unfold stepG
      by_cases h3 : x.2 > x.1
      · rw [if_pos h3, if_neg (by omega)]
        simp only [ho]
        unfold minI
        repeat' split
        all_goals omega
      · rw [if_neg h3, if_pos (by omega)]
        rfl) (by rw [htk]; exact hv')
    refine ⟨s, ?_⟩
    rw [htk] at hs
    generalize (l.take i).foldl stepG ⟨0, 0, false⟩ = g at *
    have e1 : w64 (row + 1) = row + 1 := w64_of (by omega) (by omega)
    have hoff : (g.Off || decide ((if x.2 ≤ x.1 then 0 else row + 1) ≥ 5)) = (stepG g x).Off := by
      unfold stepG
      by_cases h3 : x.2 > x.1
      · rw [if_pos h3, if_neg (by omega)]
        simp only
        rw [ho]
        congr 1
        rw [Bool.eq_iff_iff]
        simp only [decide_eq_true_eq, beq_iff_eq]
        unfold minI
        repeat' split
        all_goals omega
      · rw [if_neg h3, if_pos (by omega)]
        simp
    have hrow : (bif decide (x.2 ≤ x.1) then some (0 : Int) else some (w64 (row + 1))) = some (if x.2 ≤ x.1 then 0 else row + 1) := by
      rw [e1]; by_cases h3 : x.2 ≤ x.1 <;> simp [h3]
    have hor : ∀ z : Int, (bif g.Off then some true else (Option.bind (some (5 : Int)) fun v3 => some (decide (z ≥ v3)))) = some (g.Off || decide (z ≥ 5)) := fun z => by cases g.Off <;> rfl
    simp only [stepsN, magnetolaw39_MonitorReacts_b1, hg, Option.bind_some, monitor_Steps, hrow]
    rw [step_mon g x hv, hp]
    simp only [cond_true, Option.bind_some]
    have hor' := hor (if x.2 ≤ x.1 then 0 else row + 1)
    simp only [Option.bind_some] at hor'
    rw [hor', hoff]
    simp only [Option.bind_some, hog, bne_self_eq_false, beq_self_eq_true, Bool.not_true, Bool.or_false, cond_false]
    exact hs

theorem plain_MonitorReacts (x0 : List (Int × Int)) (_ : (wfL wf_arr2_Int) x0) : magnetolaw39_MonitorReacts x0 = some true := by
  unfold magnetolaw39_MonitorReacts
  rw [awake_true]
  simp only [Option.bind_some, Bool.not_true, cond_false]
  cases h200 : decide ((x0.length : Int) > 200)
  · have hl : x0.length ≤ 200 := by simp at h200; omega
    simp only [cond_false]
    have hrun : monitor_Run x0 = some (bif x0.all torP then (outsG ⟨0, 0, false⟩ x0, 0) else ([], 2)) := by
      unfold monitor_Run
      have h1000 : decide ((x0.length : Int) > 1000) = false := by simp; omega
      rw [h1000, rangeM_steps _ (by omega), run_steps x0 0 [] _ gstart (by simpa using hl)]
      cases x0.all torP <;> rfl
    have hc : slices_ContainsFunc_s_2_int x0 magnetolaw39_MonitorReacts_1 = some (!x0.all torP) := by
      have k := index_any x0 (by omega) magnetolaw39_MonitorReacts_1 (fun p => !torP p) (fun y _ => by
        unfold magnetolaw39_MonitorReacts_1 torP
        rw [torque_ref, torque_ref]
        by_cases h1 : torqueV y.1 <;> by_cases h2 : torqueV y.2 <;> simp [h1, h2])
      have e2 : (x0.any fun z => !torP z) = !x0.all torP := by rw [List.any_eq_not_all_not]; simp
      rw [e2] at k
      exact k
    rw [hrun, hc]
    cases hq : x0.all torP
    · rfl
    · simp only [cond_true, Option.bind_some, Bool.not_true, cond_false]
      rw [outsG_len]
      simp only [bne_self_eq_false, Bool.or_false, cond_false]
      obtain ⟨s, hs⟩ := row_steps x0 hl hq x0.length 0 0 (by omega) (by omega) (by omega) rfl gstart
      rw [rangeN_steps _ (by omega)]
      simp only [List.take_zero, List.foldl_nil] at hs
      rw [show ((0 : Nat) : Int) = 0 from rfl] at hs
      rw [hs]
      rfl
  · rfl
end Go.Pv

/- The plain law of MonitorCut. -/
import Derived.Test.YtllofihbdbdaeaaMonitorMeasuresPlain
set_option linter.unusedSimpArgs false
namespace Go.Pv
open Go

def isInj (x : SFire) : Bool := x.Inject != 0

theorem inj_count : ∀ (l : List SFire) (s : Nat), s + l.length ≤ 100 → l.foldl injG (s : Int) = ((s + l.countP isInj : Nat) : Int)
  | [], s, _ => by simp
  | y :: l, s, h => by
    simp only [List.length_cons] at h
    by_cases hy : isInj y = true
    · have e : injG (s : Int) y = ((s + 1 : Nat) : Int) := by
        unfold injG; unfold isInj at hy; rw [hy]; simp only [cond_true]; rw [w64_of (by omega) (by omega)]; simp
      rw [List.foldl_cons, e, inj_count l (s + 1) (by omega), List.countP_cons_of_pos hy]
      congr 1; omega
    · have hy' : isInj y = false := by simpa using hy
      have e : injG (s : Int) y = (s : Int) := by unfold injG; unfold isInj at hy'; rw [hy']; rfl
      rw [List.foldl_cons, e, inj_count l s (by omega), List.countP_cons_of_neg hy]

def actualT (V n len : Int) : Int := (V * n + len - 1).tdiv len

theorem actual_ok (t : STables) (x1 x2 : Int) (hm : mapB t.Torque = true) (ho : (bif !(decide (x1 ≥ 0) && decide (x1 ≤ 12000)) then true else !(decide (x2 ≥ 0) && decide (x2 ≤ 1048576))) = false) :
    ∃ V : Int, 0 ≤ V ∧ V ≤ 10000 ∧ ∀ l : List SFire, 1 ≤ l.length → l.length ≤ 8 → monitor_Actual t x1 x2 l = some (actualT V (l.countP isInj : Nat) (l.length : Nat), 0) := by
  obtain ⟨c, c1, c2⟩ := corner_eq t.Torque x1 x2 hm
  have h1 : 0 ≤ minI (maxI c 0) 10000 := by unfold maxI minI; repeat' split <;> omega
  have h2 : minI (maxI c 0) 10000 ≤ 10000 := by unfold minI; split <;> omega
  refine ⟨minI (maxI c 0) 10000, h1, h2, fun l hl hl2 => ?_⟩
  unfold monitor_Actual
  rw [valid_eq, hm]
  have h8 : decide ((l.length : Int) > 8) = false := by simp; omega
  have h0 : ((l.length : Int) == 0) = false := by
    have : ¬ (l.length : Int) = 0 := by omega
    simpa using this
  have hn := inj_count l 0 (by omega)
  simp only [Option.bind_some, Bool.not_true, cond_false, h8]
  unfold monitor_within
  simp only [Option.bind_some, bif_some]
  rw [ho]
  simp only [cond_false, h0]
  rw [act1 l (by omega), show (0 : Int) = ((0 : Nat) : Int) from rfl, hn]
  simp only [Option.bind_some, c1]
  rw [show ((0 : Nat) : Int) = 0 from rfl, Nat.zero_add]
  have hcl : l.countP isInj ≤ l.length := List.countP_le_length
  generalize minI (maxI c 0) 10000 = V at h1 h2 ⊢
  generalize l.countP isInj = n at hcl ⊢
  have hV1 : 0 ≤ V * (n : Int) := Int.mul_nonneg h1 (by omega)
  have hV2 : V * (n : Int) ≤ 10000 * 8 := by
    have := Int.mul_le_mul h2 (show (n : Int) ≤ 8 by omega) (by omega) (by omega)
    exact this
  have hne : ¬ (l.length : Int) = 0 := by omega
  unfold actualT
  generalize V * (n : Int) = p at hV1 hV2 ⊢
  rw [w64_of (n := p) (by omega) (by omega), w64_of (n := p + (l.length : Int)) (by omega) (by omega), w64_of (n := p + (l.length : Int) - 1) (by omega) (by omega)]
  simp only [quoM, if_neg hne, Option.bind_some]
  have hq1 : 0 ≤ (p + (l.length : Int) - 1).tdiv (l.length : Int) := Int.tdiv_nonneg (by omega) (by omega)
  have hq2 : (p + (l.length : Int) - 1).tdiv (l.length : Int) ≤ p + (l.length : Int) - 1 := Int.tdiv_le_self _ (by omega)
  have := w64_of (n := (p + (l.length : Int) - 1).tdiv (l.length : Int)) (by omega) (by omega)
  unfold w64 at this
  rw [this]

theorem actual_bad (t : STables) (x1 x2 : Int) (h : (mapB t.Torque = true ∧ (bif !(decide (x1 ≥ 0) && decide (x1 ≤ 12000)) then true else !(decide (x2 ≥ 0) && decide (x2 ≤ 1048576))) = false) → False) :
    ∃ e : Int, (e != 0) = true ∧ ∀ l : List SFire, l.length ≤ 8 → monitor_Actual t x1 x2 l = some (0, e) := by
  refine ⟨bif mapB t.Torque then 2 else 1, by cases mapB t.Torque <;> rfl, fun l hl => ?_⟩
  unfold monitor_Actual
  rw [valid_eq]
  have h8 : decide ((l.length : Int) > 8) = false := by simp; omega
  cases hm : mapB t.Torque
  · rfl
  · simp only [Option.bind_some, Bool.not_true, cond_false, h8]
    unfold monitor_within
    simp only [Option.bind_some, bif_some]
    cases ho : (bif !(decide (x1 ≥ 0) && decide (x1 ≤ 12000)) then true else !(decide (x2 ≥ 0) && decide (x2 ≤ 1048576)))
    · exact (h ⟨hm, ho⟩).elim
    · rfl

theorem count_set : ∀ (l : List SFire) (i : Nat) (y : SFire), isInj y = false → (l.set i y).countP isInj ≤ l.countP isInj
  | [], i, y, _ => by simp
  | x :: l, 0, y, h => by simp [List.countP_cons, h]
  | x :: l, i + 1, y, h => by
    have := count_set l i y h
    simp only [List.set_cons_succ, List.countP_cons]
    omega

theorem none_steps : ∀ (k i : Nat) (f : List SFire), i + k = f.length → (∀ j r, j < i → f[j]? = some r → isInj r = false) →
    ∃ g, stepsN magnetolaw39_MonitorCut_b1 k (i : Int) f = some (.inl g) ∧ g.length = f.length ∧ ∀ r ∈ g, isInj r = false
  | 0, i, f, hk, h => ⟨f, rfl, rfl, fun r hr => by
      obtain ⟨j, hj, rfl⟩ := List.mem_iff_getElem.1 hr
      exact h j _ (by omega) (List.getElem?_eq_getElem hj)⟩
  | k + 1, i, f, hk, h => by
    have hi : i < f.length := by omega
    have hg : getI f (i : Int) = some f[i] := by rw [getI_nat, List.getElem?_eq_getElem hi]
    generalize hx : f[i] = x at hg
    have hs : setM f (i : Int) (⟨x.Cylinder, x.Spark, x.Dwell, x.End, 0, x.Gap, x.Extra⟩ : SFire) = some (f.set i ⟨x.Cylinder, x.Spark, x.Dwell, x.End, 0, x.Gap, x.Extra⟩) := by
      unfold setM; rw [if_pos ⟨by omega, by omega⟩]; rfl
    obtain ⟨g, h1, h2, h3⟩ := none_steps k (i + 1) (f.set i ⟨x.Cylinder, x.Spark, x.Dwell, x.End, 0, x.Gap, x.Extra⟩) (by simp; omega) (fun j r hj hr => by
      rw [List.getElem?_set] at hr
      by_cases e : i = j
      · subst e; rw [if_pos rfl, if_pos hi] at hr; cases hr; rfl
      · rw [if_neg e] at hr; exact h j r (by omega) hr)
    refine ⟨g, ?_, by simpa using h2, h3⟩
    simp only [stepsN, magnetolaw39_MonitorCut_b1, hg, Option.bind_some, hs]
    exact h1

theorem plain_MonitorCut (x0 : STables) (x1 : Int) (x2 : Int) (x3 : List SFire) (x4 : Int) (_ : wf_STables x0) (_ : (fun n => (Lit.int .i64 n).wf = true) x1) (_ : (fun n => (Lit.int .i64 n).wf = true) x2) (_ : (wfL wf_SFire) x3) (g4 : (fun n => (Lit.int .u8 n).wf = true) x4) : magnetolaw39_MonitorCut x0 x1 x2 x3 x4 = some true := by
  unfold magnetolaw39_MonitorCut
  rw [awake_true]
  simp only [Option.bind_some, Bool.not_true, cond_false]
  cases h0 : ((decide ((x3.length : Int) < 1)) || (decide ((x3.length : Int) > 8)))
  · simp only [cond_false]
    simp only [Bool.or_eq_false_iff, decide_eq_false_iff_not] at h0
    obtain ⟨hl1, hl8⟩ := h0
    have hk : 0 ≤ x4 ∧ x4 ≤ 255 := by
      have m0 : IntKind.u8.min = 0 := rfl
      have m1 : IntKind.u8.max = 255 := rfl
      simp [Lit.wf, m0, m1] at g4
      omega
    have ha : slices_Clone_sFire x3 = some x3 := by
      unfold slices_Clone_sFire appendM
      simp; omega
    have hne : ¬ (x3.length : Int) = 0 := by omega
    have hq1 : 0 ≤ x4.tmod (x3.length : Int) := Int.tmod_nonneg _ hk.1
    have hq2 : x4.tmod (x3.length : Int) < (x3.length : Int) := Int.tmod_lt_of_pos _ (by omega)
    rw [ha]
    simp only [Option.bind_some, w64_of (n := x4) (by omega) (by omega), remM, if_neg hne]
    generalize x4.tmod (x3.length : Int) = q at hq1 hq2 ⊢
    obtain ⟨j, rfl⟩ : ∃ j : Nat, q = (j : Int) := ⟨q.toNat, by omega⟩
    have hj : j < x3.length := by omega
    rw [getI_nat, List.getElem?_eq_getElem hj]
    generalize x3[j] = x
    have hs : setM x3 (j : Int) (⟨x.Cylinder, x.Spark, x.Dwell, x.End, 0, x.Gap, x.Extra⟩ : SFire) = some (x3.set j ⟨x.Cylinder, x.Spark, x.Dwell, x.End, 0, x.Gap, x.Extra⟩) := by
      unfold setM; rw [if_pos ⟨by omega, by omega⟩]; rfl
    obtain ⟨g, g1, g2, g3⟩ := none_steps x3.length 0 x3 (by omega) (fun j r h => by omega)
    simp only [Option.bind_some, hs]
    rw [rangeN_steps _ (by omega)]
    rw [show ((0 : Nat) : Int) = 0 from rfl] at g1
    rw [g1]
    simp only [Option.bind_some]
    have hcs := count_set x3 j ⟨x.Cylinder, x.Spark, x.Dwell, x.End, 0, x.Gap, x.Extra⟩ rfl
    have hcg : g.countP isInj = 0 := List.countP_eq_zero.2 fun r hr => by simp [g3 r hr]
    by_cases hgood : mapB x0.Torque = true ∧ (bif !(decide (x1 ≥ 0) && decide (x1 ≤ 12000)) then true else !(decide (x2 ≥ 0) && decide (x2 ≤ 1048576))) = false
    · obtain ⟨V, v1, v2, hV⟩ := actual_ok x0 x1 x2 hgood.1 hgood.2
      rw [hV x3 (by omega) (by omega), hV (x3.set j _) (by simp; omega) (by simp; omega), hV g (by omega) (by omega)]
      simp only [Option.bind_some, List.length_set, hcg, g2]
      have hcl : x3.countP isInj ≤ x3.length := List.countP_le_length
      generalize (x3.set j _).countP isInj = m at hcs ⊢
      generalize x3.countP isInj = n at hcs hcl ⊢
      have hm1 : V * (m : Int) ≤ V * (n : Int) := Int.mul_le_mul_of_nonneg_left (by omega) v1
      have hm0 : 0 ≤ V * (m : Int) := Int.mul_nonneg v1 (by omega)
      have hn1 : V * (n : Int) ≤ 10000 * (x3.length : Int) := Int.mul_le_mul v2 (by omega) (by omega) (by omega)
      have hn0 : 0 ≤ V * (n : Int) := Int.le_trans hm0 hm1
      have hpos : 0 < (x3.length : Int) := by omega
      unfold actualT
      rw [show V * ((0 : Nat) : Int) = 0 by simp]
      generalize V * (m : Int) = p at hm0 hm1 ⊢
      generalize V * (n : Int) = r at hm1 hn0 hn1 ⊢
      generalize (x3.length : Int) = len at hpos hn1 ⊢
      rw [Int.tdiv_eq_ediv_of_nonneg (by omega), Int.tdiv_eq_ediv_of_nonneg (by omega), Int.tdiv_eq_ediv_of_nonneg (by omega)]
      have e1 : (p + len - 1) / len ≤ (r + len - 1) / len := Int.ediv_le_ediv hpos (by omega)
      have e2 : (0 + len - 1) / len = 0 := Int.ediv_eq_zero_of_lt (by omega) (by omega)
      have e3 : (r + len - 1) / len ≤ 10000 := by
        have : (r + len - 1) / len < 10001 := (Int.ediv_lt_iff_lt_mul hpos).2 (by omega)
        omega
      rw [Int.zero_add] at e2 ⊢
      simp [e1, e2, e3]
    · obtain ⟨e, e1, he⟩ := actual_bad x0 x1 x2 hgood
      rw [he x3 (by omega), he (x3.set j _) (by simp; omega), he g (by omega)]
      simp [e1]
  · rfl
end Go.Pv

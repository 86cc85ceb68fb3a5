/- The plain law of ArbiterExplains. -/
import Derived.Test.YtoiamgpgodcioaaRef
set_option linter.unusedSimpArgs false
namespace Go.Pv
open Go
theorem compL_len (l : List Int) : (compL l).length ≤ l.length := by
  have key : ∀ (l : List Int) p, (compG p l).length ≤ l.length := by
    intro l
    induction l with
    | nil => intro p; exact Nat.le_refl _
    | cons y l ih =>
      intro p
      unfold compG
      have := ih y
      cases y == p
      · simp only [cond_false, List.length_cons]; omega
      · simp only [cond_true, List.length_cons]; omega
  cases l with
  | nil => exact Nat.le_refl _
  | cons x l => simp only [compL, List.length_cons]; have := key l x; omega
theorem plain_ArbiterExplains (x0 : List SRequest) (x1 : Int) (x2 : Int) (_ : (wfL wf_SRequest) x0) (_ : (fun n => (Lit.int .i64 n).wf = true) x1) (_ : (fun n => (Lit.int .i64 n).wf = true) x2) : magnetolaw36_ArbiterExplains x0 x1 x2 = some true := by
  unfold magnetolaw36_ArbiterExplains
  rw [awake36]
  simp only [Option.bind_some, Bool.not_true, Bool.false_or]
  cases h100 : decide ((x0.length : Int) > 100)
  · have hl : x0.length ≤ 100 := by have := of_decide_eq_false h100; omega
    simp only [cond_false]
    rw [Explain_eq _ _ _ (by omega)]
    simp only [Option.bind_some]
    rw [check_eq _ _ _ (by omega), Option.bind_some, chk_bool]
    by_cases h : chk x0 x1 x2 = 0
    · have hf := chk_zero.1 h
      obtain ⟨d, h1, h2, h3⟩ := interval_eq hf
      rw [decide_eq_true h, if_pos h, h1]
      simp only [Bool.not_true, cond_false, Option.bind_some]
      obtain ⟨s, k1, k2⟩ := rangeN_inv (R := Empty) x0.length (by omega) (magnetolaw36_ArbiterExplains_b1 x0 (rng (fin x0 x1 x2), (fin x0 x1 x2).source, d)) (fun i s => s = pck (x0.take i) (d.take i)) [] rfl (fun j hj s hs => by
        subst hs
        have hjd : j < d.length := by omega
        have hp := pck_len (x0.take j) (d.take j)
        rw [List.length_take] at hp
        unfold magnetolaw36_ArbiterExplains_b1
        rw [getI_get _ _ hj]
        simp only [Option.bind_some]
        rw [getI_get _ _ hjd]
        simp only [Option.bind_some]
        refine ⟨pck (x0.take (j + 1)) (d.take (j + 1)), ?_, rfl⟩
        rw [List.take_succ_eq_append_getElem hj, List.take_succ_eq_append_getElem hjd, pck_snoc _ _ _ _ (by rw [List.length_take, List.length_take]; omega)]
        cases d[j]
        · simp
        · simp only [cond_true]
          rw [appendM_ok _ _ (by simp only [List.length_singleton]; omega)]
          rfl)
      rw [k1]
      simp only [Option.bind_some]
      rw [List.take_length, show d.take x0.length = d by rw [← h2, List.take_length]] at k2
      subst k2
      have hp := pck_len x0 d
      unfold slices_Sort_sint slices_Compact_sint
      rw [sortIM_ok (by omega)]
      simp only [Option.bind_some]
      rw [compactM_ok (by rw [List.length_mergeSort]; omega)]
      simp only [Option.bind_some]
      rw [sortI_perm h3]
      have hc := compL_len ((dec (s0 x1 x2) (ordL x0)).mergeSort fun x y => decide (x ≤ y))
      rw [List.length_mergeSort, ← h3.length_eq] at hc
      rw [show srcs x0 x1 x2 = compL ((dec (s0 x1 x2) (ordL x0)).mergeSort fun x y => decide (x ≤ y)) from rfl, equalI_self _ (by omega)]
      rfl
    · rw [decide_eq_false h, if_neg h]
      simp
  · rfl
end Go.Pv

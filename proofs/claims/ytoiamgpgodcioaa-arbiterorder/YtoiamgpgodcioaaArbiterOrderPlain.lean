/- The plain law of ArbiterOrder. -/
import Derived.Test.YtoiamgpgodcioaaMore
set_option linter.unusedSimpArgs false
namespace Go.Pv
open Go

theorem ord_perm {a b : List SRequest} (hp : a.Perm b) (hd : a.Pairwise fun x y => x.Priority ≠ y.Priority) : ∀ k, ordK a k = ordK b k
  | 0 => rfl
  | k + 1 => by
    rw [ordK_succ, ordK_succ, ord_perm hp hd k]
    congr 1
    unfold lev
    have h1 := hp.filter fun r => r.Priority == 15 - (k : Int)
    have h2 := hd.filter fun r => r.Priority == 15 - (k : Int)
    have h3 : ∀ x ∈ a.filter (fun r => r.Priority == 15 - (k : Int)), x.Priority = 15 - (k : Int) := fun x hx => by
      have := (List.mem_filter.1 hx).2
      simpa using this
    generalize a.filter (fun r => r.Priority == 15 - (k : Int)) = u at h1 h2 h3
    generalize b.filter (fun r => r.Priority == 15 - (k : Int)) = v at h1
    match u, h1, h2, h3 with
    | [], h1, _, _ => exact (List.nil_perm.1 h1).symm
    | [x], h1, _, _ => exact (List.singleton_perm.1 h1)
    | x :: y :: u, h1, h2, h3 =>
      exfalso
      have := (List.pairwise_cons.1 h2).1 y (by simp)
      rw [h3 x (by simp), h3 y (by simp)] at this
      exact this rfl

theorem plain_ArbiterOrder (x0 : List SRequest) (x1 : Int) (x2 : Int) (x3 : Int) (_ : (wfL wf_SRequest) x0) (_ : (fun n => (Lit.int .i64 n).wf = true) x1) (_ : (fun n => (Lit.int .i64 n).wf = true) x2) (g3 : (fun n => (Lit.int .u8 n).wf = true) x3) : magnetolaw36_ArbiterOrder x0 x1 x2 x3 = some true := by
  unfold magnetolaw36_ArbiterOrder
  rw [awake36]
  simp only [Option.bind_some, Bool.not_true, Bool.false_or]
  have hw3 : 0 ≤ x3 ∧ x3 ≤ 255 := by
    have h : IntKind.u8.min ≤ x3 ∧ x3 ≤ IntKind.u8.max := by simpa [Lit.wf] using g3
    exact h
  cases h16 : (decide ((x0.length : Int) > 16) || ((x0.length : Int) == 0))
  · simp only [Bool.or_eq_false_iff, decide_eq_false_iff_not, beq_eq_false_iff_ne] at h16
    have hl : x0.length ≤ 16 ∧ 0 < x0.length := by omega
    simp only [cond_false]
    rw [check_eq _ _ _ (by omega)]
    simp only [Option.bind_some]
    rw [chk_bool]
    by_cases h : chk x0 x1 x2 = 0
    · have hf := chk_zero.1 h
      rw [decide_eq_true h]
      simp only [Bool.not_true, cond_false]
      unfold slices_Clone_sRequest
      rw [appendM_ok _ _ (by simp only [List.length_nil]; omega)]
      simp only [Option.bind_some, List.nil_append]
      obtain ⟨a, k1, ka, kb⟩ := rangeN_inv (R := Empty) x0.length (by omega) magnetolaw36_ArbiterOrder_b1 (fun i f => f.length = x0.length ∧ ∀ j (hj : j < x0.length), f[j]? = some (if j < i then ⟨x0[j].Source, x0[j].Kind, x0[j].Torque, 15 - (j : Int)⟩ else x0[j])) x0 ⟨rfl, fun j hj => by rw [if_neg (by omega), List.getElem?_eq_getElem hj]⟩ (fun i hi f hf2 => by
        have hg : f[i]? = some x0[i] := by rw [hf2.2 i hi, if_neg (by omega)]
        have hif : i < f.length := by rw [hf2.1]; exact hi
        unfold magnetolaw36_ArbiterOrder_b1
        rw [getI_nat, hg]
        simp only [Option.bind_some]
        rw [setM_nat _ _ _ hif]
        simp only [Option.bind_some]
        refine ⟨_, rfl, by rw [List.length_set]; exact hf2.1, fun j hj => ?_⟩
        rw [List.getElem?_set]
        by_cases e : i = j
        · subst e
          rw [if_pos rfl, if_pos hif, if_pos (by omega), w64_of (n := 15 - (i : Int)) (by omega) (by omega)]
        · rw [if_neg e, hf2.2 j hj]
          by_cases h1 : j < i
          · rw [if_pos h1, if_pos (by omega)]
          · rw [if_neg h1, if_neg (by omega)])
      rw [k1]
      simp only [Option.bind_some]
      have hget : ∀ j (hj : j < x0.length), a[j]? = some ⟨x0[j].Source, x0[j].Kind, x0[j].Torque, 15 - (j : Int)⟩ := fun j hj => by rw [kb j hj, if_pos hj]
      rw [w64_of (n := x3) (by omega) (by omega), ka]
      unfold remM
      rw [if_neg (by omega), Int.tmod_eq_emod_of_nonneg hw3.1]
      simp only [Option.bind_some]
      have hm0 := Int.emod_nonneg x3 (show (x0.length : Int) ≠ 0 by omega)
      have hm1 := Int.emod_lt_of_pos x3 (show (0 : Int) < (x0.length : Int) by omega)
      obtain ⟨k, hk⟩ : ∃ k : Nat, x3 % (x0.length : Int) = (k : Int) := ⟨(x3 % (x0.length : Int)).toNat, by omega⟩
      rw [hk]
      have s1 : sliceM a (k : Int) (x0.length : Int) = some (a.drop k) := by rw [← ka]; exact slice_from a k (by omega)
      rw [s1]
      simp only [Option.bind_some]
      rw [slice_to a k (by omega)]
      simp only [Option.bind_some]
      rw [concat_eq _ _ (by rw [List.length_take, List.length_drop]; omega)]
      simp only [Option.bind_some]
      rw [reverse_eq _ (by rw [List.length_append, List.length_take, List.length_drop]; omega)]
      simp only [Option.bind_some]
      have hperm : a.Perm (a.drop k ++ a.take k).reverse := ((List.reverse_perm _).trans (List.perm_append_comm.trans (by rw [List.take_append_drop]))).symm
      have hd : a.Pairwise fun x y => x.Priority ≠ y.Priority := by
        rw [List.pairwise_iff_getElem]
        intro i j hi hj hij
        have e1 := hget i (by omega)
        have e2 := hget j (by omega)
        rw [List.getElem?_eq_getElem hi, Option.some.injEq] at e1
        rw [List.getElem?_eq_getElem hj, Option.some.injEq] at e2
        rw [e1, e2]
        simp only
        omega
      have hfa : Fine a x1 x2 := ⟨fun r hr => by
        obtain ⟨j, hj, rfl⟩ := List.mem_iff_getElem.1 hr
        have e1 := hget j (by omega)
        rw [List.getElem?_eq_getElem hj, Option.some.injEq] at e1
        rw [e1]
        have := hf.req _ (List.getElem_mem (show j < x0.length by omega))
        unfold reqP at *
        simp only
        omega, by omega, hf.lo, hf.hi, hf.ord⟩
      have hfb : Fine (a.drop k ++ a.take k).reverse x1 x2 := ⟨fun r hr => hfa.req r (hperm.mem_iff.2 hr), by rw [← hperm.length_eq]; exact hfa.len, hf.lo, hf.hi, hf.ord⟩
      have ho : ordL a = ordL (a.drop k ++ a.take k).reverse := ord_perm hperm hd 16
      have e1 : fin (a.drop k ++ a.take k).reverse x1 x2 = fin a x1 x2 := by unfold fin; rw [← ho]
      have e2 : srcs (a.drop k ++ a.take k).reverse x1 x2 = srcs a x1 x2 := by unfold srcs; rw [← ho]
      have la := hfa.len
      have lb := hfb.len
      have hsl := srcs_len hfa
      rw [Decide_eq _ _ _ (by omega), Decide_eq _ _ _ (by omega), Explain_eq _ _ _ (by omega), Explain_eq _ _ _ (by omega), if_pos (chk_zero.2 hfa), if_pos (chk_zero.2 hfb), if_pos (chk_zero.2 hfa), if_pos (chk_zero.2 hfb), e1, e2]
      simp only [Option.bind_some, beq_self_eq_true, Bool.and_self, cond_true]
      rw [equalI_self _ (by omega)]
      rfl
    · rw [decide_eq_false h]; rfl
  · rfl
end Go.Pv

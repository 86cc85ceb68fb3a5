/- The plain law of ArbiterLeaves. -/
import Derived.Test.YtoiamgpgodcioaaMore
set_option linter.unusedSimpArgs false
namespace Go.Pv
open Go

theorem ord_less (A B : List SRequest) (r : SRequest) : ∀ k : Nat, ((15 - (k : Int) ≥ r.Priority ∨ r.Priority > 15) ∧ ordK (A ++ r :: B) k = ordK (A ++ B) k) ∨ (∃ X Y, ordK (A ++ r :: B) k = X ++ r :: Y ∧ ordK (A ++ B) k = X ++ Y)
  | 0 => by
    by_cases h : 15 - ((0 : Nat) : Int) ≥ r.Priority ∨ r.Priority > 15
    · exact .inl ⟨h, rfl⟩
    · exfalso; omega
  | k + 1 => by
    rw [ordK_succ, ordK_succ]
    have hl : lev (A ++ r :: B) k = (lev A k) ++ ((if r.Priority = 15 - (k : Int) then [r] else []) ++ lev B k) := by
      unfold lev
      rw [List.filter_append, List.filter_cons]
      by_cases h : r.Priority = 15 - (k : Int)
      · rw [if_pos (by simpa using h), if_pos h]; rfl
      · rw [if_neg (by simpa using h), if_neg h]; rfl
    have hl2 : lev (A ++ B) k = lev A k ++ lev B k := by unfold lev; rw [List.filter_append]
    rcases ord_less A B r k with ⟨h1, h2⟩ | ⟨X, Y, h1, h2⟩
    · by_cases h : r.Priority = 15 - (k : Int)
      · right
        refine ⟨ordK (A ++ B) k ++ lev A k, lev B k, ?_, ?_⟩
        · rw [h2, hl, if_pos h]; simp
        · rw [hl2]; simp
      · left
        refine ⟨by omega, ?_⟩
        rw [h2, hl, hl2, if_neg h]; rfl
    · right
      refine ⟨X, Y ++ lev (A ++ B) k, ?_, by rw [h2]; simp⟩
      by_cases h : r.Priority = 15 - (k : Int)
      · exfalso
        have hm : r ∈ ordK (A ++ r :: B) k := by rw [h1]; simp
        obtain ⟨_, j, hj, hp⟩ := mem_ordK.1 hm
        omega
      · rw [h1, hl, if_neg h, hl2]; simp

theorem leave {A B : List SRequest} {r : SRequest} {low high : Int} (h : Fine (A ++ r :: B) low high) (hs : r.Source ∉ srcs (A ++ r :: B) low high) : fin (A ++ B) low high = fin (A ++ r :: B) low high ∧ srcs (A ++ B) low high = srcs (A ++ r :: B) low high := by
  have hd := h.dr r (by simp)
  unfold DR at hd
  rcases ord_less A B r 16 with ⟨h1, _⟩ | ⟨X, Y, h1, h2⟩
  · omega
  · have hns : r.Source ∉ dec (s0 low high) (ordL (A ++ r :: B)) := fun hm => hs (mem_srcs.2 hm)
    have hdec := dec_app (s0 low high) X (r :: Y)
    rw [show ordL (A ++ r :: B) = X ++ r :: Y from h1, hdec] at hns
    have hc : chg (X.foldl stp (s0 low high)) r = false := by
      cases hc : chg (X.foldl stp (s0 low high)) r
      · rfl
      · exfalso
        apply hns
        simp only [dec, hc, cond_true]
        simp
    have hst := stp_same hc
    unfold fin srcs
    rw [show ordL (A ++ r :: B) = X ++ r :: Y from h1, show ordL (A ++ B) = X ++ Y from h2]
    constructor
    · rw [List.foldl_append, List.foldl_append, List.foldl_cons, hst]
    · rw [hdec, dec_app]
      simp only [dec, hc, cond_false, List.nil_append, hst]

theorem plain_ArbiterLeaves (x0 : List SRequest) (x1 : Int) (x2 : Int) (x3 : Int) (_ : (wfL wf_SRequest) x0) (_ : (fun n => (Lit.int .i64 n).wf = true) x1) (_ : (fun n => (Lit.int .i64 n).wf = true) x2) (g3 : (fun n => (Lit.int .u8 n).wf = true) x3) : magnetolaw36_ArbiterLeaves x0 x1 x2 x3 = some true := by
  unfold magnetolaw36_ArbiterLeaves
  rw [awake36]
  simp only [Option.bind_some, Bool.not_true, Bool.false_or]
  have hw3 : 0 ≤ x3 ∧ x3 ≤ 255 := by
    have h : IntKind.u8.min ≤ x3 ∧ x3 ≤ IntKind.u8.max := by simpa [Lit.wf] using g3
    exact h
  cases h32 : (decide ((x0.length : Int) > 32) || ((x0.length : Int) == 0))
  · simp only [Bool.or_eq_false_iff, decide_eq_false_iff_not, beq_eq_false_iff_ne] at h32
    have hl : x0.length ≤ 32 ∧ 0 < x0.length := by omega
    simp only [cond_false]
    rw [check_eq _ _ _ (by omega)]
    simp only [Option.bind_some]
    rw [chk_bool]
    by_cases h : chk x0 x1 x2 = 0
    · have hf := chk_zero.1 h
      rw [decide_eq_true h]
      simp only [Bool.not_true, cond_false]
      rw [w64_of (n := x3) (by omega) (by omega)]
      unfold remM
      rw [if_neg (by omega), Int.tmod_eq_emod_of_nonneg hw3.1]
      simp only [Option.bind_some]
      have hm0 := Int.emod_nonneg x3 (show (x0.length : Int) ≠ 0 by omega)
      have hm1 := Int.emod_lt_of_pos x3 (show (0 : Int) < (x0.length : Int) by omega)
      obtain ⟨i, hi⟩ : ∃ i : Nat, x3 % (x0.length : Int) = (i : Int) := ⟨(x3 % (x0.length : Int)).toNat, by omega⟩
      rw [hi]
      have hil : i < x0.length := by omega
      rw [Explain_eq _ _ _ (by omega), if_pos h]
      simp only [Option.bind_some, bne_self_eq_false, cond_false]
      rw [getI_get _ _ hil]
      simp only [Option.bind_some]
      have hsl := srcs_len hf
      rw [containsI_eq _ _ (by omega)]
      simp only [Option.bind_some]
      by_cases hc : x0[i].Source ∈ srcs x0 x1 x2
      · rw [decide_eq_true hc]; rfl
      · rw [decide_eq_false hc]
        simp only [cond_false]
        rw [slice_to _ _ (by omega), w64_of (n := (i : Int) + 1) (by omega) (by omega), show (i : Int) + 1 = ((i + 1 : Nat) : Int) by omega, slice_from _ _ (by omega)]
        simp only [Option.bind_some]
        rw [concat_eq _ _ (by rw [List.length_take, List.length_drop]; omega)]
        simp only [Option.bind_some]
        have hsplit : x0 = x0.take i ++ x0[i] :: x0.drop (i + 1) := by
          rw [← List.drop_eq_getElem_cons hil, List.take_append_drop]
        have hf' : Fine (x0.take i ++ x0[i] :: x0.drop (i + 1)) x1 x2 := by rw [← hsplit]; exact hf
        have hlv := leave hf' (by rw [← hsplit]; exact hc)
        rw [← hsplit] at hlv
        have hfo : Fine (x0.take i ++ x0.drop (i + 1)) x1 x2 := ⟨fun r hr => hf.req r (by
          rcases List.mem_append.1 hr with hr | hr
          · exact List.mem_of_mem_take hr
          · exact List.mem_of_mem_drop hr), by rw [List.length_append, List.length_take, List.length_drop]; omega, hf.lo, hf.hi, hf.ord⟩
        have hlo : (x0.take i ++ x0.drop (i + 1)).length ≤ 32 := hfo.len
        rw [Decide_eq _ _ _ (by omega), Decide_eq _ _ _ (by omega), Bounds_eq _ _ _ (by omega), Bounds_eq _ _ _ (by omega), Explain_eq _ _ _ (by omega), if_pos h, if_pos h, if_pos (chk_zero.2 hfo), if_pos (chk_zero.2 hfo), if_pos (chk_zero.2 hfo), hlv.1, hlv.2]
        simp only [Option.bind_some, beq_self_eq_true, Bool.and_self, cond_true]
        rw [equalI_self _ (by omega)]
        rfl
    · rw [decide_eq_false h]; rfl
  · rfl
end Go.Pv

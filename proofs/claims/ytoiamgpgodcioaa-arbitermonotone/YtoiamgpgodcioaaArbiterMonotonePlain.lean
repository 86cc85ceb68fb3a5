/- The plain law of ArbiterMonotone. -/
import Derived.Test.YtoiamgpgodcioaaRef
set_option linter.unusedSimpArgs false
namespace Go.Pv
open Go
/-- The same list, with torques that are not greater. -/
inductive Low : List SRequest → List SRequest → Prop
  | nil : Low [] []
  | cons {x y : SRequest} {l m : List SRequest} : x.Kind = y.Kind → x.Priority = y.Priority → y.Torque ≤ x.Torque → Low l m → Low (x :: l) (y :: m)
theorem Low.refl : ∀ l, Low l l
  | [] => .nil
  | _ :: l => .cons rfl rfl (Int.le_refl _) (Low.refl l)
theorem Low.app {a b c d : List SRequest} (h : Low a b) (k : Low c d) : Low (a ++ c) (b ++ d) := by
  induction h with
  | nil => exact k
  | cons h1 h2 h3 _ ih => exact .cons h1 h2 h3 ih
theorem Low.filt {a b : List SRequest} (p : Int) (h : Low a b) : Low (a.filter fun r => r.Priority == p) (b.filter fun r => r.Priority == p) := by
  induction h with
  | nil => exact .nil
  | @cons x y l m h1 h2 h3 h4 ih =>
    rw [List.filter_cons, List.filter_cons, ← h2]
    cases x.Priority == p
    · simpa using ih
    · simpa using Low.cons h1 h2 h3 ih
theorem Low.ordK {a b : List SRequest} (h : Low a b) : ∀ k, Low (ordK a k) (ordK b k)
  | 0 => .nil
  | k + 1 => by
    rw [ordK_succ, ordK_succ]
    exact Low.app (Low.ordK h k) (Low.filt _ h)
theorem stp_mono {s t : Sarbiter_span} {x y : SRequest} (hs : s.low ≤ s.high) (ht : t.low ≤ t.high) (h1 : t.low ≤ s.low) (h2 : t.high ≤ s.high) (hk : x.Kind = y.Kind) (hq : y.Torque ≤ x.Torque) : (stp t y).low ≤ (stp s x).low ∧ (stp t y).high ≤ (stp s x).high := by
  have hi : ins t y ≤ ins s x := by
    unfold ins maxI minI; repeat' split
    all_goals omega
  unfold stp nlo nhi
  simp only
  rw [hk]
  have := ins_range (r := x) hs
  have := ins_range (r := y) ht
  constructor
  · by_cases e : y.Kind = 1
    · rw [if_pos e, if_pos e]; exact h1
    · rw [if_neg e, if_neg e]; exact hi
  · by_cases e : y.Kind = 2
    · rw [if_pos e, if_pos e]; exact h2
    · rw [if_neg e, if_neg e]; exact hi
theorem fold_mono {a b : List SRequest} (h : Low a b) : ∀ {s t : Sarbiter_span}, s.low ≤ s.high → t.low ≤ t.high → t.low ≤ s.low → t.high ≤ s.high → (b.foldl stp t).low ≤ (a.foldl stp s).low ∧ (b.foldl stp t).high ≤ (a.foldl stp s).high := by
  induction h with
  | nil => intro s t _ _ h1 h2; exact ⟨h1, h2⟩
  | @cons x y l m hk _ hq _ ih =>
    intro s t hs ht h1 h2
    have m1 := stp_mono hs ht h1 h2 hk hq
    have r1 := stp_range (r := x) hs
    have r2 := stp_range (r := y) ht
    rw [List.foldl_cons, List.foldl_cons]
    exact ih (by omega) (by omega) m1.1 m1.2
theorem low_set {l : List SRequest} : ∀ {i : Nat} {y : SRequest} (h : i < l.length), l[i].Kind = y.Kind → l[i].Priority = y.Priority → y.Torque ≤ l[i].Torque → Low l (l.set i y) := by
  induction l with
  | nil => intro i y h; simp at h
  | cons x l ih =>
    intro i y h h1 h2 h3
    cases i with
    | zero => exact .cons h1 h2 h3 (Low.refl l)
    | succ i => exact .cons rfl rfl (Int.le_refl _) (ih (by simpa using h) (by simpa using h1) (by simpa using h2) (by simpa using h3))
theorem plain_ArbiterMonotone (x0 : List SRequest) (x1 : Int) (x2 : Int) (x3 : Int) (x4 : Int) (_ : (wfL wf_SRequest) x0) (_ : (fun n => (Lit.int .i64 n).wf = true) x1) (_ : (fun n => (Lit.int .i64 n).wf = true) x2) (g3 : (fun n => (Lit.int .u8 n).wf = true) x3) (g4 : (fun n => (Lit.int .u16 n).wf = true) x4) : magnetolaw36_ArbiterMonotone x0 x1 x2 x3 x4 = some true := by
  unfold magnetolaw36_ArbiterMonotone
  rw [awake36]
  simp only [Option.bind_some, Bool.not_true, Bool.false_or]
  have hw3 : 0 ≤ x3 ∧ x3 ≤ 255 := by
    have h : IntKind.u8.min ≤ x3 ∧ x3 ≤ IntKind.u8.max := by simpa [Lit.wf] using g3
    exact h
  have hw4 : 0 ≤ x4 ∧ x4 ≤ 65535 := by
    have h : IntKind.u16.min ≤ x4 ∧ x4 ≤ IntKind.u16.max := by simpa [Lit.wf] using g4
    exact h
  cases h32 : (decide ((x0.length : Int) > 32) || ((x0.length : Int) == 0))
  · simp only [Bool.or_eq_false_iff, decide_eq_false_iff_not, beq_eq_false_iff_ne] at h32
    have hl : x0.length ≤ 32 ∧ 0 < x0.length := by omega
    simp only [cond_false]
    rw [check_eq _ _ _ (by omega)]
    simp only [Option.bind_some]
    rw [chk_bool]
    by_cases h : chk x0 x1 x2 = 0
    · have hf := chk_zero.1 h
      have hlo := hf.lo
      have hhi := hf.hi
      have hord := hf.ord
      rw [decide_eq_true h]
      simp only [Bool.not_true, cond_false]
      rw [w64_of (n := x3) (by omega) (by omega), w64_of (n := x4) (by omega) (by omega), w64_of (n := x2 - x4) (by omega) (by omega)]
      unfold remM
      rw [if_neg (by omega), Int.tmod_eq_emod_of_nonneg hw3.1]
      simp only [Option.bind_some]
      have hm0 := Int.emod_nonneg x3 (show (x0.length : Int) ≠ 0 by omega)
      have hm1 := Int.emod_lt_of_pos x3 (show (0 : Int) < (x0.length : Int) by omega)
      obtain ⟨i, hi⟩ : ∃ i : Nat, x3 % (x0.length : Int) = (i : Int) := ⟨(x3 % (x0.length : Int)).toNat, by omega⟩
      rw [hi]
      have hil : i < x0.length := by omega
      unfold slices_Clone_sRequest
      rw [appendM_ok _ _ (by simp only [List.length_nil]; omega)]
      simp only [Option.bind_some, List.nil_append]
      rw [getI_get _ _ hil]
      simp only [Option.bind_some]
      have hreq := hf.req _ (List.getElem_mem hil)
      have hreq2 := hreq
      unfold reqP at hreq2
      rw [w64_of (n := x0[i].Torque - x4) (by omega) (by omega), setM_nat _ _ _ hil]
      simp only [Option.bind_some]
      have hmax : -5000 ≤ maxI (-5000) (x0[i].Torque - x4) ∧ maxI (-5000) (x0[i].Torque - x4) ≤ x0[i].Torque := by
        unfold maxI; split <;> omega
      generalize hT : maxI (-5000) (x0[i].Torque - x4) = T at hmax
      have hlow := low_set (l := x0) (y := ⟨x0[i].Source, x0[i].Kind, T, x0[i].Priority⟩) hil rfl rfl hmax.2
      have hf2 : Fine (x0.set i ⟨x0[i].Source, x0[i].Kind, T, x0[i].Priority⟩) x1 x2 := ⟨fun r hr => by
        rcases List.mem_or_eq_of_mem_set hr with hr | rfl
        · exact hf.req r hr
        · unfold reqP; simp only; omega, by rw [List.length_set]; exact hf.len, hlo, hhi, hord⟩
      have hmx : x1 ≤ maxI x1 (x2 - x4) ∧ maxI x1 (x2 - x4) ≤ x2 := by unfold maxI; split <;> omega
      generalize maxI x1 (x2 - x4) = H at hmx
      have hf3 : Fine x0 x1 H := ⟨hf.req, hf.len, hlo, by omega, hmx.1⟩
      rw [Bounds_eq _ _ _ (by omega), Bounds_eq _ _ _ (by rw [List.length_set]; omega), Bounds_eq _ _ _ (by omega), if_pos h, if_pos (chk_zero.2 hf2), if_pos (chk_zero.2 hf3)]
      simp only [Option.bind_some]
      have m1 := fold_mono (Low.ordK hlow 16) (s := s0 x1 x2) (t := s0 x1 x2) hord hord (Int.le_refl _) (Int.le_refl _)
      have m2 := fold_mono (Low.refl (ordL x0)) (s := s0 x1 x2) (t := s0 x1 H) hord hmx.1 (Int.le_refl _) hmx.2
      rw [decide_eq_true (show (fin (x0.set i ⟨x0[i].Source, x0[i].Kind, T, x0[i].Priority⟩) x1 x2).low ≤ (fin x0 x1 x2).low from m1.1), decide_eq_true (show (fin (x0.set i ⟨x0[i].Source, x0[i].Kind, T, x0[i].Priority⟩) x1 x2).high ≤ (fin x0 x1 x2).high from m1.2), decide_eq_true (show (fin x0 x1 H).low ≤ (fin x0 x1 x2).low from m2.1), decide_eq_true (show (fin x0 x1 H).high ≤ (fin x0 x1 x2).high from m2.2)]
      rfl
    · rw [decide_eq_false h]; rfl
  · rfl
end Go.Pv

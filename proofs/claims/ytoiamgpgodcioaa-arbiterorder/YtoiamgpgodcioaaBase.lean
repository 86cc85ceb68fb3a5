/- The arbiter's functions, as they compute. Plain Lean. -/
import Derived.Test.YtoiamgpgodcioaaWf
import Derived.Test.YtoiamgpgodcioaaPvXk
import Derived.KernelRfl
set_option linter.unusedSimpArgs false
namespace Go.Pv
open Go

theorem bsome {α : Type} (c : Bool) (x y : α) : (bif c then some x else some y) = some (bif c then x else y) := by cases c <;> rfl
theorem bif_bind {α β : Type} (c : Bool) (x y : α) (k : α → Option β) : Option.bind (bif c then some x else some y) k = k (bif c then x else y) := by cases c <;> rfl

/-! Requests. -/
def reqP (r : SRequest) : Prop := (0 ≤ r.Source ∧ r.Source ≤ 15) ∧ (0 ≤ r.Priority ∧ r.Priority ≤ 15) ∧ (-5000 ≤ r.Torque ∧ r.Torque ≤ 10000) ∧ (r.Kind = 1 ∨ (r.Source ≤ 1 ∧ (r.Kind = 2 ∨ r.Kind = 3)))
instance (r : SRequest) : Decidable (reqP r) := by unfold reqP; infer_instance

theorem valid_eq (r : SRequest) : arbiter_Valid r = some (decide (reqP r)) := by
  unfold arbiter_Valid arbiter_torque
  simp only [Option.bind_some, bsome]
  rw [Option.some.injEq, Bool.eq_iff_iff, decide_eq_true_eq]
  unfold reqP
  simp only [Bool.cond_true_left, Bool.cond_false_left, Bool.cond_true_right, Bool.cond_false_right, Bool.or_eq_true, Bool.and_eq_true, Bool.not_eq_true', Bool.or_eq_false_iff, Bool.and_eq_false_iff, Bool.not_eq_false', decide_eq_true_eq, decide_eq_false_iff_not, bne_iff_ne, bne_eq_false_iff_eq, beq_iff_eq, beq_eq_false_iff_ne, ne_eq, ge_iff_le]
  omega

theorem rvalid_eq (r : SRequest) : magnetoref36_Valid r = some (decide (reqP r)) := by
  unfold magnetoref36_Valid magnetoref36_Torque
  simp only [Option.bind_some, bsome]
  rw [Option.some.injEq, Bool.eq_iff_iff, decide_eq_true_eq]
  unfold reqP
  simp only [Bool.cond_true_left, Bool.cond_false_left, Bool.cond_true_right, Bool.cond_false_right, Bool.or_eq_true, Bool.and_eq_true, Bool.not_eq_true', Bool.or_eq_false_iff, Bool.and_eq_false_iff, Bool.not_eq_false', decide_eq_true_eq, decide_eq_false_iff_not, bne_iff_ne, bne_eq_false_iff_eq, beq_iff_eq, beq_eq_false_iff_ne, ne_eq, ge_iff_le]
  omega

def torB (t : Int) : Bool := decide (t ≥ -5000) && decide (t ≤ 10000)
def rngB (low high : Int) : Bool := (!torB low || !torB high) || decide (low > high)
def badR (l : List SRequest) : Bool := l.any fun r => !decide (reqP r)
def chk (l : List SRequest) (low high : Int) : Int := bif badR l then 1 else bif decide ((l.length : Int) > 32) then 5 else bif rngB low high then 2 else 0

theorem tail_eq (low high : Int) : (Option.bind (some (torB low)) fun v2 => Option.bind (bif (!v2) then (some true) else (Option.bind (some (torB high)) fun v3 => some (!v3))) fun b2 => bif (b2 || (decide (low > high))) then (some (2 : Int)) else (some 0)) = some (bif rngB low high then 2 else 0) := by
  unfold rngB
  cases torB low <;> cases torB high <;> cases decide (low > high) <;> rfl

theorem given_eq (l : List SRequest) (low high : Int) (hl : l.length ≤ 1000) : arbiter_given l low high = some (chk l low high) := by
  unfold arbiter_given chk
  have k := index_any l (by omega) arbiter_given_1 (fun r => !decide (reqP r)) (fun y _ => by unfold arbiter_given_1; rw [valid_eq]; rfl)
  have k' : slices_ContainsFunc_sRequest l arbiter_given_1 = some (badR l) := k
  rw [k']
  simp only [Option.bind_some]
  cases badR l
  · simp only [cond_false]
    cases decide ((l.length : Int) > 32)
    · simp only [cond_false]
      exact tail_eq low high
    · rfl
  · rfl

theorem check_eq (l : List SRequest) (low high : Int) (hl : l.length ≤ 1000) : magnetoref36_Check l low high = some (chk l low high) := by
  unfold magnetoref36_Check chk
  have k := loopM_allL (mb := magnetoref36_Check_b1 l) (fun i => (i : Int)) (p := fun r => decide (reqP r)) (b0 := .inl (l.length : Int)) (b1 := .inr 1) l (by
    unfold magnetoref36_Check_b1
    rw [show decide ((l.length : Int) < (l.length : Int)) = false by simp]; rfl) (fun j y hy => by
    have hj := (List.getElem?_eq_some_iff.1 hy).1
    unfold magnetoref36_Check_b1
    rw [show decide ((j : Int) < (l.length : Int)) = true from decide_eq_true (by omega), getI_nat, hy, w64_of (n := (j : Int) + 1) (by omega) (by omega)]
    simp only [cond_true, Option.bind_some, rvalid_eq]
    cases decide (reqP y) <;> rfl)
  rw [show ((0 : Nat) : Int) = 0 from rfl] at k
  rw [k]
  have hb : badR l = !l.all fun r => decide (reqP r) := by unfold badR; rw [List.any_eq_not_all_not]; simp
  rw [hb]
  cases l.all fun r => decide (reqP r)
  · rfl
  · simp only [cond_true, Option.bind_some, Bool.not_true, cond_false]
    cases decide ((l.length : Int) > 32)
    · simp only [cond_false]
      exact tail_eq low high
    · rfl

structure Fine (l : List SRequest) (low high : Int) : Prop where
  req : ∀ r ∈ l, reqP r
  len : l.length ≤ 32
  lo : -5000 ≤ low
  hi : high ≤ 10000
  ord : low ≤ high

theorem chk_zero {l : List SRequest} {low high : Int} : chk l low high = 0 ↔ Fine l low high := by
  have hb : badR l = false ↔ ∀ r ∈ l, reqP r := by
    unfold badR
    rw [List.any_eq_false]
    constructor
    · intro h r hr; simpa using h r hr
    · intro h r hr; simpa using h r hr
  have hr : rngB low high = false ↔ (-5000 ≤ low ∧ low ≤ 10000 ∧ -5000 ≤ high ∧ high ≤ 10000 ∧ low ≤ high) := by
    unfold rngB torB
    simp only [Bool.or_eq_false_iff, Bool.not_eq_false', Bool.and_eq_true, decide_eq_true_eq, decide_eq_false_iff_not]
    omega
  unfold chk
  constructor
  · intro h
    cases h1 : badR l <;> rw [h1] at h
    · cases h2 : decide ((l.length : Int) > 32) <;> rw [h2] at h
      · cases h3 : rngB low high <;> rw [h3] at h
        · have h4 := hr.1 h3
          have h5 : ¬ ((l.length : Int) > 32) := of_decide_eq_false h2
          exact ⟨hb.1 h1, by omega, by omega, by omega, by omega⟩
        · cases h
      · cases h
    · cases h
  · intro h
    rw [hb.2 h.req, hr.2 (by have := h.lo; have := h.hi; have := h.ord; omega), decide_eq_false (show ¬ ((l.length : Int) > 32) by have := h.len; omega)]
    rfl

theorem chk_bool {l : List SRequest} {low high : Int} : (chk l low high != 0) = !decide (chk l low high = 0) := by
  cases h : decide (chk l low high = 0)
  · have := of_decide_eq_false h; simpa using this
  · have := of_decide_eq_true h; rw [this]; rfl

/-! Narrowing. -/
def ins (s : Sarbiter_span) (r : SRequest) : Int := maxI s.low (minI s.high r.Torque)
def nlo (s : Sarbiter_span) (r : SRequest) : Int := if r.Kind = 1 then s.low else ins s r
def nhi (s : Sarbiter_span) (r : SRequest) : Int := if r.Kind = 2 then s.high else ins s r
def stp (s : Sarbiter_span) (r : SRequest) : Sarbiter_span := ⟨nlo s r, nhi s r, if nlo s r = s.low then s.source else r.Source⟩
def chg (s : Sarbiter_span) (r : SRequest) : Bool := !(decide (nlo s r = s.low) && decide (nhi s r = s.high))

theorem ins_range {s : Sarbiter_span} {r : SRequest} (h : s.low ≤ s.high) : s.low ≤ ins s r ∧ ins s r ≤ s.high := by
  unfold ins maxI minI; split <;> split <;> omega
theorem stp_range {s : Sarbiter_span} {r : SRequest} (h : s.low ≤ s.high) : s.low ≤ (stp s r).low ∧ (stp s r).low ≤ (stp s r).high ∧ (stp s r).high ≤ s.high := by
  have := ins_range (r := r) h
  unfold stp nlo nhi
  simp only
  split <;> split <;> omega
theorem stp_same {s : Sarbiter_span} {r : SRequest} (h : chg s r = false) : stp s r = s := by
  unfold chg at h
  simp only [Bool.not_eq_false', Bool.and_eq_true, decide_eq_true_eq] at h
  unfold stp
  rw [if_pos h.1, h.1, h.2]

theorem nar_tail (s : Sarbiter_span) (r : SRequest) (lo hi : Int) : (Option.bind (bif (lo != s.low) then (some r.Source) else (some s.source)) fun (f3 : Int) => bif (lo != s.low) then (some (true, (⟨lo, hi, f3⟩ : Sarbiter_span))) else (some ((hi != s.high), (⟨lo, hi, f3⟩ : Sarbiter_span)))) = some (!(decide (lo = s.low) && decide (hi = s.high)), ⟨lo, hi, if lo = s.low then s.source else r.Source⟩) := by
  by_cases h1 : lo = s.low
  · rw [show (lo != s.low) = false by simpa using h1, decide_eq_true h1, if_pos h1]; rfl
  · rw [show (lo != s.low) = true by simpa using h1, decide_eq_false h1, if_neg h1]; rfl

theorem narrow_eq (s : Sarbiter_span) (r : SRequest) (h : s.low ≤ s.high) (hk : r.Kind = 1 ∨ r.Kind = 2 ∨ r.Kind = 3) : arbiter_span_narrow s r = some (chg s r, stp s r) := by
  have e1 : maxI s.low (minI s.high r.Torque) = ins s r := rfl
  have e2 : minI s.high (maxI s.low r.Torque) = ins s r := by
    unfold ins maxI minI; repeat' split
    all_goals omega
  have e3 : minI (maxI r.Torque s.low) s.high = ins s r := by
    unfold ins maxI minI; repeat' split
    all_goals omega
  unfold arbiter_span_narrow arbiter_span_atMost arbiter_span_atLeast arbiter_span_exactly arith_Clamp
  simp only [Option.bind_some]
  rw [e1, e2, e3]
  unfold stp chg nlo nhi
  rcases hk with hk | hk | hk
  · rw [hk]
    exact nar_tail s r s.low (ins s r)
  · rw [hk]
    exact nar_tail s r (ins s r) s.high
  · rw [hk]
    exact nar_tail s r (ins s r) (ins s r)

theorem rnarrow_eq (s : Sarbiter_span) (r : SRequest) (hk : r.Kind = 1 ∨ r.Kind = 2 ∨ r.Kind = 3) : magnetoref36_Narrow ⟨s.low, s.high⟩ r = some ⟨nlo s r, nhi s r⟩ := by
  unfold magnetoref36_Narrow nlo nhi ins
  rcases hk with hk | hk | hk <;> rw [hk] <;> rfl

/-! The list in its order. -/
def lev (l : List SRequest) (j : Nat) : List SRequest := l.filter fun r => r.Priority == 15 - (j : Int)
def ordK (l : List SRequest) (k : Nat) : List SRequest := (List.range k).flatMap (lev l)
abbrev ordL (l : List SRequest) : List SRequest := ordK l 16
theorem ordK_succ (l : List SRequest) (k : Nat) : ordK l (k + 1) = ordK l k ++ lev l k := by
  unfold ordK; rw [List.range_succ, List.flatMap_append, List.flatMap_singleton]

def DR (r : SRequest) : Prop := 0 ≤ r.Priority ∧ r.Priority ≤ 15
theorem lt_dec {x y : SRequest} (hx : DR x) (hy : DR y) : ltM arbiter_decide_1 x y = decide (y.Priority < x.Priority) := by
  unfold DR at hx hy
  unfold ltM arbiter_decide_1
  rw [Option.getD_some, w64_of (by omega) (by omega), decide_eq_decide]
  omega
theorem sw_dec : SW DR arbiter_decide_1 where
  ans := fun x y _ _ => ⟨_, rfl⟩
  asym := fun x y hx hy => by rw [lt_dec hx hy, lt_dec hy hx, decide_eq_true_eq, decide_eq_false_iff_not]; omega
  ntrans := fun x y z hx hy hz => by rw [lt_dec hx hy, lt_dec hy hz, lt_dec hx hz]; simp only [decide_eq_false_iff_not]; omega
theorem eqv_dec {x y : SRequest} (hx : DR x) (hy : DR y) : eqv arbiter_decide_1 x y = (y.Priority == x.Priority) := by
  unfold eqv
  rw [lt_dec hx hy, lt_dec hy hx, Bool.eq_iff_iff]
  simp only [Bool.and_eq_true, Bool.not_eq_true', decide_eq_false_iff_not, beq_iff_eq]
  omega

theorem mem_ordK {l : List SRequest} {k : Nat} {r : SRequest} : r ∈ ordK l k ↔ r ∈ l ∧ ∃ j, j < k ∧ r.Priority = 15 - (j : Int) := by
  unfold ordK lev
  rw [List.mem_flatMap]
  constructor
  · rintro ⟨j, hj, h⟩
    rw [List.mem_filter] at h
    exact ⟨h.1, j, List.mem_range.1 hj, by simpa using h.2⟩
  · rintro ⟨h, j, hj, hp⟩
    exact ⟨j, List.mem_range.2 hj, List.mem_filter.2 ⟨h, by simpa using hp⟩⟩
theorem mem_ordL {l : List SRequest} (h : AllD DR l) {r : SRequest} : r ∈ ordL l ↔ r ∈ l := by
  rw [mem_ordK]
  constructor
  · exact fun h => h.1
  · intro hr
    have := h r hr
    unfold DR at this
    exact ⟨hr, (15 - r.Priority).toNat, by omega, by omega⟩

theorem ordK_srt {l : List SRequest} (h : AllD DR l) : ∀ k, Srt arbiter_decide_1 (ordK l k)
  | 0 => .nil
  | k + 1 => by
    rw [ordK_succ]
    refine Srt.app (ordK_srt h k) ?_ fun a ha b hb => ?_
    · unfold lev
      rw [Srt, List.pairwise_iff_getElem]
      intro i j hi hj _
      have m1 := List.mem_filter.1 (List.getElem_mem hi)
      have m2 := List.mem_filter.1 (List.getElem_mem hj)
      have p1 := m1.2
      simp only [beq_iff_eq] at p1
      have p2 := m2.2
      simp only [beq_iff_eq] at p2
      rw [lt_dec (h _ m2.1) (h _ m1.1), decide_eq_false_iff_not]
      omega
    · obtain ⟨ha1, j, hj, hp⟩ := mem_ordK.1 ha
      have m2 := List.mem_filter.1 hb
      have p2 := m2.2
      simp only [beq_iff_eq] at p2
      rw [lt_dec (h _ m2.1) (h _ ha1), decide_eq_false_iff_not]
      omega

theorem ordK_filter (l : List SRequest) (p : Int) : ∀ k, (ordK l k).filter (fun r => r.Priority == p) = if 15 - (k : Int) < p ∧ p ≤ 15 then l.filter (fun r => r.Priority == p) else []
  | 0 => by
    rw [if_neg (by omega)]
    rfl
  | k + 1 => by
    rw [ordK_succ, List.filter_append, ordK_filter l p k]
    unfold lev
    rw [List.filter_filter]
    by_cases hp : p = 15 - (k : Int)
    · rw [if_neg (by omega), if_pos (by omega), List.nil_append]
      congr 1
      funext r
      rw [← hp]
      cases r.Priority == p <;> rfl
    · have : (l.filter fun a => (a.Priority == p) && (a.Priority == 15 - (k : Int))) = [] := by
        rw [List.filter_eq_nil_iff]
        intro r _ h
        simp only [Bool.and_eq_true, beq_iff_eq] at h
        omega
      rw [this, List.append_nil]
      by_cases h2 : 15 - (k : Int) < p ∧ p ≤ 15
      · rw [if_pos h2, if_pos (by omega)]
      · rw [if_neg h2, if_neg (by omega)]

theorem sort_canon {l r : List SRequest} (h : AllD DR l) (hs : Srt arbiter_decide_1 r) (ht : Sta DR arbiter_decide_1 l r) : r = ordL l := by
  refine srt_uniq sw_dec (ht.all h) (fun x hx => h x ((mem_ordL h).1 hx)) hs (ordK_srt h 16) fun x hx => ?_
  rw [ht.same x hx]
  have e : ∀ m : List SRequest, AllD DR m → m.filter (eqv arbiter_decide_1 x) = m.filter (fun r => r.Priority == x.Priority) := fun m hm => List.filter_congr fun y hy => eqv_dec hx (hm y hy)
  rw [e l h, e (ordL l) (fun y hy => h y ((mem_ordL h).1 hy)), ordK_filter]
  unfold DR at hx
  rw [if_pos (by omega)]

/-! The printed sort is the sort. -/
theorem sm_same : slices_symMergeCmpFunc_Request_s = g_symMergeCmpFunc_s := by kernel_rfl
theorem sym_same : ∀ fu, slices_symMergeCmpFunc_Request fu = g_symMergeCmpFunc fu
  | 0 => rfl
  | fu + 1 => by
    show slices_symMergeCmpFunc_Request_s (slices_symMergeCmpFunc_Request fu) = g_symMergeCmpFunc_s (g_symMergeCmpFunc fu)
    rw [sym_same fu, sm_same]
theorem st3_same (n : Int) (g : SRequest → SRequest → Option Int) (s3 : Int × List SRequest) : slices_stableCmpFunc_Request_b3 n g s3 = g_stableCmpFunc_b3 n g s3 := by
  funext t
  unfold slices_stableCmpFunc_Request_b3 g_stableCmpFunc_b3
  rw [sym_same]
theorem st2_same : slices_stableCmpFunc_Request_b2 = g_stableCmpFunc_b2 := by
  funext n g t
  unfold slices_stableCmpFunc_Request_b2
  simp only [sym_same, st3_same]
  kernel_rfl
theorem stc_same : slices_stableCmpFunc_Request = g_stableCmpFunc := by
  funext d n g
  unfold slices_stableCmpFunc_Request
  rw [st2_same]
  kernel_rfl
theorem st_same (l : List SRequest) (g : SRequest → SRequest → Option Int) : slices_SortStableFunc_sRequest l g = g_SortStableFunc l g := by
  unfold slices_SortStableFunc_sRequest g_SortStableFunc
  rw [stc_same]

/-! decide. -/
def dec (s : Sarbiter_span) : List SRequest → List Int
  | [] => []
  | r :: l => (bif chg s r then [r.Source] else []) ++ dec (stp s r) l
theorem dec_len (s : Sarbiter_span) : ∀ l : List SRequest, (dec s l).length ≤ l.length
  | [] => Nat.le_refl _
  | r :: l => by
    have := dec_len (stp s r) l
    unfold dec
    cases chg s r
    · simp only [cond_false, List.nil_append, List.length_cons]; omega
    · simp only [cond_true, List.length_append, List.length_cons, List.length_nil]; omega
theorem dec_app (s : Sarbiter_span) : ∀ (a b : List SRequest), dec s (a ++ b) = dec s a ++ dec (a.foldl stp s) b
  | [], b => rfl
  | r :: a, b => by
    simp only [List.cons_append, dec, List.foldl_cons, dec_app (stp s r) a b, List.append_assoc]

theorem dloop : ∀ (q : List SRequest) (i : Int) (acc : List Int) (s : Sarbiter_span), s.low ≤ s.high → (∀ r ∈ q, r.Kind = 1 ∨ r.Kind = 2 ∨ r.Kind = 3) → acc.length + q.length ≤ 10000 →
    stepsL arbiter_decide_b1 q i (acc, s) = some (.inl (acc ++ dec s q, q.foldl stp s))
  | [], i, acc, s, _, _, _ => by simp [stepsL, dec]
  | r :: q, i, acc, s, hs, hk, hl => by
    simp only [List.length_cons] at hl
    have hr := stp_range (r := r) hs
    have hb : arbiter_decide_b1 i r (acc, s) = some (.next (acc ++ (bif chg s r then [r.Source] else []), stp s r)) := by
      unfold arbiter_decide_b1
      simp only
      rw [narrow_eq s r hs (hk r (by simp))]
      simp only [Option.bind_some]
      cases chg s r
      · simp
      · simp only [cond_true]
        rw [appendM_ok _ _ (by simp only [List.length_singleton]; omega)]
        rfl
    simp only [stepsL, hb, Option.bind_some]
    rw [dloop q (i + 1) _ (stp s r) (by omega) (fun x hx => hk x (by simp [hx])) (by rw [List.length_append]; cases chg s r <;> simp <;> omega)]
    simp only [dec, List.foldl_cons, List.append_assoc]

def s0 (low high : Int) : Sarbiter_span := ⟨low, high, -1⟩
def fin (l : List SRequest) (low high : Int) : Sarbiter_span := (ordL l).foldl stp (s0 low high)
def srcs (l : List SRequest) (low high : Int) : List Int := compL ((dec (s0 low high) (ordL l)).mergeSort fun x y => decide (x ≤ y))

theorem Fine.dr {l : List SRequest} {low high : Int} (h : Fine l low high) : AllD DR l := fun r hr => by
  have := h.req r hr
  unfold reqP at this
  unfold DR; omega
theorem Fine.kinds {l : List SRequest} {low high : Int} (h : Fine l low high) : ∀ r ∈ l, r.Kind = 1 ∨ r.Kind = 2 ∨ r.Kind = 3 := fun r hr => by
  have := h.req r hr
  unfold reqP at this
  omega
theorem ordL_len {l : List SRequest} {low high : Int} (h : Fine l low high) : (ordL l).length = l.length := by
  obtain ⟨r, h1, h2, h3⟩ := stable_eq sw_dec l h.dr (by have := h.len; omega)
  rw [← sort_canon h.dr h2 h3, h3.len]
theorem ordL_perm {l : List SRequest} {low high : Int} (h : Fine l low high) : (ordL l).Perm l := by
  obtain ⟨r, h1, h2, h3⟩ := stable_eq sw_dec l h.dr (by have := h.len; omega)
  rw [← sort_canon h.dr h2 h3]
  exact h3.perm

theorem decide_eq {l : List SRequest} {low high : Int} (h : Fine l low high) : arbiter_decide l low high = some (fin l low high, srcs l low high) := by
  unfold arbiter_decide slices_Clone_sRequest
  have hl := h.len
  rw [appendM_ok _ _ (by simp only [List.length_nil]; omega)]
  simp only [Option.bind_some, List.nil_append]
  rw [st_same]
  obtain ⟨r, h1, h2, h3⟩ := stable_eq sw_dec l h.dr (by omega)
  rw [h1, sort_canon h.dr h2 h3]
  simp only [Option.bind_some]
  have hlen := ordL_len h
  rw [rangeM_steps _ (by omega), dloop (ordL l) 0 [] ⟨low, high, -1⟩ h.ord (fun x hx => h.kinds x ((mem_ordL h.dr).1 hx)) (by simp only [List.length_nil]; omega)]
  simp only [Option.bind_some, List.nil_append]
  unfold slices_Sort_sint slices_Compact_sint
  have hd := dec_len (s0 low high) (ordL l)
  rw [sortIM_ok (show (dec (⟨low, high, -1⟩ : Sarbiter_span) (ordL l)).length < 4611686018427387904 by unfold s0 at hd; omega)]
  simp only [Option.bind_some]
  rw [compactM_ok (by rw [List.length_mergeSort]; unfold s0 at hd; omega)]
  rfl

theorem fold_range : ∀ (q : List SRequest) (s : Sarbiter_span), s.low ≤ s.high → s.low ≤ (q.foldl stp s).low ∧ (q.foldl stp s).low ≤ (q.foldl stp s).high ∧ (q.foldl stp s).high ≤ s.high
  | [], s, h => ⟨Int.le_refl _, h, Int.le_refl _⟩
  | r :: q, s, h => by
    have h1 := stp_range (r := r) h
    have h2 := fold_range q (stp s r) (by omega)
    rw [List.foldl_cons]
    omega
theorem fin_range {l : List SRequest} {low high : Int} (h : low ≤ high) : low ≤ (fin l low high).low ∧ (fin l low high).low ≤ (fin l low high).high ∧ (fin l low high).high ≤ high := fold_range (ordL l) (s0 low high) h

theorem Bounds_eq (l : List SRequest) (low high : Int) (hl : l.length ≤ 1000) : arbiter_Bounds l low high = some (if chk l low high = 0 then (⟨(fin l low high).low, (fin l low high).high⟩, 0) else (⟨0, 0⟩, chk l low high)) := by
  unfold arbiter_Bounds
  rw [given_eq _ _ _ hl, Option.bind_some, chk_bool]
  by_cases h : chk l low high = 0
  · rw [decide_eq_true h, if_pos h]
    simp only [Bool.not_true, cond_false]
    rw [decide_eq (chk_zero.1 h)]
    rfl
  · rw [decide_eq_false h, if_neg h]; rfl
theorem Decide_eq (l : List SRequest) (low high : Int) (hl : l.length ≤ 1000) : arbiter_Decide l low high = some (if chk l low high = 0 then (⟨(fin l low high).low, (fin l low high).source⟩, 0) else (⟨0, 0⟩, chk l low high)) := by
  unfold arbiter_Decide
  rw [given_eq _ _ _ hl, Option.bind_some, chk_bool]
  by_cases h : chk l low high = 0
  · rw [decide_eq_true h, if_pos h]
    simp only [Bool.not_true, cond_false]
    rw [decide_eq (chk_zero.1 h)]
    rfl
  · rw [decide_eq_false h, if_neg h]; rfl
theorem Explain_eq (l : List SRequest) (low high : Int) (hl : l.length ≤ 1000) : arbiter_Explain l low high = some (if chk l low high = 0 then (srcs l low high, 0) else ([], chk l low high)) := by
  unfold arbiter_Explain
  rw [given_eq _ _ _ hl, Option.bind_some, chk_bool]
  by_cases h : chk l low high = 0
  · rw [decide_eq_true h, if_pos h]
    simp only [Bool.not_true, cond_false]
    rw [decide_eq (chk_zero.1 h)]
    rfl
  · rw [decide_eq_false h, if_neg h]; rfl

theorem equalI_self (l : List Int) (h : l.length ≤ 9223372036854775807) : slices_Equal_sint l l = some true := by
  unfold slices_Equal_sint
  simp only [bne_self_eq_false, cond_false]
  obtain ⟨s, h1, _⟩ := rangeN_inv (R := Bool) l.length h (slices_Equal_sint_b1 l l) (fun _ _ => True) () trivial (fun j hj s _ => ⟨(), by
    unfold slices_Equal_sint_b1
    rw [getI_get _ _ hj]
    simp, trivial⟩)
  rw [h1]; rfl

theorem awake36 : magnetolaw36_awake = some true := by
  unfold magnetolaw36_awake
  rw [Decide_eq _ _ _ (by simp), Explain_eq _ _ _ (by simp)]
  have h1 : chk [⟨0, 3, 2000, 1⟩, ⟨3, 1, 1500, 5⟩] 0 3000 = 0 := by decide
  have h2 : fin [⟨0, 3, 2000, 1⟩, ⟨3, 1, 1500, 5⟩] 0 3000 = ⟨1500, 1500, 0⟩ := Sarbiter_span.ext (by decide) (by decide) (by decide)
  have h4 : dec (s0 0 3000) (ordL [⟨0, 3, 2000, 1⟩, ⟨3, 1, 1500, 5⟩]) = [3, 0] := by decide
  have h3 : srcs [⟨0, 3, 2000, 1⟩, ⟨3, 1, 1500, 5⟩] 0 3000 = [0, 3] := by
    unfold srcs
    rw [h4]
    have : ([3, 0] : List Int).mergeSort (fun x y => decide (x ≤ y)) = [0, 3] := by
      simp [List.mergeSort, List.MergeSort.Internal.splitInTwo, List.merge]
    rw [this]; rfl
  rw [h1, h2, h3]
  simp only [if_true, Option.bind_some]
  rw [equalI_self _ (by simp)]
  rfl
end Go.Pv

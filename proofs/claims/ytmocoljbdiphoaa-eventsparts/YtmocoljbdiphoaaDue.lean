/- Due and its reference, as they compute. Plain Lean. -/
import Derived.Test.YtmocoljbdiphoaaRef
import Derived.Test.YtmocoljbdiphoaaPvXk
import Derived.KernelRfl
set_option linter.unusedSimpArgs false
namespace Go.Pv
open Go

/-! The printed sort is the sort. -/
theorem sm_same : slices_symMergeCmpFunc_int_s = g_symMergeCmpFunc_s := by kernel_rfl
theorem sym_same : ∀ fu, slices_symMergeCmpFunc_int fu = g_symMergeCmpFunc fu
  | 0 => rfl
  | fu + 1 => by
    show slices_symMergeCmpFunc_int_s (slices_symMergeCmpFunc_int fu) = g_symMergeCmpFunc_s (g_symMergeCmpFunc fu)
    rw [sym_same fu, sm_same]
theorem st3_same (n : Int) (g : Int → Int → Option Int) (s3 : Int × List Int) : slices_stableCmpFunc_int_b3 n g s3 = g_stableCmpFunc_b3 n g s3 := by
  funext t
  unfold slices_stableCmpFunc_int_b3 g_stableCmpFunc_b3
  rw [sym_same]
theorem st2_same : slices_stableCmpFunc_int_b2 = g_stableCmpFunc_b2 := by
  funext n g t
  unfold slices_stableCmpFunc_int_b2
  simp only [sym_same, st3_same]
  kernel_rfl
theorem stc_same : slices_stableCmpFunc_int = g_stableCmpFunc := by
  funext d n g
  unfold slices_stableCmpFunc_int
  rw [st2_same]
  kernel_rfl
theorem st_same (l : List Int) (g : Int → Int → Option Int) : slices_SortStableFunc_sint l g = g_SortStableFunc l g := by
  unfold slices_SortStableFunc_sint g_SortStableFunc
  rw [stc_same]

/-! Events and angles. -/
def evP (x : SEvent) : Prop := (0 ≤ x.Angle ∧ x.Angle < 46080) ∧ (1 ≤ x.Kind ∧ x.Kind ≤ 4) ∧ (1 ≤ x.Cylinder ∧ x.Cylinder ≤ 8) ∧ (0 ≤ x.Pulse ∧ x.Pulse ≤ 2)
instance (x : SEvent) : Decidable (evP x) := by unfold evP; infer_instance
theorem wrong_eq (x : SEvent) : events_Due_1 x = some (!decide (evP x)) := by
  unfold events_Due_1 events_angle events_within
  simp only [Option.bind_some, bsome]
  rw [Option.some.injEq, Bool.eq_iff_iff, Bool.not_eq_true', decide_eq_false_iff_not]
  unfold evP
  simp only [Bool.cond_true_left, Bool.or_eq_true, Bool.and_eq_true, Bool.not_eq_true', Bool.and_eq_false_iff, decide_eq_true_eq, decide_eq_false_iff_not, ge_iff_le]
  omega
def badE (l : List SEvent) : Bool := decide ((l.length : Int) > 1000) || l.any fun x => !decide (evP x)
theorem badE_false {l : List SEvent} (h : badE l = false) : l.length ≤ 1000 ∧ ∀ x ∈ l, evP x := by
  unfold badE at h
  rw [Bool.or_eq_false_iff, decide_eq_false_iff_not, List.any_eq_false] at h
  exact ⟨by omega, fun x hx => by simpa using h.2 x hx⟩

theorem list_eq (l : List SEvent) : magnetoref23_List l = some (!badE l) := by
  unfold magnetoref23_List badE
  cases hl : decide ((l.length : Int) > 1000)
  · have hl := of_decide_eq_false hl
    simp only [cond_false, Bool.false_or]
    have k := loopM_allL (mb := magnetoref23_List_b1 l) (fun i => (i : Int)) (p := fun x => decide (evP x)) (b0 := .inl (l.length : Int)) (b1 := .inr false) l (by
      unfold magnetoref23_List_b1
      rw [show decide ((l.length : Int) < (l.length : Int)) = false by simp]; rfl) (fun j y hy => by
      have hj := (List.getElem?_eq_some_iff.1 hy).1
      unfold magnetoref23_List_b1 magnetoref23_Angle
      rw [show decide ((j : Int) < (l.length : Int)) = true from decide_eq_true (by omega), getI_nat, hy, w64_of (n := (j : Int) + 1) (by omega) (by omega)]
      simp only [cond_true, Option.bind_some]
      have : (((((((!((decide (y.Angle ≥ 0)) && (decide (y.Angle < 46080)))) || (decide (y.Kind < 1))) || (decide (y.Kind > 4))) || (decide (y.Cylinder < 1))) || (decide (y.Cylinder > 8))) || (decide (y.Pulse < 0))) || (decide (y.Pulse > 2))) = !decide (evP y) := by
        rw [Bool.eq_iff_iff, Bool.not_eq_true', decide_eq_false_iff_not]
        unfold evP
        simp only [Bool.or_eq_true, Bool.and_eq_true, Bool.not_eq_true', Bool.and_eq_false_iff, decide_eq_true_eq, decide_eq_false_iff_not, ge_iff_le]
        omega
      rw [this]
      cases decide (evP y) <;> rfl)
    rw [show ((0 : Nat) : Int) = 0 from rfl] at k
    rw [k]
    have hb : (l.any fun x => !decide (evP x)) = !l.all fun x => decide (evP x) := by rw [List.any_eq_not_all_not]; simp
    rw [hb]
    cases l.all fun x => decide (evP x) <;> rfl
  · rfl

def angB (a : Int) : Bool := decide (a ≥ 0) && decide (a < 46080)
theorem angB_iff {a : Int} : angB a = true ↔ 0 ≤ a ∧ a < 46080 := by unfold angB; simp
def dst (a b : Int) : Int := (b - a) % 46080
theorem dist_val (a b : Int) : events_Distance a b = some (bif angB a && angB b then dst a b else -1) := by
  unfold events_Distance events_angle
  simp only [Option.bind_some]
  have e : ∀ a : Int, (decide (a ≥ 0) && decide (a < 46080)) = angB a := fun _ => rfl
  rw [e, e]
  cases ha : angB a
  · rfl
  · cases hb : angB b
    · rfl
    · have ha := angB_iff.1 ha
      have hb := angB_iff.1 hb
      simp only [Bool.not_true, cond_false, Option.bind_some, Bool.and_self, cond_true]
      rw [w64_of (n := b - a) (by omega) (by omega), mod_eq _ (by omega) (by omega)]
      rfl
theorem dist_in {a b : Int} (ha : angB a = true) (hb : angB b = true) : events_Distance a b = some (dst a b) := by rw [dist_val, ha, hb]; rfl
theorem rdist_in {a b : Int} (ha : angB a = true) (hb : angB b = true) : magnetoref23_Distance a b = some (dst a b) := by
  have ha := angB_iff.1 ha
  have hb := angB_iff.1 hb
  unfold magnetoref23_Distance
  rw [w64_of (n := b - a) (by omega) (by omega), around_eq]
  rfl

/-! Indices. -/
def idxs (q : SEvent → Bool) : List SEvent → Nat → List Int
  | [], _ => []
  | x :: l, i => (bif q x then [(i : Int)] else []) ++ idxs q l (i + 1)
theorem idxs_snoc (q : SEvent → Bool) (x : SEvent) : ∀ (l : List SEvent) (i : Nat), idxs q (l ++ [x]) i = idxs q l i ++ (bif q x then [((i + l.length : Nat) : Int)] else [])
  | [], i => by simp [idxs]
  | y :: l, i => by
    simp only [List.cons_append, idxs, idxs_snoc q x l (i + 1), List.append_assoc, List.length_cons]
    rw [show i + 1 + l.length = i + (l.length + 1) by omega]
theorem idxs_len (q : SEvent → Bool) : ∀ (l : List SEvent) (i : Nat), (idxs q l i).length ≤ l.length
  | [], _ => Nat.le_refl _
  | y :: l, i => by
    have := idxs_len q l (i + 1)
    unfold idxs
    cases q y
    · simp only [cond_false, List.nil_append, List.length_cons]; omega
    · simp only [cond_true, List.length_append, List.length_cons, List.length_nil]; omega
theorem mem_idxs {q : SEvent → Bool} {j : Int} : ∀ {l : List SEvent} {i : Nat}, j ∈ idxs q l i ↔ ∃ (k : Nat) (x : SEvent), j = ((i + k : Nat) : Int) ∧ l[k]? = some x ∧ q x = true
  | [], i => by simp [idxs]
  | y :: l, i => by
    unfold idxs
    rw [List.mem_append, mem_idxs (l := l) (i := i + 1)]
    constructor
    · rintro (h | ⟨k, x, h1, h2, h3⟩)
      · cases hq : q y <;> rw [hq] at h
        · simp at h
        · simp only [cond_true, List.mem_singleton] at h
          exact ⟨0, y, by rw [h]; rfl, rfl, hq⟩
      · exact ⟨k + 1, x, by rw [h1]; omega, by simpa using h2, h3⟩
    · rintro ⟨k, x, h1, h2, h3⟩
      cases k with
      | zero =>
        left
        have : y = x := by simpa using h2
        subst this
        rw [h3, h1]; simp
      | succ k =>
        right
        exact ⟨k, x, by rw [h1]; omega, by simpa using h2, h3⟩

/-- The key of an index. -/
def key (l : List SEvent) (a : Int) (j : Int) : Int := match getI l j with | some x => dst a x.Angle | none => 0
theorem key_of {l : List SEvent} {a j : Int} {x : SEvent} (h : getI l j = some x) : key l a j = dst a x.Angle := by unfold key; rw [h]
abbrev InL (l : List SEvent) (j : Int) : Prop := 0 ≤ j ∧ j < (l.length : Int)
theorem inL_get {l : List SEvent} {j : Int} (h : InL l j) : ∃ x, getI l j = some x ∧ x ∈ l := by
  refine ⟨l[j.toNat]'(by omega), ?_, List.getElem_mem _⟩
  have := getI_get l j.toNat (by omega)
  rw [← this]; congr 1; omega

noncomputable abbrev gD (l : List SEvent) (a : Int) : Int → Int → Option Int := fun x0 x1 => events_Due_2 x0 x1 a l
theorem gD_eq {l : List SEvent} {a i k : Int} (ha : angB a = true) (hl : ∀ x ∈ l, evP x) (hi : InL l i) (hk : InL l k) : gD l a i k = some (cmp3 (key l a i) (key l a k)) := by
  obtain ⟨x, hx, mx⟩ := inL_get hi
  obtain ⟨y, hy, my⟩ := inL_get hk
  have px := hl x mx
  have py := hl y my
  unfold evP at px py
  unfold gD events_Due_2
  rw [hx, Option.bind_some, dist_in ha (angB_iff.2 px.1), Option.bind_some, hy, Option.bind_some, dist_in ha (angB_iff.2 py.1), Option.bind_some, compare_eq, Option.bind_some, key_of hx, key_of hy]
theorem gD_lt {l : List SEvent} {a i k : Int} (ha : angB a = true) (hl : ∀ x ∈ l, evP x) (hi : InL l i) (hk : InL l k) : ltM (gD l a) i k = decide (key l a i < key l a k) := by
  unfold ltM
  rw [gD_eq ha hl hi hk, Option.getD_some]
  rcases cmp3_cases (key l a i) (key l a k) with ⟨h, e⟩ | ⟨h, e⟩ | ⟨h, e⟩ <;> rw [e]
  · rw [decide_eq_true h]; rfl
  · rw [decide_eq_false (show ¬ (key l a i < key l a k) by omega)]; rfl
  · rw [decide_eq_false (show ¬ (key l a i < key l a k) by omega)]; rfl
theorem gD_sw {l : List SEvent} {a : Int} (ha : angB a = true) (hl : ∀ x ∈ l, evP x) : SW (InL l) (gD l a) where
  ans := fun x y hx hy => ⟨_, gD_eq ha hl hx hy⟩
  asym := fun x y hx hy => by rw [gD_lt ha hl hx hy, gD_lt ha hl hy hx, decide_eq_true_eq, decide_eq_false_iff_not]; omega
  ntrans := fun x y z hx hy hz => by rw [gD_lt ha hl hx hy, gD_lt ha hl hy hz, gD_lt ha hl hx hz]; simp only [decide_eq_false_iff_not]; omega
theorem gD_eqv {l : List SEvent} {a x y : Int} (ha : angB a = true) (hl : ∀ x ∈ l, evP x) (hx : InL l x) (hy : InL l y) : eqv (gD l a) x y = (key l a y == key l a x) := by
  unfold eqv
  rw [gD_lt ha hl hx hy, gD_lt ha hl hy hx, Bool.eq_iff_iff]
  simp only [Bool.and_eq_true, Bool.not_eq_true', decide_eq_false_iff_not, beq_iff_eq]
  omega
theorem idxs_in {q : SEvent → Bool} {l : List SEvent} {m : Nat} (h : m ≤ l.length) : AllD (InL l) (idxs q (l.take m) 0) := fun j hj => by
  obtain ⟨k, x, h1, h2, _⟩ := mem_idxs.1 hj
  have := (List.getElem?_eq_some_iff.1 h2).1
  rw [List.length_take] at this
  constructor <;> omega

def inq (a d : Int) (x : SEvent) : Bool := decide (dst a x.Angle < d)
/-- What is due, in its order. -/
structure DueOk (l : List SEvent) (a b : Int) (r : List Int) : Prop where
  srt : Srt (gD l a) r
  sta : Sta (InL l) (gD l a) (idxs (inq a (dst a b)) l 0) r

theorem due_loop {l : List SEvent} {a b : Int} (ha : angB a = true) (hb : angB b = true) (hl : ∀ x ∈ l, evP x) (hn : l.length ≤ 1000) : rangeN (l.length : Int) (events_Due_b1 l a b) ([] : List Int) = some (.inl (idxs (inq a (dst a b)) l 0)) := by
  obtain ⟨s, k1, k2⟩ := rangeN_inv (R := Empty) l.length (by omega) (events_Due_b1 l a b) (fun i s => s = idxs (inq a (dst a b)) (l.take i) 0) [] rfl (fun j hj s hs => by
    subst hs
    have hlen := idxs_len (inq a (dst a b)) (l.take j) 0
    rw [List.length_take] at hlen
    refine ⟨idxs (inq a (dst a b)) (l.take (j + 1)) 0, ?_, rfl⟩
    rw [List.take_succ_eq_append_getElem hj, idxs_snoc]
    have px := hl _ (List.getElem_mem hj)
    unfold evP at px
    unfold events_Due_b1
    rw [getI_get _ _ hj]
    simp only [Option.bind_some]
    rw [dist_in ha (angB_iff.2 px.1), dist_in ha hb]
    simp only [Option.bind_some]
    rw [show decide (dst a l[j].Angle < dst a b) = inq a (dst a b) l[j] from rfl, List.length_take, Nat.min_eq_left (by omega), Nat.zero_add]
    cases inq a (dst a b) l[j]
    · simp
    · simp only [cond_true]
      rw [appendM_ok _ _ (by simp only [List.length_singleton]; omega)]
      rfl)
  rw [k1, k2, List.take_length]

theorem due_ok {l : List SEvent} {a b : Int} (ha : angB a = true) (hb : angB b = true) (hbad : badE l = false) : ∃ r, events_Due l a b = some (r, 0) ∧ DueOk l a b r := by
  obtain ⟨hn, hl⟩ := badE_false hbad
  unfold events_Due
  have hany := hbad
  unfold badE at hany
  rw [Bool.or_eq_false_iff] at hany
  rw [hany.1]
  have k := index_any l (by omega) events_Due_1 (fun x => !decide (evP x)) (fun y _ => wrong_eq y)
  have k' : slices_ContainsFunc_sEvent l events_Due_1 = some (l.any fun x => !decide (evP x)) := k
  simp only [cond_false]
  rw [k', hany.2]
  simp only [Option.bind_some, cond_false]
  unfold events_angle
  have e : ∀ a : Int, (decide (a ≥ 0) && decide (a < 46080)) = angB a := fun _ => rfl
  simp only [Option.bind_some]
  rw [e, e, ha, hb]
  simp only [Bool.not_true, cond_false, Option.bind_some]
  rw [due_loop ha hb hl hn]
  simp only [Option.bind_some]
  rw [st_same]
  have hin := idxs_in (q := inq a (dst a b)) (l := l) (m := l.length) (Nat.le_refl _)
  rw [List.take_length] at hin
  have hlen := idxs_len (inq a (dst a b)) l 0
  obtain ⟨r, h1, h2, h3⟩ := stable_eq (gD_sw ha hl) (idxs (inq a (dst a b)) l 0) hin (by omega)
  rw [show (fun x0 x1 => events_Due_2 x0 x1 a l) = gD l a from rfl, h1]
  exact ⟨r, rfl, h2, h3⟩

theorem due_bad {l : List SEvent} {a b : Int} (hbad : badE l = true) : events_Due l a b = some ([], 1) := by
  unfold events_Due
  unfold badE at hbad
  cases h1 : decide ((l.length : Int) > 1000)
  · rw [h1, Bool.false_or] at hbad
    have k := index_any l (by have := of_decide_eq_false h1; omega) events_Due_1 (fun x => !decide (evP x)) (fun y _ => wrong_eq y)
    have k' : slices_ContainsFunc_sEvent l events_Due_1 = some (l.any fun x => !decide (evP x)) := k
    simp only [cond_false]
    rw [k', hbad]
    rfl
  · rfl
theorem due_range {l : List SEvent} {a b : Int} (hbad : badE l = false) (h : (angB a && angB b) = false) : events_Due l a b = some ([], 2) := by
  obtain ⟨hn, hl⟩ := badE_false hbad
  unfold events_Due
  have hany := hbad
  unfold badE at hany
  rw [Bool.or_eq_false_iff] at hany
  rw [hany.1]
  have k := index_any l (by omega) events_Due_1 (fun x => !decide (evP x)) (fun y _ => wrong_eq y)
  have k' : slices_ContainsFunc_sEvent l events_Due_1 = some (l.any fun x => !decide (evP x)) := k
  simp only [cond_false]
  rw [k', hany.2]
  simp only [Option.bind_some, cond_false]
  unfold events_angle
  have e : ∀ a : Int, (decide (a ≥ 0) && decide (a < 46080)) = angB a := fun _ => rfl
  simp only [Option.bind_some]
  rw [e, e]
  cases ha : angB a
  · rfl
  · rw [ha, Bool.true_and] at h
    rw [h]; rfl

theorem due_uniq {l : List SEvent} {a b : Int} {r s : List Int} (ha : angB a = true) (hl : ∀ x ∈ l, evP x) (h1 : DueOk l a b r) (h2 : DueOk l a b s) : r = s := by
  have hin := idxs_in (q := inq a (dst a b)) (l := l) (m := l.length) (Nat.le_refl _)
  rw [List.take_length] at hin
  exact srt_uniq (gD_sw ha hl) (h1.sta.all hin) (h2.sta.all hin) h1.srt h2.srt fun x hx => (h1.sta.same x hx).trans (h2.sta.same x hx).symm
theorem due_len {l : List SEvent} {a b : Int} {r : List Int} (h : DueOk l a b r) : r.length ≤ l.length := by
  rw [h.sta.len]; exact idxs_len _ _ _

theorem equalI_self (l : List Int) (h : l.length ≤ 9223372036854775807) : slices_Equal_sint l l = some true := by
  unfold slices_Equal_sint
  simp only [bne_self_eq_false, cond_false]
  obtain ⟨s, h1, _⟩ := rangeN_inv (R := Bool) l.length h (slices_Equal_sint_b1 l l) (fun _ _ => True) () trivial (fun j hj s _ => ⟨(), by
    unfold slices_Equal_sint_b1
    rw [getI_get _ _ hj]
    simp, trivial⟩)
  rw [h1]; rfl
end Go.Pv

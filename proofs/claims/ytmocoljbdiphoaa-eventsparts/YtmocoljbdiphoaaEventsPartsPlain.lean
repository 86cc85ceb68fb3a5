/- The plain law of EventsParts. -/
import Derived.Test.YtmocoljbdiphoaaDue
set_option linter.unusedSimpArgs false
namespace Go.Pv
open Go

theorem growI_eq (n : Nat) (h : n ≤ 1000000) : slices_Grow_sint (n : Int) = some [] := by
  unfold slices_Grow_sint
  rw [show decide ((n : Int) < 0) = false from decide_eq_false (by omega), w64_of (n := 0 - 0) (by omega) (by omega), w64_of (n := (n : Int) - (0 - 0)) (by omega) (by omega)]
  simp only [cond_false, Option.bind_some]
  by_cases h0 : n = 0
  · subst h0
    rfl
  · rw [show decide ((n : Int) - (0 - 0) > 0) = true from decide_eq_true (by omega)]
    simp only [cond_true]
    unfold zerosM
    rw [if_pos ⟨by omega, by omega⟩]
    simp only [Option.bind_some]
    unfold sliceM
    rw [if_pos ⟨by omega, by omega, by omega⟩]
    simp

theorem concatI_eq (l m : List Int) (h : l.length + m.length ≤ 100000) : slices_Concat_sint [l, m] = some (l ++ m) := by
  unfold slices_Concat_sint
  rw [rangeM_steps _ (by simp)]
  simp only [stepsL, slices_Concat_sint_b1]
  rw [w64_of (n := 0 + (l.length : Int)) (by omega) (by omega), show decide (0 + (l.length : Int) < 0) = false from decide_eq_false (by omega)]
  simp only [cond_false, Option.bind_some]
  rw [w64_of (n := 0 + (l.length : Int) + (m.length : Int)) (by omega) (by omega), show decide (0 + (l.length : Int) + (m.length : Int) < 0) = false from decide_eq_false (by omega)]
  simp only [cond_false, Option.bind_some]
  rw [show 0 + (l.length : Int) + (m.length : Int) = ((l.length + m.length : Nat) : Int) by omega, growI_eq _ (by omega)]
  simp only [Option.bind_some]
  rw [rangeM_steps _ (by simp)]
  simp only [stepsL, slices_Concat_sint_b2]
  rw [appendM_ok _ _ (by simp only [List.length_nil]; omega)]
  simp only [Option.bind_some, List.nil_append]
  rw [appendM_ok _ _ (by omega)]
  rfl

/-- Sorted ints of the same elements are one list. -/
theorem uniqI : ∀ {a b : List Int}, a.Pairwise (fun x y => x ≤ y) → b.Pairwise (fun x y => x ≤ y) → a.Perm b → a = b
  | [], _, _, _, hp => hp.nil_eq
  | x :: a, [], _, _, hp => by have := hp.length_eq; simp at this
  | x :: a, y :: b, ha, hb, hp => by
    have hxy : x = y := by
      have h1 : x ∈ y :: b := hp.mem_iff.1 (List.mem_cons_self ..)
      have h2 : y ∈ x :: a := hp.mem_iff.2 (List.mem_cons_self ..)
      rcases List.mem_cons.1 h1 with h1 | h1
      · exact h1
      · rcases List.mem_cons.1 h2 with h2 | h2
        · exact h2.symm
        · have a1 := (List.pairwise_cons.1 ha).1 y h2
          have a2 := (List.pairwise_cons.1 hb).1 x h1
          omega
    subst hxy
    rw [uniqI (List.pairwise_cons.1 ha).2 (List.pairwise_cons.1 hb).2 (List.Perm.cons_inv hp)]
theorem sortI_of {l m : List Int} (h : l.Perm m) (hm : m.Pairwise fun x y => x ≤ y) : (l.mergeSort fun x y => decide (x ≤ y)) = m := by
  have tr : ∀ a b c : Int, decide (a ≤ b) = true → decide (b ≤ c) = true → decide (a ≤ c) = true := fun a b c h1 h2 => by simp only [decide_eq_true_eq] at *; omega
  have tt : ∀ a b : Int, (decide (a ≤ b) || decide (b ≤ a)) = true := fun a b => by simp only [Bool.or_eq_true, decide_eq_true_eq]; omega
  have s1 := List.pairwise_mergeSort (le := fun x y : Int => decide (x ≤ y)) tr tt l
  exact uniqI (s1.imp fun h => of_decide_eq_true h) hm ((List.mergeSort_perm l fun x y : Int => decide (x ≤ y)).trans h)

/-! More of indices. -/
theorem idxs_congr {q q' : SEvent → Bool} : ∀ {l : List SEvent} {i : Nat}, (∀ x ∈ l, q x = q' x) → idxs q l i = idxs q' l i
  | [], _, _ => rfl
  | y :: l, i, h => by
    unfold idxs
    rw [h y (by simp), idxs_congr fun x hx => h x (by simp [hx])]
theorem idxs_none {q : SEvent → Bool} {l : List SEvent} {i : Nat} (h : ∀ x ∈ l, q x = false) : idxs q l i = [] := by
  rw [idxs_congr (q' := fun _ => false) h]
  induction l generalizing i with
  | nil => rfl
  | cons y l ih =>
    unfold idxs
    simp only [cond_false, List.nil_append]
    exact ih fun x hx => h x (by simp [hx])
theorem idxs_key (l : List SEvent) (a κ : Int) (q : SEvent → Bool) : ∀ (r : List SEvent) (i : Nat), l.drop i = r → (idxs q r i).filter (fun j => key l a j == κ) = idxs (fun y => q y && (dst a y.Angle == κ)) r i
  | [], _, _ => rfl
  | y :: r, i, hd => by
    have hy : l[i]? = some y := by rw [← List.head?_drop, hd]; rfl
    have ih := idxs_key l a κ q r (i + 1) (by rw [← List.drop_drop, hd]; rfl)
    have hk : key l a (i : Int) = dst a y.Angle := key_of (by rw [getI_nat]; exact hy)
    unfold idxs
    rw [List.filter_append, ih]
    cases q y
    · rfl
    · simp only [cond_true, Bool.true_and]
      rw [List.filter_cons, hk]
      cases dst a y.Angle == κ <;> rfl
theorem idxs_split (q : SEvent → Bool) : ∀ (l : List SEvent) (i : Nat), (idxs q l i ++ idxs (fun x => !q x) l i).Perm (idxs (fun _ => true) l i)
  | [], _ => .refl _
  | y :: l, i => by
    have ih := idxs_split q l (i + 1)
    unfold idxs
    cases q y
    · simp only [cond_false, Bool.not_false, cond_true, List.nil_append]
      refine List.Perm.trans ?_ (List.Perm.append_left _ ih)
      rw [← List.append_assoc, ← List.append_assoc]
      exact List.Perm.append_right _ List.perm_append_comm
    · simp only [cond_true, Bool.not_true, cond_false, List.nil_append, List.append_assoc]
      exact List.Perm.append_left _ ih
theorem idxs_true_len : ∀ (l : List SEvent) (i : Nat), (idxs (fun _ => true) l i).length = l.length
  | [], _ => rfl
  | y :: l, i => by
    unfold idxs
    simp only [cond_true, List.length_append, List.length_cons, List.length_nil, idxs_true_len l (i + 1)]; omega
theorem idxs_true_get : ∀ (l : List SEvent) (i k : Nat), k < l.length → (idxs (fun _ => true) l i)[k]? = some ((i + k : Nat) : Int)
  | [], _, k, h => by simp at h
  | y :: l, i, 0, _ => by simp [idxs]
  | y :: l, i, k + 1, h => by
    have := idxs_true_get l (i + 1) k (by simpa using h)
    unfold idxs
    simp only [cond_true, List.cons_append, List.nil_append, List.getElem?_cons_succ, this]
    congr 2; omega
theorem idxs_true_asc (l : List SEvent) : (idxs (fun _ => true) l 0).Pairwise fun x y => x ≤ y := by
  rw [List.pairwise_iff_getElem]
  intro i j hi hj hij
  have h1 := idxs_true_get l 0 i (by rw [idxs_true_len] at hi; exact hi)
  have h2 := idxs_true_get l 0 j (by rw [idxs_true_len] at hj; exact hj)
  rw [List.getElem?_eq_getElem hi, Option.some.injEq] at h1
  rw [List.getElem?_eq_getElem hj, Option.some.injEq] at h2
  rw [h1, h2]; omega

theorem due_in {l : List SEvent} {a b : Int} {r : List Int} (h : DueOk l a b r) : AllD (InL l) r := by
  have hin := idxs_in (q := inq a (dst a b)) (l := l) (m := l.length) (Nat.le_refl _)
  rw [List.take_length] at hin
  exact h.sta.all hin
theorem due_mem {l : List SEvent} {a b : Int} {r : List Int} (h : DueOk l a b r) {j : Int} (hj : j ∈ r) : ∃ x, getI l j = some x ∧ x ∈ l ∧ dst a x.Angle < dst a b := by
  obtain ⟨k, x, h1, h2, h3⟩ := mem_idxs.1 (h.sta.perm.mem_iff.1 hj)
  refine ⟨x, ?_, List.mem_of_getElem? h2, of_decide_eq_true h3⟩
  rw [h1, Nat.zero_add, getI_nat]; exact h2
theorem due_filter {l : List SEvent} {a b : Int} {r : List Int} (ha : angB a = true) (hl : ∀ x ∈ l, evP x) (h : DueOk l a b r) (κ : Int) : r.filter (fun j => key l a j == κ) = idxs (fun y => inq a (dst a b) y && (dst a y.Angle == κ)) l 0 := by
  have hd := due_in h
  have hin := idxs_in (q := inq a (dst a b)) (l := l) (m := l.length) (Nat.le_refl _)
  rw [List.take_length] at hin
  rw [← idxs_key l a κ (inq a (dst a b)) l 0 rfl]
  by_cases hex : ∃ j ∈ r, key l a j = κ
  · obtain ⟨j, hj, hk⟩ := hex
    have hs := h.sta.same j (hd j hj)
    have e : ∀ m : List Int, AllD (InL l) m → m.filter (eqv (gD l a) j) = m.filter (fun y => key l a y == κ) := fun m hm => List.filter_congr fun y hy => by rw [gD_eqv ha hl (hd j hj) (hm y hy), hk]
    rw [e r hd, e _ hin] at hs
    exact hs
  · have h1 : r.filter (fun j => key l a j == κ) = [] := by
      rw [List.filter_eq_nil_iff]
      intro j hj hk
      exact hex ⟨j, hj, by simpa using hk⟩
    have h2 : (idxs (inq a (dst a b)) l 0).filter (fun j => key l a j == κ) = [] := by
      rw [List.filter_eq_nil_iff]
      intro j hj hk
      exact hex ⟨j, h.sta.perm.mem_iff.2 hj, by simpa using hk⟩
    rw [h1, h2]

theorem parts_eq {l : List SEvent} {a b c : Int} {r1 r2 r3 : List Int} (ha : angB a = true) (hb : angB b = true) (hc : angB c = true) (hl : ∀ x ∈ l, evP x) (h1 : DueOk l a b r1) (h2 : DueOk l b c r2) (h3 : DueOk l a c r3) (hD : dst a b + dst b c < 46080) : r3 = r1 ++ r2 := by
  have hra := angB_iff.1 ha
  have hrb := angB_iff.1 hb
  have hrc := angB_iff.1 hc
  have key2 : ∀ j ∈ r2, key l a j = key l b j + dst a b ∧ 0 ≤ key l b j := fun j hj => by
    obtain ⟨x, hx, mx, hlt⟩ := due_mem h2 hj
    have px := (hl x mx).1
    rw [key_of hx, key_of hx]
    unfold dst at *
    omega
  have key1 : ∀ j ∈ r1, key l a j < dst a b := fun j hj => by
    obtain ⟨x, hx, _, hlt⟩ := due_mem h1 hj
    rw [key_of hx]; exact hlt
  have d12 : AllD (InL l) (r1 ++ r2) := fun j hj => by
    rcases List.mem_append.1 hj with hj | hj
    · exact due_in h1 j hj
    · exact due_in h2 j hj
  refine srt_uniq (gD_sw ha hl) (due_in h3) d12 h3.srt (Srt.app h1.srt ?_ fun p hp q hq => ?_) fun x hx => ?_
  · rw [Srt, List.pairwise_iff_getElem]
    intro i j hi hj hij
    have h4 := srt_get h2.srt hi hj hij
    have d1 := due_in h2 _ (List.getElem_mem hi)
    have d2 := due_in h2 _ (List.getElem_mem hj)
    rw [gD_lt hb hl d2 d1, decide_eq_false_iff_not] at h4
    rw [gD_lt ha hl d2 d1, decide_eq_false_iff_not, (key2 _ (List.getElem_mem hi)).1, (key2 _ (List.getElem_mem hj)).1]
    omega
  · rw [gD_lt ha hl (due_in h2 q hq) (due_in h1 p hp), decide_eq_false_iff_not, (key2 q hq).1]
    have := key1 p hp
    have := (key2 q hq).2
    omega
  · have e : ∀ m : List Int, AllD (InL l) m → m.filter (eqv (gD l a) x) = m.filter (fun y => key l a y == key l a x) := fun m hm => List.filter_congr fun y hy => gD_eqv ha hl hx (hm y hy)
    rw [e r3 (due_in h3), e _ d12, List.filter_append, due_filter ha hl h3, due_filter ha hl h1]
    generalize key l a x = κ
    have e2 : r2.filter (fun y => key l a y == κ) = r2.filter (fun y => key l b y == κ - dst a b) := List.filter_congr fun y hy => by
      rw [(key2 y hy).1, Bool.eq_iff_iff, beq_iff_eq, beq_iff_eq]; omega
    rw [e2, due_filter hb hl h2]
    by_cases hk : κ < dst a b
    · have n2 : idxs (fun y => inq b (dst b c) y && (dst b y.Angle == κ - dst a b)) l 0 = [] := idxs_none fun y hy => by
        have py := (hl y hy).1
        rw [Bool.and_eq_false_iff]
        right
        rw [beq_eq_false_iff_ne]
        unfold dst at *
        omega
      rw [n2, List.append_nil]
      refine idxs_congr fun y hy => ?_
      have py := (hl y hy).1
      rw [Bool.eq_iff_iff]
      simp only [Bool.and_eq_true, inq, decide_eq_true_eq, beq_iff_eq]
      unfold dst at *
      omega
    · have n1 : idxs (fun y => inq a (dst a b) y && (dst a y.Angle == κ)) l 0 = [] := idxs_none fun y hy => by
        rw [Bool.and_eq_false_iff]
        by_cases h5 : dst a y.Angle = κ
        · left
          unfold inq
          rw [decide_eq_false_iff_not]
          omega
        · right
          rw [beq_eq_false_iff_ne]; exact h5
      rw [n1, List.nil_append]
      refine idxs_congr fun y hy => ?_
      have py := (hl y hy).1
      rw [Bool.eq_iff_iff]
      simp only [Bool.and_eq_true, inq, decide_eq_true_eq, beq_iff_eq]
      unfold dst at *
      omega

theorem plain_EventsParts (x0 : List SEvent) (x1 : Int) (x2 : Int) (x3 : Int) (_ : (wfL wf_SEvent) x0) (_ : (fun n => (Lit.int .i64 n).wf = true) x1) (_ : (fun n => (Lit.int .i64 n).wf = true) x2) (_ : (fun n => (Lit.int .i64 n).wf = true) x3) : magnetolaw23_EventsParts x0 x1 x2 x3 = some true := by
  unfold magnetolaw23_EventsParts
  rw [awake23]
  simp only [Option.bind_some, Bool.not_true, cond_false]
  cases hg : decide ((x0.length : Int) > 100)
  · simp only [cond_false]
    cases hbad : badE x0
    · obtain ⟨hn, hl⟩ := badE_false hbad
      have hn2 : x0.length ≤ 100 := by have := of_decide_eq_false hg; omega
      cases hab : (angB x1 && angB x2)
      · rw [due_range hbad hab]
        simp only [Option.bind_some]
        cases hbc : (angB x2 && angB x3)
        · rw [due_range hbad hbc]; rfl
        · rw [Bool.and_eq_true] at hbc
          obtain ⟨r, h1, _⟩ := due_ok hbc.1 hbc.2 hbad
          rw [h1]; rfl
      · rw [Bool.and_eq_true] at hab
        obtain ⟨r1, e1, h1⟩ := due_ok hab.1 hab.2 hbad
        rw [e1]
        simp only [Option.bind_some]
        cases hbc : (angB x2 && angB x3)
        · rw [due_range hbad hbc]; rfl
        · rw [Bool.and_eq_true] at hbc
          obtain ⟨r2, e2, h2⟩ := due_ok hbc.1 hbc.2 hbad
          obtain ⟨r3, e3, h3⟩ := due_ok hab.1 hbc.2 hbad
          obtain ⟨r5, e5, h5⟩ := due_ok hab.2 hab.1 hbad
          have l1 := due_len h1
          have l2 := due_len h2
          have l3 := due_len h3
          have l5 := due_len h5
          have hra := angB_iff.1 hab.1
          have hrb := angB_iff.1 hab.2
          have hrc := angB_iff.1 hbc.2
          rw [e2]
          simp only [Option.bind_some, bne_self_eq_false, Bool.or_self, cond_false]
          rw [e3]
          simp only [Option.bind_some]
          rw [dist_in hab.1 hab.2, dist_in hab.2 hbc.2]
          simp only [Option.bind_some, bne_self_eq_false, cond_false]
          have hd1 : 0 ≤ dst x1 x2 ∧ dst x1 x2 < 46080 := by unfold dst; omega
          have hd2 : 0 ≤ dst x2 x3 ∧ dst x2 x3 < 46080 := by unfold dst; omega
          rw [w64_of (n := dst x1 x2 + dst x2 x3) (by omega) (by omega), concatI_eq _ _ (by omega)]
          simp only [Option.bind_some]
          have hfirst : (Option.bind (bif decide (dst x1 x2 + dst x2 x3 < 46080) then (Option.bind (Option.bind (slices_Equal_sint r3 (r1 ++ r2)) fun v5 => some (!v5)) fun b3 => some b3) else (some false)) : (Bool → Option Bool) → Option Bool) = fun k => k false := by
            funext k
            by_cases hD : dst x1 x2 + dst x2 x3 < 46080
            · rw [decide_eq_true hD, parts_eq hab.1 hab.2 hbc.2 hl h1 h2 h3 hD, equalI_self _ (by rw [List.length_append]; omega)]
              rfl
            · rw [decide_eq_false hD]; rfl
          rw [hfirst]
          dsimp only
          simp only [cond_false]
          by_cases hE : x1 = x2
          · subst hE
            rw [show (x1 == x1) = true by simp]
            simp only [cond_true]
            have : idxs (inq x1 (dst x1 x1)) x0 0 = [] := idxs_none fun y hy => by
              unfold inq
              rw [decide_eq_false_iff_not]
              unfold dst
              omega
            have hlen := h1.sta.len
            rw [this] at hlen
            rw [hlen]; rfl
          · rw [show (x1 == x2) = false by simpa using hE]
            simp only [cond_false]
            rw [e5]
            simp only [Option.bind_some]
            rw [concatI_eq _ _ (by omega)]
            simp only [Option.bind_some]
            unfold slices_Sort_sint
            rw [sortIM_ok (by rw [List.length_append]; omega)]
            simp only [Option.bind_some]
            have hperm : (r1 ++ r5).Perm (idxs (fun _ => true) x0 0) := by
              have hn5 : idxs (inq x2 (dst x2 x1)) x0 0 = idxs (fun y => !inq x1 (dst x1 x2) y) x0 0 := idxs_congr fun y hy => by
                have py := (hl y hy).1
                rw [Bool.eq_iff_iff, Bool.not_eq_true']
                unfold inq
                rw [decide_eq_true_eq, decide_eq_false_iff_not]
                unfold dst
                omega
              have p5 := h5.sta.perm
              rw [hn5] at p5
              exact (List.Perm.append h1.sta.perm p5).trans (idxs_split _ x0 0)
            rw [sortI_of hperm (idxs_true_asc x0), idxs_true_len]
            simp only [bne_self_eq_false, Bool.or_self, cond_false]
            obtain ⟨s, k1, _⟩ := rangeN_inv (R := Bool) x0.length (by omega) (magnetolaw23_EventsParts_b1 (idxs (fun _ => true) x0 0)) (fun _ _ => True) () trivial (fun j hj s _ => ⟨(), by
              unfold magnetolaw23_EventsParts_b1
              rw [getI_nat, idxs_true_get x0 0 j hj, Nat.zero_add]
              simp, trivial⟩)
            rw [k1]
            rfl
    · rw [due_bad hbad]
      simp only [Option.bind_some]
      rw [due_bad hbad]
      rfl
  · rfl
end Go.Pv

/- The reference's Plan; the examples. Plain Lean. -/
import Derived.Test.YtmocoljbdiphoaaPlan
set_option linter.unusedSimpArgs false
namespace Go.Pv
open Go

theorem equalE_self (l : List SEvent) (h : l.length ≤ 9223372036854775807) : slices_Equal_sEvent l l = some true := by
  unfold slices_Equal_sEvent
  simp only [bne_self_eq_false, cond_false]
  obtain ⟨s, h1, _⟩ := rangeN_inv (R := Bool) l.length h (slices_Equal_sEvent_b1 l l) (fun _ _ => True) () trivial (fun j hj s _ => ⟨(), by
    unfold slices_Equal_sEvent_b1
    rw [getI_get _ _ hj]
    simp, trivial⟩)
  rw [h1]; rfl

theorem srt_len (l : List SEvent) : (srt l).length = l.length := (srt_perm l).length_eq

theorem planV_len (e : SEngine) (l : List SFire) (t : Int) (hl : l.length ≤ 100) : (planV e l t).1.length ≤ 1000 := by
  unfold planV
  cases decide (engP e) <;> cases badF e l <;> cases tickB t <;> cases dupB l <;> cases l.any (long t) <;> simp only [Bool.not_true, Bool.not_false, cond_true, cond_false] <;> first | simp | skip
  rw [srt_len]
  have := flat_len e t l
  omega

theorem awake23 : magnetolaw23_awake = some true := by
  unfold magnetolaw23_awake magnetolaw23_four
  simp only [Option.bind_some]
  rw [Center_eq, plan_eq _ _ _ (by simp)]
  have h1 : decide (engP ⟨[1, 3, 4, 2], 0⟩) = true := by decide
  have h2 : decide ((4 : Int) ∈ (⟨[1, 3, 4, 2], 0⟩ : SEngine).Order) = true := by decide
  have h3 : cen ⟨[1, 3, 4, 2], 0⟩ 4 = 23040 := by decide
  have h4 : planV ⟨[1, 3, 4, 2], 0⟩ [⟨3, 640, 3000, 0, 0, 0, 0⟩] 20000 = ([⟨7424, 1, 3, 0⟩, ⟨10880, 2, 3, 0⟩], 0) := by
    unfold planV
    rw [h1]
    have b1 : badF ⟨[1, 3, 4, 2], 0⟩ [⟨3, 640, 3000, 0, 0, 0, 0⟩] = false := by decide
    have b2 : tickB 20000 = true := by decide
    have b3 : dupB [⟨3, 640, 3000, 0, 0, 0, 0⟩] = false := by decide
    have b4 : ([⟨3, 640, 3000, 0, 0, 0, 0⟩] : List SFire).any (long 20000) = false := by decide
    have b5 : ([⟨3, 640, 3000, 0, 0, 0, 0⟩] : List SFire).flatMap (evs ⟨[1, 3, 4, 2], 0⟩ 20000) = [⟨10880, 2, 3, 0⟩, ⟨7424, 1, 3, 0⟩] := by rfl
    rw [b1, b2, b3, b4, b5]
    have b6 : srt [⟨10880, 2, 3, 0⟩, ⟨7424, 1, 3, 0⟩] = [⟨7424, 1, 3, 0⟩, ⟨10880, 2, 3, 0⟩] := uniqE (srt_asc _) (by
      refine List.pairwise_cons.2 ⟨fun a ha => ?_, List.pairwise_cons.2 ⟨fun a ha => by simp at ha, .nil⟩⟩
      simp only [List.mem_singleton] at ha
      subst ha; decide) ((srt_perm _).trans (List.Perm.swap _ _ _))
    rw [b6]; rfl
  rw [h1, h2, h3, h4]
  simp only [Option.bind_some, Bool.not_true, cond_false]
  rw [equalE_self _ (by simp)]
  rfl

/-! The reference's events. -/
theorem revents_eq (e : SEngine) (f : SFire) (t : Int) (he : engP e) (hf : fireP e f) (ht : 4000 ≤ t) : ∃ r, magnetoref23_Events e f t = some r ∧ r.Perm (evs e t f) := by
  obtain ⟨⟨d0, d1⟩, ⟨i0, i1⟩, ⟨g0, g1⟩, ⟨x0, x1⟩, ⟨s0, s1⟩, n0, n1⟩ := fire_ranges hf
  obtain ⟨c0, c1⟩ := cen_range e f.Cylinder
  have td := mn_range (trn_range d0 d1 ht).1
  have ti := trn_range i0 i1 ht
  have tg := trn_range g0 g1 ht
  have tx := trn_range x0 x1 ht
  unfold magnetoref23_Events
  rw [rcenter_eq e _ he hf.1, rturn_eq d0 d1 ht, rturn_eq i0 i1 ht, rturn_eq g0 g1 ht, rturn_eq x0 x1 ht, rpulses_eq]
  simp only [Option.bind_some]
  have hmn : (bif decide (trn f.Dwell t > 23040) then some 23040 else some (trn f.Dwell t)) = some (mn (trn f.Dwell t)) := by
    unfold mn minI
    by_cases h : trn f.Dwell t > 23040
    · rw [decide_eq_true h, if_pos (by omega)]; rfl
    · rw [decide_eq_false h, if_neg (by omega)]; rfl
  rw [hmn]
  simp only [Option.bind_some]
  unfold evs offs
  simp only [List.map_append, List.map_cons, List.map_nil, evF]
  generalize hC : cen e f.Cylinder = C at *
  generalize hD : mn (trn f.Dwell t) = D at *
  generalize hI : trn f.Inject t = A at *
  generalize hG : trn f.Gap t = G at *
  generalize hX : trn f.Extra t = B at *
  rw [w64_of (n := C - f.Spark) (by omega) (by omega), w64_of (n := C - f.Spark - D) (by omega) (by omega), w64_of (n := C - f.End) (by omega) (by omega), w64_of (n := C - f.End - A) (by omega) (by omega), w64_of (n := C - f.End + G) (by omega) (by omega), w64_of (n := C - f.End + G + B) (by omega) (by omega)]
  simp only [around_eq, Option.bind_some]
  have q1 : C + (-f.Spark - D) = C - f.Spark - D := by omega
  have q2 : C + -f.Spark = C - f.Spark := by omega
  have q3 : C + (-f.End - A) = C - f.End - A := by omega
  have q4 : C + (-f.End + G + B) = C - f.End + G + B := by omega
  have q5 : C + (-f.End + G) = C - f.End + G := by omega
  have q6 : C + -f.End = C - f.End := by omega
  rw [q1, q2]
  rcases pul_cases f with hp | hp | hp
  · rw [hp]
    simp only [show ((0 : Int) == 0) = true from rfl, show decide ((0 : Int) > 0) = false from rfl, show decide ((0 : Int) > 1) = false from rfl, cond_true, cond_false, List.map_nil, List.append_nil]
    exact ⟨_, rfl, List.Perm.swap _ _ _⟩
  · rw [hp]
    simp only [show ((1 : Int) == 0) = false from rfl, show ((1 : Int) == 1) = true from rfl, show decide ((1 : Int) > 0) = true from rfl, show decide ((1 : Int) > 1) = false from rfl, cond_true, cond_false, List.map_nil, List.append_nil, List.map_cons, evF, hC]
    rw [appendM_ok _ _ (by simp)]
    simp only [Option.bind_some]
    rw [appendM_ok _ _ (by simp)]
    simp only [Option.bind_some, List.cons_append, List.nil_append, q3, q4, q5, q6]
    exact ⟨_, rfl, (List.Perm.swap _ _ _).trans (List.Perm.cons _ (List.Perm.cons _ (List.Perm.swap _ _ _)))⟩
  · rw [hp]
    simp only [show ((2 : Int) == 0) = false from rfl, show ((2 : Int) == 1) = false from rfl, show decide ((2 : Int) > 0) = true from rfl, show decide ((2 : Int) > 1) = true from rfl, cond_true, cond_false, List.map_nil, List.append_nil, List.map_cons, evF, hC]
    rw [appendM_ok _ _ (by simp)]
    simp only [Option.bind_some]
    rw [appendM_ok _ _ (by simp)]
    simp only [Option.bind_some]
    rw [appendM_ok _ _ (by simp)]
    simp only [Option.bind_some]
    rw [appendM_ok _ _ (by simp)]
    simp only [Option.bind_some, List.cons_append, List.nil_append, q3, q4, q5, q6]
    exact ⟨_, rfl, (List.Perm.swap _ _ _).trans (List.Perm.cons _ (List.Perm.cons _ (List.Perm.swap _ _ _)))⟩

/-! Insertion. -/
theorem before_eq (a b : SEvent) : magnetoref23_before a b = some (ltE a b) := by
  unfold magnetoref23_before
  rw [bsome, bsome, bsome, Option.some.injEq, Bool.eq_iff_iff]
  unfold ltE
  by_cases h1 : a.Angle = b.Angle
  · by_cases h2 : a.Cylinder = b.Cylinder
    · by_cases h3 : a.Kind = b.Kind
      · simp [h1, h2, h3]
      · simp [h1, h2, h3]
    · simp [h1, h2]
  · simp [h1]

theorem ins_loop (l : List SEvent) (x : SEvent) (hl : l.length ≤ 1000000) : ∀ i, i ≤ l.length → (∀ j (h : j < l.length), i ≤ j → ltE x l[j] = true) →
    ∃ k, k ≤ i ∧ loopM (magnetoref23_insert_b1 l x) (i : Int) = some (.inl (k : Int)) ∧ (∀ j (h : j < l.length), k ≤ j → ltE x l[j] = true) ∧ (∀ (h : k - 1 < l.length), 0 < k → ltE x l[k - 1] = false)
  | 0, _, hj => ⟨0, Nat.le_refl _, loopM_out rfl, hj, fun _ h => by omega⟩
  | i + 1, hi, hj => by
    have hb : magnetoref23_insert_b1 l x ((i + 1 : Nat) : Int) = some (bif ltE x (l[i]'(by omega)) then .inl (i : Int) else .inr (.inl ((i + 1 : Nat) : Int))) := by
      unfold magnetoref23_insert_b1
      rw [show decide (((i + 1 : Nat) : Int) > 0) = true from decide_eq_true (by omega), w64_of (n := ((i + 1 : Nat) : Int) - 1) (by omega) (by omega), show ((i + 1 : Nat) : Int) - 1 = (i : Int) by omega, getI_get _ _ (by omega)]
      simp only [cond_true, Option.bind_some, before_eq]
      cases ltE x (l[i]'(by omega)) <;> rfl
    cases hc : ltE x (l[i]'(by omega))
    · rw [hc] at hb
      exact ⟨i + 1, Nat.le_refl _, loopM_out hb, hj, fun _ _ => hc⟩
    · rw [hc] at hb
      rw [loopM_next hb]
      obtain ⟨k, h1, h2, h3, h4⟩ := ins_loop l x hl i (by omega) (fun j h hij => by
        by_cases e : j = i
        · subst e; exact hc
        · exact hj j h (by omega))
      exact ⟨k, by omega, h2, h3, h4⟩

theorem insert_eq (l : List SEvent) (x : SEvent) (hl : l.length ≤ 1000000) (ha : Asc l) : ∃ r, magnetoref23_insert l x = some r ∧ Asc r ∧ r.Perm (x :: l) := by
  obtain ⟨k, h1, h2, h3, h4⟩ := ins_loop l x hl l.length (Nat.le_refl _) (fun j h hij => by omega)
  unfold magnetoref23_insert
  rw [h2]
  have s1 : sliceM l 0 (k : Int) = some (l.take k) := by
    unfold sliceM
    rw [if_pos ⟨by omega, by omega, by omega⟩]; simp
  have s2 : sliceM l (k : Int) (l.length : Int) = some (l.drop k) := by
    unfold sliceM
    rw [if_pos ⟨by omega, by omega, by omega⟩]
    simp only [Int.toNat_natCast]
    rw [List.take_of_length_le (by rw [List.length_drop]; omega)]
  simp only [Option.bind_some]
  rw [s1]
  simp only [Option.bind_some]
  rw [appendM_ok _ _ (by simp only [List.length_nil, List.length_take]; omega)]
  simp only [Option.bind_some]
  rw [appendM_ok _ _ (by simp only [List.nil_append, List.length_take, List.length_singleton]; omega)]
  simp only [Option.bind_some]
  rw [s2]
  simp only [Option.bind_some]
  rw [appendM_ok _ _ (by simp only [List.nil_append, List.length_append, List.length_drop, List.length_take, List.length_singleton]; omega)]
  simp only [Option.bind_some, List.nil_append]
  refine ⟨_, rfl, ?_, ?_⟩
  · show (l.take k ++ [x] ++ l.drop k).Pairwise _
    rw [List.append_assoc, List.pairwise_append]
    have hx : ∀ b ∈ l.drop k, ltE b x = false := fun b hb => by
      obtain ⟨j, hj, rfl⟩ := List.mem_iff_getElem.1 hb
      rw [List.getElem_drop]
      rw [List.length_drop] at hj
      exact ltE_asym (h3 _ (by omega) (by omega))
    have ha' := ha
    unfold Asc at ha'
    rw [List.pairwise_iff_getElem] at ha'
    have hy : ∀ a ∈ l.take k, ltE x a = false := fun a hm => by
      obtain ⟨j, hj, rfl⟩ := List.mem_iff_getElem.1 hm
      rw [List.getElem_take]
      rw [List.length_take] at hj
      have h5 := h4 (by omega) (by omega)
      by_cases e : j = k - 1
      · subst e; exact h5
      · exact leE_trans h5 (ha' j (k - 1) (by omega) (by omega) (by omega))
    refine ⟨List.Pairwise.sublist (List.take_sublist _ _) ha, ?_, fun a hm b hb => ?_⟩
    · rw [List.singleton_append, List.pairwise_cons]
      exact ⟨hx, List.Pairwise.sublist (List.drop_sublist _ _) ha⟩
    · rw [List.singleton_append, List.mem_cons] at hb
      rcases hb with rfl | hb
      · exact hy a hm
      · exact leE_trans (hx b hb) (hy a hm)
  · rw [List.append_assoc]
    refine List.perm_append_comm.trans ?_
    rw [List.append_assoc, List.singleton_append]
    refine List.Perm.cons x (List.perm_append_comm.trans ?_)
    rw [List.take_append_drop]

theorem fold_ins (v5 : List SEvent) (out : List SEvent) (hl : out.length + v5.length ≤ 10000) (ha : Asc out) : ∃ r, loopM (magnetoref23_Plan_b5 v5) (out, 0) = some (.inl (r, (v5.length : Int))) ∧ Asc r ∧ r.Perm (out ++ v5) := by
  obtain ⟨b, h1, r, h2, h3, h4⟩ := loopM_inv (mb := magnetoref23_Plan_b5 v5) (fun k s => s.2 = (k : Int) ∧ Asc s.1 ∧ s.1.Perm (out ++ v5.take k)) (fun b => ∃ r, b = .inl (r, (v5.length : Int)) ∧ Asc r ∧ r.Perm (out ++ v5)) v5.length 0 (out, 0) ⟨rfl, ha, by simp⟩ (fun j _ hj s hs => by
    obtain ⟨s1, s2⟩ := s
    obtain ⟨e1, e2, e3⟩ := hs
    simp only at e1 e2 e3
    subst e1
    have hj : j < v5.length := by omega
    have hlen := e3.length_eq
    rw [List.length_append, List.length_take] at hlen
    obtain ⟨r, h1, h2, h3⟩ := insert_eq s1 v5[j] (by omega) e2
    unfold magnetoref23_Plan_b5
    simp only [show decide ((j : Int) < (v5.length : Int)) = true by simp; omega, cond_true, getI_get _ _ hj, Option.bind_some, h1, w64_of (n := (j : Int) + 1) (by omega) (by omega)]
    refine ⟨_, rfl, rfl, h2, ?_⟩
    simp only
    rw [List.take_succ_eq_append_getElem hj, ← List.append_assoc]
    exact h3.trans ((List.Perm.cons _ e3).trans (List.perm_append_singleton _ _).symm)) (fun s hs => by
    obtain ⟨s1, s2⟩ := s
    obtain ⟨e1, e2, e3⟩ := hs
    simp only [Nat.zero_add] at e1 e2 e3
    subst e1
    unfold magnetoref23_Plan_b5
    simp only [show decide ((v5.length : Int) < (v5.length : Int)) = false by simp, cond_false]
    exact ⟨_, rfl, _, rfl, e2, by rwa [List.take_length] at e3⟩)
  exact ⟨r, by rw [h1, h2], h3, h4⟩

theorem tooB (t : Int) (f : SFire) (e : SEngine) (hf : fireP e f) (ht : 4000 ≤ t) (k : Bool → Option ((List SEvent × Int) ⊕ ((List SEvent × Int) ⊕ (List SEvent × Int)))) :
    (Option.bind (magnetoref23_Turn f.Inject t) fun v2 => Option.bind (bif (decide (v2 > 23040)) then (some true) else (Option.bind (magnetoref23_Turn f.Gap t) fun v3 => some (decide (v3 > 23040)))) fun b2 => Option.bind (bif b2 then (some true) else (Option.bind (magnetoref23_Turn f.Extra t) fun v4 => some (decide (v4 > 23040)))) k) = k (long t f) := by
  obtain ⟨_, ⟨i0, i1⟩, ⟨g0, g1⟩, ⟨x0, x1⟩, _⟩ := fire_ranges hf
  rw [rturn_eq i0 i1 ht, rturn_eq g0 g1 ht, rturn_eq x0 x1 ht]
  unfold long
  simp only [Option.bind_some]
  cases decide (trn f.Inject t > 23040) <;> cases decide (trn f.Gap t > 23040) <;> rfl

theorem any_range' {α : Type} (l : List α) (p : α → Bool) : (List.range' 0 l.length).any (fun i => (l[i]?).any p) = l.any p := by
  rw [Bool.eq_iff_iff, List.any_eq_true, List.any_eq_true]
  constructor
  · rintro ⟨i, hi, h⟩
    rw [List.mem_range'_1] at hi
    rw [List.getElem?_eq_getElem (by omega)] at h
    exact ⟨_, List.getElem_mem (by omega), h⟩
  · rintro ⟨x, hx, h⟩
    obtain ⟨i, hi, rfl⟩ := List.mem_iff_getElem.1 hx
    exact ⟨i, by rw [List.mem_range'_1]; omega, by rw [List.getElem?_eq_getElem hi]; exact h⟩

theorem rplan_eq (e : SEngine) (l : List SFire) (t : Int) (hl : l.length ≤ 100) (he : engP e) : magnetoref23_Plan e l t = some (planV e l t) := by
  unfold magnetoref23_Plan planV
  rw [decide_eq_true he]
  simp only [Bool.not_true, cond_false]
  have k1 := loopM_allL (mb := magnetoref23_Plan_b1 e l) (fun i => (i : Int)) (p := fun f => decide (fireP e f)) (b0 := .inl (l.length : Int)) (b1 := .inr ([], 1)) l (by
    unfold magnetoref23_Plan_b1
    rw [show decide ((l.length : Int) < (l.length : Int)) = false by simp]; rfl) (fun j y hy => by
    have hj := (List.getElem?_eq_some_iff.1 hy).1
    unfold magnetoref23_Plan_b1
    simp only [show decide ((j : Int) < (l.length : Int)) = true by simp; omega, cond_true, getI_nat, hy, Option.bind_some, rfire_eq e y he, w64_of (n := (j : Int) + 1) (by omega) (by omega)]
    cases decide (fireP e y) <;> rfl)
  simp only [show ((0 : Nat) : Int) = 0 from rfl] at k1
  rw [k1]
  have hb : badF e l = !l.all fun f => decide (fireP e f) := by
    unfold badF; rw [List.any_eq_not_all_not]; simp
  rw [hb]
  cases hall : l.all fun f => decide (fireP e f)
  · rfl
  · have hf : ∀ x ∈ l, fireP e x := fun x hx => by
      rw [List.all_eq_true] at hall
      simpa using hall x hx
    simp only [cond_true, Bool.not_true, cond_false, Option.bind_some]
    have htb : (decide (t < 4000) || decide (t > 1000000)) = !tickB t := by
      unfold tickB; rw [Bool.eq_iff_iff]; simp only [Bool.or_eq_true, Bool.not_eq_true', Bool.and_eq_false_iff, decide_eq_true_eq, decide_eq_false_iff_not]; omega
    rw [htb]
    cases ht : tickB t
    · rfl
    · have ht1 : 4000 ≤ t := by unfold tickB at ht; simp at ht; omega
      simp only [Bool.not_true, cond_false]
      have k2 := loopM_all (mb := magnetoref23_Plan_b2 l) (fun i => (i : Int)) (p := fun i => !dupAt l i) (b0 := .inl (l.length : Int)) (b1 := .inr ([], 8)) l.length (by
        unfold magnetoref23_Plan_b2
        rw [show decide ((l.length : Int) < (l.length : Int)) = false by simp]; rfl) (fun j hj => by
        have hlt : (l.take j).length = j := by rw [List.length_take]; omega
        have k3 := loopM_allL (mb := magnetoref23_Plan_b3 l (j : Int)) (fun i => (i : Int)) (p := fun y => !(y.Cylinder == l[j].Cylinder)) (b0 := .inl (j : Int)) (b1 := .inr ([], 8)) (l.take j) (by
          rw [hlt]
          unfold magnetoref23_Plan_b3
          rw [show decide ((j : Int) < (j : Int)) = false by simp]; rfl) (fun i y hy => by
          have hi : i < j := by have := (List.getElem?_eq_some_iff.1 hy).1; omega
          have hy2 : l[i]? = some y := by rw [← hy, List.getElem?_take, if_pos hi]
          unfold magnetoref23_Plan_b3
          simp only [show decide ((i : Int) < (j : Int)) = true by simp; omega, cond_true, getI_nat, hy2, List.getElem?_eq_getElem hj, Option.bind_some, w64_of (n := (i : Int) + 1) (by omega) (by omega), show (l[j].Cylinder == y.Cylinder) = (y.Cylinder == l[j].Cylinder) from BEq.comm]
          cases y.Cylinder == l[j].Cylinder <;> rfl)
        simp only [show ((0 : Nat) : Int) = 0 from rfl] at k3
        rw [all_not] at k3
        unfold magnetoref23_Plan_b2 dupAt
        simp only [show decide ((j : Int) < (l.length : Int)) = true by simp; omega, cond_true, k3, List.getElem?_eq_getElem hj, Option.bind_some, w64_of (n := (j : Int) + 1) (by omega) (by omega)]
        cases (l.take j).any fun y => y.Cylinder == l[j].Cylinder <;> rfl)
      simp only [show ((0 : Nat) : Int) = 0 from rfl] at k2
      rw [all_not, show (List.range' 0 l.length).any (dupAt l) = dupB l from rfl] at k2
      rw [k2]
      cases dupB l
      · simp only [Bool.not_false, cond_true, cond_false, Option.bind_some]
        have k4 := loopM_invE (mb := magnetoref23_Plan_b4 e l t) (fun k s => s.2 = (k : Int) ∧ Asc s.1 ∧ s.1.Perm ((l.take k).flatMap (evs e t))) (fun b => b = .inl (srt (l.flatMap (evs e t)), (l.length : Int))) (bad := fun i => (l[i]?).any (long t)) (b1 := .inr ([], 2)) l.length 0 ([], 0) ⟨rfl, .nil, by simp⟩ (fun j _ hj s hs => by
          obtain ⟨s1, s2⟩ := s
          obtain ⟨e1, e2, e3⟩ := hs
          simp only at e1 e2 e3
          subst e1
          have hj : j < l.length := by omega
          have hfj := hf _ (List.getElem_mem hj)
          have hlen := e3.length_eq
          have hfl := flat_len e t (l.take j)
          rw [List.length_take] at hfl
          rw [List.getElem?_eq_getElem hj]
          unfold magnetoref23_Plan_b4
          simp only [show decide ((j : Int) < (l.length : Int)) = true by simp; omega, cond_true, getI_get _ _ hj, Option.bind_some]
          rw [tooB t l[j] e hfj ht1]
          cases hlong : long t l[j]
          · obtain ⟨r, h1, h2⟩ := revents_eq e l[j] t he hfj ht1
            have hrl := h2.length_eq
            have := evs_len e t l[j]
            obtain ⟨r2, h3, h4, h5⟩ := fold_ins r s1 (by omega) e2
            refine .inr ⟨hlong, ?_⟩
            simp only [cond_false, h1, h3, Option.bind_some, w64_of (n := (j : Int) + 1) (by omega) (by omega)]
            refine ⟨_, rfl, rfl, h4, ?_⟩
            simp only
            rw [List.take_succ_eq_append_getElem hj, List.flatMap_append, List.flatMap_singleton]
            exact h5.trans (List.Perm.append e3 h2)
          · exact .inl ⟨hlong, rfl⟩) (fun s hs => by
          obtain ⟨s1, s2⟩ := s
          obtain ⟨e1, e2, e3⟩ := hs
          simp only [Nat.zero_add] at e1 e2 e3
          subst e1
          rw [List.take_length] at e3
          unfold magnetoref23_Plan_b4
          simp only [show decide ((l.length : Int) < (l.length : Int)) = false by simp, cond_false]
          refine ⟨_, rfl, ?_⟩
          rw [uniqE e2 (srt_asc _) (e3.trans (srt_perm _).symm)])
        rw [any_range'] at k4
        rcases k4 with ⟨h1, h2⟩ | ⟨h1, b, h2, rfl⟩
        · rw [h1, h2]; rfl
        · rw [h1, h2]; rfl
      · rfl
end Go.Pv

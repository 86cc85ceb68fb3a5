/- Plan and its reference, as they compute. Plain Lean. -/
import Derived.Test.YtmocoljbdiphoaaBase
set_option linter.unusedSimpArgs false
namespace Go.Pv
open Go

/-! Loops that may leave early. -/
theorem stepsN_any {R : Type} (f : Int → Unit → Option (Fl Unit R)) (p : Nat → Bool) (r : R) : ∀ (k i : Nat), (∀ j, i ≤ j → j < i + k → f (j : Int) () = some (bif p j then .ret r else .next ())) → stepsN f k (i : Int) () = some (bif (List.range' i k).any p then .inr r else .inl ())
  | 0, i, _ => rfl
  | k + 1, i, h => by
    rw [List.range'_succ, List.any_cons]
    simp only [stepsN, h i (Nat.le_refl _) (by omega), Option.bind_some]
    cases hp : p i
    · exact stepsN_any f p r k (i + 1) fun j a b => h j (by omega) (by omega)
    · rfl
theorem rangeN_any {R : Type} (n : Nat) (hn : n ≤ 9223372036854775807) (f : Int → Unit → Option (Fl Unit R)) (p : Nat → Bool) (r : R) (h : ∀ j, j < n → f (j : Int) () = some (bif p j then .ret r else .next ())) : rangeN (n : Int) f () = some (bif (List.range' 0 n).any p then .inr r else .inl ()) := by
  rw [rangeN_steps _ hn]
  exact stepsN_any f p r n 0 fun j _ b => h j (by omega)

theorem all_not {α : Type} (l : List α) (p : α → Bool) : (l.all fun x => !p x) = !l.any p := by
  induction l with
  | nil => rfl
  | cons x l ih => rw [List.all_cons, List.any_cons, ih]; cases p x <;> rfl

theorem loopM_invE {S B : Type} {mb : S → Option (S ⊕ B)} (I : Nat → S → Prop) (J : B → Prop) {bad : Nat → Bool} {b1 : B} : ∀ (n k : Nat) (s : S), I k s →
    (∀ j, k ≤ j → j < k + n → ∀ s, I j s → (bad j = true ∧ mb s = some (.inr b1)) ∨ (bad j = false ∧ ∃ s', mb s = some (.inl s') ∧ I (j + 1) s')) →
    (∀ s, I (k + n) s → ∃ b, mb s = some (.inr b) ∧ J b) →
    ((List.range' k n).any bad = true ∧ loopM mb s = some b1) ∨ ((List.range' k n).any bad = false ∧ ∃ b, loopM mb s = some b ∧ J b)
  | 0, k, s, h, _, e => by
    obtain ⟨b, h1, h2⟩ := e s h
    exact .inr ⟨rfl, b, loopM_out h1, h2⟩
  | n + 1, k, s, h, st, e => by
    rw [List.range'_succ, List.any_cons]
    rcases st k (Nat.le_refl _) (by omega) s h with ⟨hb, h1⟩ | ⟨hb, s', h1, h2⟩
    · exact .inl ⟨by rw [hb]; rfl, loopM_out h1⟩
    · rw [hb, loopM_next h1, Bool.false_or]
      exact loopM_invE I J n (k + 1) s' h2 (fun j a b => st j (by omega) (by omega)) (by rw [show k + 1 + n = k + (n + 1) by omega]; exact e)

/-! Angles. -/
theorem tmod_cases (a : Int) : (0 ≤ a ∧ a.tmod 46080 = a % 46080) ∨ (a < 0 ∧ a.tmod 46080 = -((-a) % 46080)) := by
  rcases Int.lt_or_le a 0 with h | h
  · refine .inr ⟨h, ?_⟩
    have : a.tmod 46080 = (- -a).tmod 46080 := by rw [Int.neg_neg]
    rw [this, Int.neg_tmod, Int.tmod_eq_emod_of_nonneg (by omega)]
  · exact .inl ⟨h, Int.tmod_eq_emod_of_nonneg h⟩

theorem mod_eq (a : Int) (h1 : -1000000000000000 ≤ a) (h2 : a ≤ 1000000000000000) : arith_Mod a 46080 = some (a % 46080) := by
  unfold arith_Mod remM
  simp only [show ((46080 : Int) == 0) = false from rfl, show ((46080 : Int) == -1) = false from rfl, Bool.or_self, cond_false, show ¬ (46080 : Int) = 0 from by decide, if_false, Option.bind_some, show decide ((46080 : Int) < 0) = false from rfl]
  rcases tmod_cases a with ⟨h, e⟩ | ⟨h, e⟩
  · rw [e]
    have : decide (a % 46080 < 0) = false := by simp; omega
    rw [this]
    simp
  · rw [e]
    rcases Int.lt_or_eq_of_le (show 0 ≤ (-a) % 46080 by omega) with hq | hq
    · have h3 : decide (-(-a % 46080) < 0) = true := by simp; omega
      have h4 : (-(-a % 46080) != 0) = true := by simp; omega
      rw [h3, h4]
      simp only [show (true == false) = false from rfl, Bool.not_false, Bool.and_self, cond_true]
      rw [w64_of (by omega) (by omega)]
      congr 1; omega
    · rw [← hq]
      simp only [show ((-0 : Int) != 0) = false from rfl, Bool.false_and, cond_false]
      congr 1; omega

theorem around_eq (a : Int) : magnetoref23_around a = some (a % 46080) := by
  unfold magnetoref23_around
  rcases tmod_cases a with ⟨h, e⟩ | ⟨h, e⟩
  · rw [e, w64_of (by omega) (by omega), Int.tmod_eq_emod_of_nonneg (by omega)]
    congr 1; omega
  · rw [e, w64_of (by omega) (by omega), Int.tmod_eq_emod_of_nonneg (by omega)]
    congr 1; omega

def trn (d ticks : Int) : Int := d * 23040 / ticks
theorem trn_range {d ticks : Int} (h0 : 0 ≤ d) (h1 : d ≤ 20000) (ht : 4000 ≤ ticks) : 0 ≤ trn d ticks ∧ trn d ticks ≤ 460800000 := by
  have h2 : d * 23040 / ticks ≤ d * 23040 := Int.ediv_le_self _ (by omega)
  exact ⟨Int.ediv_nonneg (by omega) (by omega), by unfold trn; omega⟩
theorem turn_eq {d ticks : Int} (h0 : 0 ≤ d) (h1 : d ≤ 20000) (ht : 4000 ≤ ticks) : events_Plan_4 d ticks = some (trn d ticks) := by
  unfold events_Plan_4
  rw [w64_of (by omega) (by omega), quo_eq (by omega) (by omega) (by omega)]
  rfl
theorem rturn_eq {d ticks : Int} (h0 : 0 ≤ d) (h1 : d ≤ 20000) (ht : 4000 ≤ ticks) : magnetoref23_Turn d ticks = some (trn d ticks) := by
  unfold magnetoref23_Turn
  rw [w64_of (by omega) (by omega), quo_eq (by omega) (by omega) (by omega)]
  rfl
def mn (x : Int) : Int := minI x 23040
theorem mn_range {x : Int} (h : 0 ≤ x) : 0 ≤ mn x ∧ mn x ≤ 23040 := by
  unfold mn minI; split <;> omega

/-! The events of a fire. -/
def offs (f : SFire) (t : Int) : List (Int × Int × Int) :=
  [(-f.Spark, 2, 0), (-f.Spark - mn (trn f.Dwell t), 1, 0)] ++ (bif decide (pul f > 0) then [(-f.End, 4, 1), (-f.End - trn f.Inject t, 3, 1)] else []) ++ (bif decide (pul f > 1) then [(-f.End + trn f.Gap t, 3, 2), (-f.End + trn f.Gap t + trn f.Extra t, 4, 2)] else [])
def evF (e : SEngine) (f : SFire) (o : Int × Int × Int) : SEvent := ⟨(cen e f.Cylinder + o.1) % 46080, o.2.1, f.Cylinder, o.2.2⟩
def evs (e : SEngine) (t : Int) (f : SFire) : List SEvent := (offs f t).map (evF e f)
def long (t : Int) (f : SFire) : Bool := decide (trn f.Inject t > 23040) || decide (trn f.Gap t > 23040) || decide (trn f.Extra t > 23040)

theorem pul_cases (f : SFire) : pul f = 0 ∨ pul f = 1 ∨ pul f = 2 := by
  unfold pul; cases f.Inject == 0 <;> cases f.Extra == 0 <;> simp

theorem offs_len (f : SFire) (t : Int) : (offs f t).length ≤ 6 := by
  rcases pul_cases f with h | h | h <;> simp [offs, h]
theorem evs_len (e : SEngine) (t : Int) (f : SFire) : (evs e t f).length ≤ 6 := by
  unfold evs; rw [List.length_map]; exact offs_len f t

theorem plan3 (a k p : Int) (c : List SEvent) (x : SFire) (h1 : -1000000000000000 ≤ a) (h2 : a ≤ 1000000000000000) (hc : c.length ≤ 100000) : events_Plan_3 a k p c x = some (c ++ [⟨a % 46080, k, x.Cylinder, p⟩]) := by
  unfold events_Plan_3
  rw [mod_eq a h1 h2]
  simp only [Option.bind_some]
  rw [appendM_ok _ _ (by simp only [List.length_singleton]; omega)]
  rfl

theorem fire_ranges {e : SEngine} {f : SFire} (h : fireP e f) : (0 ≤ f.Dwell ∧ f.Dwell ≤ 20000) ∧ (0 ≤ f.Inject ∧ f.Inject ≤ 20000) ∧ (0 ≤ f.Gap ∧ f.Gap ≤ 20000) ∧ (0 ≤ f.Extra ∧ f.Extra ≤ 20000) ∧ (-1280 ≤ f.Spark ∧ f.Spark ≤ 3840) ∧ (0 ≤ f.End ∧ f.End ≤ 23040) := by
  unfold fireP at h
  obtain ⟨_, h⟩ := h
  omega

theorem step_eq (e : SEngine) (t i : Int) (x : SFire) (c : List SEvent) (he : engP e) (hx : fireP e x) (ht : 4000 ≤ t) (hc : c.length ≤ 1000) :
    events_Plan_b2 e t i x c = some (bif long t x then .ret ([], 2) else .next (c ++ evs e t x)) := by
  obtain ⟨⟨d0, d1⟩, ⟨i0, i1⟩, ⟨g0, g1⟩, ⟨x0, x1⟩, ⟨s0, s1⟩, n0, n1⟩ := fire_ranges hx
  obtain ⟨c0, c1⟩ := cen_range e x.Cylinder
  have td := mn_range (trn_range d0 d1 ht).1
  have ti := trn_range i0 i1 ht
  have tg := trn_range g0 g1 ht
  have tx := trn_range x0 x1 ht
  unfold events_Plan_b2
  rw [center_eq e _ he, turn_eq d0 d1 ht, turn_eq i0 i1 ht, turn_eq g0 g1 ht, turn_eq x0 x1 ht, pulses_eq]
  simp only [Option.bind_some]
  rw [show minI (trn x.Dwell t) 23040 = mn (trn x.Dwell t) from rfl]
  have hl : decide (maxI (maxI (trn x.Inject t) (trn x.Gap t)) (trn x.Extra t) > 23040) = long t x := by
    rw [Bool.eq_iff_iff]
    unfold long
    simp only [Bool.or_eq_true, decide_eq_true_eq]
    unfold maxI
    split <;> split <;> omega
  rw [hl]
  unfold evs offs
  simp only [List.map_append, List.map_cons, List.map_nil, evF]
  generalize hC : cen e x.Cylinder = C at *
  generalize hD : mn (trn x.Dwell t) = D at *
  generalize hI : trn x.Inject t = A at *
  generalize hG : trn x.Gap t = G at *
  generalize hX : trn x.Extra t = B at *
  rw [w64_of (n := C - x.Spark) (by omega) (by omega), w64_of (n := C - x.Spark - D) (by omega) (by omega), w64_of (n := C - x.End) (by omega) (by omega), w64_of (n := C - x.End - A) (by omega) (by omega), w64_of (n := C - x.End + G) (by omega) (by omega), w64_of (n := C - x.End + G + B) (by omega) (by omega)]
  rw [plan3 _ _ _ c _ (by omega) (by omega) (by omega)]
  simp only [Option.bind_some]
  rw [plan3 _ _ _ _ _ (by omega) (by omega) (by simp only [List.length_append, List.length_singleton]; omega)]
  simp only [Option.bind_some]
  cases long t x
  · simp only [cond_false]
    rcases pul_cases x with hp | hp | hp
    · rw [hp]
      simp only [show decide ((0 : Int) > 0) = false from rfl, show decide ((0 : Int) > 1) = false from rfl, cond_false, Option.bind_some, List.map_nil, List.append_nil, List.append_assoc, List.cons_append, List.nil_append]
      rw [show C - x.Spark - D = C + (-x.Spark - D) by omega, show C - x.Spark = C + -x.Spark by omega]
    · rw [hp]
      simp only [show decide ((1 : Int) > 0) = true from rfl, show decide ((1 : Int) > 1) = false from rfl, cond_false, cond_true, Option.bind_some]
      rw [plan3 _ _ _ _ _ (by omega) (by omega) (by simp only [List.length_append, List.length_singleton]; omega)]
      simp only [Option.bind_some]
      rw [plan3 _ _ _ _ _ (by omega) (by omega) (by simp only [List.length_append, List.length_singleton]; omega)]
      simp only [evF, hC, Option.bind_some, List.map_cons, List.map_nil, List.append_nil, List.append_assoc, List.cons_append, List.nil_append]
      rw [show C - x.Spark - D = C + (-x.Spark - D) by omega, show C - x.Spark = C + -x.Spark by omega, show C - x.End - A = C + (-x.End - A) by omega, show C - x.End = C + -x.End by omega]
    · rw [hp]
      simp only [show decide ((2 : Int) > 0) = true from rfl, show decide ((2 : Int) > 1) = true from rfl, cond_false, cond_true, Option.bind_some]
      rw [plan3 _ _ _ _ _ (by omega) (by omega) (by simp only [List.length_append, List.length_singleton]; omega)]
      simp only [Option.bind_some]
      rw [plan3 _ _ _ _ _ (by omega) (by omega) (by simp only [List.length_append, List.length_singleton]; omega)]
      simp only [Option.bind_some]
      rw [plan3 _ _ _ _ _ (by omega) (by omega) (by simp only [List.length_append, List.length_singleton]; omega)]
      simp only [Option.bind_some]
      rw [plan3 _ _ _ _ _ (by omega) (by omega) (by simp only [List.length_append, List.length_singleton]; omega)]
      simp only [evF, hC, Option.bind_some, List.map_cons, List.map_nil, List.append_nil, List.append_assoc, List.cons_append, List.nil_append]
      rw [show C - x.Spark - D = C + (-x.Spark - D) by omega, show C - x.Spark = C + -x.Spark by omega, show C - x.End - A = C + (-x.End - A) by omega, show C - x.End + G + B = C + (-x.End + G + B) by omega, show C - x.End + G = C + (-x.End + G) by omega, show C - x.End = C + -x.End by omega]
  · rfl

theorem steps_eq (e : SEngine) (t : Int) (he : engP e) (ht : 4000 ≤ t) : ∀ (l : List SFire) (i : Int) (c : List SEvent), (∀ x ∈ l, fireP e x) → c.length + 6 * l.length ≤ 1000 →
    stepsL (events_Plan_b2 e t) l i c = some (bif l.any (long t) then .inr ([], 2) else .inl (c ++ l.flatMap (evs e t)))
  | [], i, c, _, _ => by simp [stepsL]
  | x :: l, i, c, hx, hc => by
    rw [List.length_cons] at hc
    simp only [stepsL, step_eq e t i x c he (hx x (List.mem_cons_self ..)) ht (by omega), Option.bind_some, List.any_cons]
    cases long t x
    · simp only [cond_false, Bool.false_or, List.flatMap_cons]
      have := evs_len e t x
      rw [← List.append_assoc]
      exact steps_eq e t he ht l (i + 1) _ (fun y hy => hx y (List.mem_cons_of_mem _ hy)) (by rw [List.length_append]; omega)
    · rfl

/-! The order of events. -/
def ltE (a b : SEvent) : Bool := decide (a.Angle < b.Angle ∨ (a.Angle = b.Angle ∧ (a.Cylinder < b.Cylinder ∨ (a.Cylinder = b.Cylinder ∧ (a.Kind < b.Kind ∨ (a.Kind = b.Kind ∧ a.Pulse < b.Pulse))))))
def cmp3 (x y : Int) : Int := if x < y then -1 else if x > y then 1 else 0
theorem compare_eq (x y : Int) : cmp_Compare_int x y = some (cmp3 x y) := by
  unfold cmp_Compare_int cmp_isNaN_int cmp3
  have h : ∀ z : Int, (z != z) = false := fun z => by simp
  rw [h, h]
  simp only [Option.bind_some, cond_false]
  by_cases h1 : x < y
  · rw [decide_eq_true h1, if_pos h1]; rfl
  · rw [decide_eq_false h1, if_neg h1]
    by_cases h2 : x > y
    · rw [decide_eq_true h2, if_pos h2]; rfl
    · rw [decide_eq_false h2, if_neg h2]; rfl
def first4 (a b c d : Int) : Int := bif a != 0 then a else bif b != 0 then b else bif c != 0 then c else d
theorem or_eq (a b c d : Int) : cmp_Or_int [a, b, c, d] = some (first4 a b c d) := by
  unfold cmp_Or_int first4
  rw [rangeM_steps _ (by simp)]
  simp only [stepsL, cmp_Or_int_b1]
  cases ha : a != 0
  · cases hb : b != 0
    · cases hc : c != 0
      · cases hd : d != 0
        · have : d = 0 := by simpa using hd
          rw [this]; rfl
        · rfl
      · rfl
    · rfl
  · rfl
theorem order_eq (a b : SEvent) : events_order a b = some (first4 (cmp3 a.Angle b.Angle) (cmp3 a.Cylinder b.Cylinder) (cmp3 a.Kind b.Kind) (cmp3 a.Pulse b.Pulse)) := by
  unfold events_order
  simp only [compare_eq, Option.bind_some, or_eq]
theorem cmp3_cases (x y : Int) : (x < y ∧ cmp3 x y = -1) ∨ (x = y ∧ cmp3 x y = 0) ∨ (y < x ∧ cmp3 x y = 1) := by
  unfold cmp3
  split
  · exact .inl ⟨by assumption, rfl⟩
  · split
    · exact .inr (.inr ⟨by omega, rfl⟩)
    · exact .inr (.inl ⟨by omega, rfl⟩)
theorem ltM_order (a b : SEvent) : ltM events_order a b = ltE a b := by
  unfold ltM ltE
  rw [order_eq, Option.getD_some, decide_eq_decide]
  unfold first4
  rcases cmp3_cases a.Angle b.Angle with ⟨h1, e1⟩ | ⟨h1, e1⟩ | ⟨h1, e1⟩ <;> rw [e1]
  · simp; omega
  · rcases cmp3_cases a.Cylinder b.Cylinder with ⟨h2, e2⟩ | ⟨h2, e2⟩ | ⟨h2, e2⟩ <;> rw [e2]
    · simp; omega
    · rcases cmp3_cases a.Kind b.Kind with ⟨h3, e3⟩ | ⟨h3, e3⟩ | ⟨h3, e3⟩ <;> rw [e3]
      · simp; omega
      · rcases cmp3_cases a.Pulse b.Pulse with ⟨h4, e4⟩ | ⟨h4, e4⟩ | ⟨h4, e4⟩ <;> rw [e4] <;> simp <;> omega
      · simp; omega
    · simp; omega
  · simp; omega

theorem ltE_irr (x : SEvent) : ltE x x = false := by unfold ltE; simp
theorem ltE_trans {x y z : SEvent} (h1 : ltE x y = true) (h2 : ltE y z = true) : ltE x z = true := by
  unfold ltE at *; simp only [decide_eq_true_eq] at *; omega
theorem leE_trans {x y z : SEvent} (h1 : ltE x y = false) (h2 : ltE y z = false) : ltE x z = false := by
  unfold ltE at *; simp only [decide_eq_false_iff_not] at *; omega
theorem leE_anti {x y : SEvent} (h1 : ltE x y = false) (h2 : ltE y x = false) : x = y := by
  unfold ltE at *; simp only [decide_eq_false_iff_not] at *
  refine SEvent.ext ?_ ?_ ?_ ?_ <;> omega
theorem ltE_asym {x y : SEvent} (h : ltE x y = true) : ltE y x = false := by
  unfold ltE at *; simp only [decide_eq_false_iff_not, decide_eq_true_eq] at *; omega

abbrev Asc (l : List SEvent) : Prop := l.Pairwise fun a b => ltE b a = false
theorem uniqE : ∀ {l m : List SEvent}, Asc l → Asc m → l.Perm m → l = m
  | [], m, _, _, hp => hp.nil_eq
  | x :: l, [], _, _, hp => by have := hp.length_eq; simp at this
  | x :: l, y :: m, hl, hm, hp => by
    have hxy : x = y := by
      have h1 : x ∈ y :: m := hp.mem_iff.1 (List.mem_cons_self ..)
      have h2 : y ∈ x :: l := hp.mem_iff.2 (List.mem_cons_self ..)
      rcases List.mem_cons.1 h1 with h1 | h1
      · exact h1
      · rcases List.mem_cons.1 h2 with h2 | h2
        · exact h2.symm
        · exact leE_anti ((List.pairwise_cons.1 hm).1 x h1) ((List.pairwise_cons.1 hl).1 y h2)
    subst hxy
    rw [uniqE (List.pairwise_cons.1 hl).2 (List.pairwise_cons.1 hm).2 (List.Perm.cons_inv hp)]

def srt (l : List SEvent) : List SEvent := l.mergeSort fun x y => !ltE y x
theorem srt_perm (l : List SEvent) : (srt l).Perm l := List.mergeSort_perm _ _
theorem srt_asc (l : List SEvent) : Asc (srt l) := by
  have := List.pairwise_mergeSort (le := fun x y => !ltE y x) (fun a b c h1 h2 => by
    simp only [Bool.not_eq_true'] at *
    exact leE_trans h2 h1) (fun a b => by
    cases h : ltE b a
    · rfl
    · simp [ltE_asym h]) l
  exact this.imp fun h => by simpa using h
theorem sort_eq (l : List SEvent) (h : l.length ≤ 1000000) : slices_SortFunc_sEvent l events_order = some (srt l) := by
  unfold slices_SortFunc_sEvent srt
  have e : (fun x y => !ltM events_order y x) = fun x y => !ltE y x := by funext x y; rw [ltM_order]
  rw [sortM_ok ⟨by omega, fun x _ y _ => ⟨_, order_eq x y⟩, fun x _ => by rw [ltM_order, ltE_irr], fun x _ y _ z _ => by rw [ltM_order, ltM_order, ltM_order]; exact ltE_trans,
    fun x _ y _ z _ => by rw [ltM_order, ltM_order, ltM_order]; exact leE_trans, fun x _ y _ => by rw [ltM_order, ltM_order]; exact leE_anti⟩, e]

/-! Plan. -/
def dupAt (l : List SFire) (i : Nat) : Bool := match l[i]? with | some x => (l.take i).any fun g => g.Cylinder == x.Cylinder | none => false
def dupB (l : List SFire) : Bool := (List.range' 0 l.length).any (dupAt l)
def tickB (t : Int) : Bool := decide (t ≥ 4000) && decide (t ≤ 1000000)
def badF (e : SEngine) (l : List SFire) : Bool := l.any fun f => !decide (fireP e f)
def planV (e : SEngine) (l : List SFire) (t : Int) : List SEvent × Int :=
  bif !decide (engP e) then ([], 1) else bif badF e l then ([], 1) else bif !tickB t then ([], 2) else bif dupB l then ([], 8) else bif l.any (long t) then ([], 2) else (srt (l.flatMap (evs e t)), 0)

theorem flat_len (e : SEngine) (t : Int) (l : List SFire) : (l.flatMap (evs e t)).length ≤ 6 * l.length := by
  induction l with
  | nil => simp
  | cons x l ih =>
    have := evs_len e t x
    rw [List.flatMap_cons, List.length_append, List.length_cons]; omega

theorem badF_false {e : SEngine} {l : List SFire} (h : badF e l = false) : ∀ x ∈ l, fireP e x := by
  intro x hx
  unfold badF at h
  rw [List.any_eq_false] at h
  simpa using h x hx

theorem plan_eq (e : SEngine) (l : List SFire) (t : Int) (hl : l.length ≤ 100) : events_Plan e l t = some (planV e l t) := by
  unfold events_Plan planV
  rw [valid_eq]
  cases hd : decide (engP e)
  · rfl
  · have he := of_decide_eq_true hd
    simp only [Option.bind_some, Bool.not_true, cond_false]
    have k := index_any l (by omega) (fun x0 => events_Plan_1 x0 e) (fun f => !decide (fireP e f)) (fun y _ => by unfold events_Plan_1; rw [fire_eq, hd]; rfl)
    have k' : slices_ContainsFunc_sFire l (fun x0 => events_Plan_1 x0 e) = some (badF e l) := k
    rw [k']
    simp only [Option.bind_some]
    cases hb : badF e l
    · have hf := badF_false hb
      simp only [cond_false]
      unfold events_within tickB
      simp only [Option.bind_some]
      cases ht : (decide (t ≥ 4000) && decide (t ≤ 1000000))
      · rfl
      · simp only [Bool.not_true, cond_false]
        have ht1 : 4000 ≤ t := by simp at ht; omega
        rw [rangeN_any l.length (by omega) (events_Plan_b1 l) (dupAt l) ([], 8) (fun j hj => by
          unfold events_Plan_b1 dupAt
          have hs : sliceM l 0 (j : Int) = some (l.take j) := by
            unfold sliceM
            rw [if_pos ⟨by omega, by omega, by omega⟩]
            simp
          rw [getI_get _ _ hj, List.getElem?_eq_getElem hj, hs]
          simp only [Option.bind_some]
          have k2 := index_any (l.take j) (by rw [List.length_take]; omega) (fun x0 => events_Plan_2 x0 l[j]) (fun g => g.Cylinder == l[j].Cylinder) (fun y _ => rfl)
          have k3 : slices_ContainsFunc_sFire (l.take j) (fun x0 => events_Plan_2 x0 l[j]) = some ((l.take j).any fun g => g.Cylinder == l[j].Cylinder) := k2
          rw [k3]
          simp only [Option.bind_some]
          cases (l.take j).any fun g => g.Cylinder == l[j].Cylinder <;> rfl)]
        rw [show (List.range' 0 l.length).any (dupAt l) = dupB l from rfl]
        cases dupB l
        · simp only [cond_false, Option.bind_some]
          rw [rangeM_steps _ (by omega), steps_eq e t he ht1 l 0 [] hf (by simp; omega)]
          cases l.any (long t)
          · simp only [cond_false, Option.bind_some, List.nil_append]
            have := flat_len e t l
            rw [sort_eq _ (by omega)]
            rfl
          · rfl
        · rfl
    · rfl
end Go.Pv

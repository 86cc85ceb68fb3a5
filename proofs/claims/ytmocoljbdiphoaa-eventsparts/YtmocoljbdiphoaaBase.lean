/- The events' functions, as they compute. Plain Lean. -/
import Derived.Test.YtmocoljbdiphoaaWf
import Derived.Test.YtmocoljbdiphoaaPvXg
set_option linter.unusedSimpArgs false
namespace Go.Pv
open Go

theorem bsome {α : Type} (c : Bool) (x y : α) : (bif c then some x else some y) = some (bif c then x else y) := by cases c <;> rfl

theorem dec_of {p : Prop} [Decidable p] {b : Bool} (h : p ↔ b = true) : decide p = b := by
  cases b
  · exact decide_eq_false fun hp => Bool.noConfusion (h.1 hp)
  · exact decide_eq_true (h.2 rfl)

/-! Lists. -/
theorem perm_of_sub {α : Type} [DecidableEq α] : ∀ {l m : List α}, l.Nodup → (∀ x ∈ l, x ∈ m) → m.length ≤ l.length → l.Perm m
  | [], m, _, _, h => by
    have : m = [] := List.length_eq_zero_iff.1 (Nat.le_zero.1 h)
    rw [this]
  | x :: l, m, hn, hs, hl => by
    have hx : x ∈ m := hs x (List.mem_cons_self ..)
    have hp := List.perm_cons_erase hx
    rw [List.nodup_cons] at hn
    have hlen := hp.length_eq
    simp only [List.length_cons] at hlen hl
    refine (List.Perm.cons x (perm_of_sub hn.2 (fun y hy => ?_) (by omega))).trans hp.symm
    have hne : y ≠ x := fun h => hn.1 (h ▸ hy)
    exact (List.mem_erase_of_ne hne).2 (hs y (List.mem_cons_of_mem _ hy))

theorem nodup_iff_take {l : List Int} : l.Nodup ↔ ∀ i (h : i < l.length), l[i] ∉ l.take i := by
  unfold List.Nodup
  rw [List.pairwise_iff_getElem]
  constructor
  · intro hp i hi hm
    obtain ⟨j, hj, e⟩ := List.mem_iff_getElem.1 hm
    rw [List.length_take] at hj
    rw [List.getElem_take] at e
    exact hp j i (by omega) hi (by omega) e
  · intro hp i j hi hj hij e
    exact hp j hj (List.mem_iff_getElem.2 ⟨i, by rw [List.length_take]; omega, by rw [List.getElem_take]; exact e⟩)

theorem nodup_get {l : List Int} (h : l.Nodup) {i j : Nat} (hi : i < l.length) (hj : j < l.length) (e : l[i] = l[j]) : i = j := by
  unfold List.Nodup at h
  rw [List.pairwise_iff_getElem] at h
  rcases Nat.lt_trichotomy i j with hl | hl | hl
  · exact (h i j hi hj hl e).elim
  · exact hl
  · exact (h j i hj hi hl e.symm).elim

/-- The order holds 1 to its length each once: two ways to say it. -/
theorem order_iff {l : List Int} : (∀ k, k < l.length → ((k : Int) + 1) ∈ l) ↔ (∀ x ∈ l, 1 ≤ x ∧ x ≤ l.length) ∧ l.Nodup := by
  have hN : ((List.range l.length).map (fun k : Nat => (k : Int) + 1)).Nodup := by
    unfold List.Nodup
    rw [List.pairwise_map]
    exact List.Pairwise.imp (fun {a b} h => by omega) List.pairwise_lt_range
  have hm : ∀ x : Int, x ∈ (List.range l.length).map (fun k : Nat => (k : Int) + 1) ↔ 1 ≤ x ∧ x ≤ l.length := by
    intro x
    rw [List.mem_map]
    constructor
    · rintro ⟨k, hk, rfl⟩
      rw [List.mem_range] at hk
      omega
    · intro h
      exact ⟨(x - 1).toNat, by rw [List.mem_range]; omega, by omega⟩
  constructor
  · intro h
    have hp : ((List.range l.length).map (fun k : Nat => (k : Int) + 1)).Perm l := perm_of_sub hN (fun x hx => by
      rw [List.mem_map] at hx
      obtain ⟨k, hk, rfl⟩ := hx
      exact h k (List.mem_range.1 hk)) (by simp)
    exact ⟨fun x hx => (hm x).1 (hp.mem_iff.2 hx), hp.nodup_iff.1 hN⟩
  · rintro ⟨h1, h2⟩ k hk
    have hp : l.Perm ((List.range l.length).map (fun k : Nat => (k : Int) + 1)) := perm_of_sub h2 (fun x hx => (hm x).2 (h1 x hx)) (by simp)
    exact hp.mem_iff.2 ((hm _).2 (by omega))

/-! The place of a number in a list. -/
def idx (v : Int) : List Int → Nat → Int
  | [], _ => -1
  | x :: l, i => bif v == x then (i : Int) else idx v l (i + 1)

theorem idx_spec (v : Int) : ∀ (l : List Int) (i : Nat), (idx v l i = -1 ∧ v ∉ l) ∨ ∃ k : Nat, idx v l i = ((i + k : Nat) : Int) ∧ l[k]? = some v
  | [], i => .inl ⟨rfl, by simp⟩
  | x :: l, i => by
    unfold idx
    cases h : v == x
    · have hne : v ≠ x := by simpa using h
      rcases idx_spec v l (i + 1) with ⟨h1, h2⟩ | ⟨k, h1, h2⟩
      · exact .inl ⟨h1, by simp [hne, h2]⟩
      · exact .inr ⟨k + 1, by simp only [cond_false]; rw [h1]; omega, by simpa using h2⟩
    · have : v = x := by simpa using h
      exact .inr ⟨0, by simp, by simp [this]⟩

theorem idx_mem (v : Int) (l : List Int) : decide (idx v l 0 ≥ 0) = decide (v ∈ l) := by
  rcases idx_spec v l 0 with ⟨h1, h2⟩ | ⟨k, h1, h2⟩
  · rw [h1]; simp [h2]
  · rw [h1]; simp [List.mem_of_getElem? h2]

theorem idx_lt {v : Int} {l : List Int} (h : v ∈ l) : ∃ k : Nat, idx v l 0 = (k : Int) ∧ k < l.length ∧ l[k]? = some v := by
  rcases idx_spec v l 0 with ⟨h1, h2⟩ | ⟨k, h1, h2⟩
  · exact (h2 h).elim
  · exact ⟨k, by rw [h1, Nat.zero_add], (List.getElem?_eq_some_iff.1 h2).1, h2⟩

theorem idx_nodup {l : List Int} (hn : l.Nodup) {k : Nat} (hk : k < l.length) : idx l[k] l 0 = (k : Int) := by
  obtain ⟨j, h1, h2, h3⟩ := idx_lt (List.getElem_mem hk)
  obtain ⟨_, h4⟩ := List.getElem?_eq_some_iff.1 h3
  rw [h1, nodup_get hn h2 hk h4]

theorem idx_steps (v : Int) : ∀ (l : List Int) (i : Nat), (Option.bind (stepsL (fun (i : Int) x (_ : Unit) => bif (v == x) then (some (Fl.ret i)) else (some (Fl.next ()))) l (i : Int) ()) fun (t : Unit ⊕ Int) => match t with | .inl _ => (some (-1)) | .inr r2 => some r2) = some (idx v l i)
  | [], i => rfl
  | x :: l, i => by
    simp only [stepsL, idx]
    cases v == x
    · simpa using idx_steps v l (i + 1)
    · rfl

theorem index_eq (s : List Int) (v : Int) (h : s.length ≤ 9223372036854775807) : slices_Index_sint s v = some (idx v s 0) := by
  unfold slices_Index_sint
  have : rangeN (s.length : Int) (slices_Index_sint_b1 s v) () = stepsL (fun (i : Int) x (_ : Unit) => bif (v == x) then (some (Fl.ret i)) else (some (Fl.next ()))) s 0 () := rangeN_list s h _ ()
  rw [this]
  exact idx_steps v s 0

theorem contains_eq (s : List Int) (v : Int) (h : s.length ≤ 9223372036854775807) : slices_Contains_sint s v = some (decide (v ∈ s)) := by
  unfold slices_Contains_sint
  rw [index_eq s v h, Option.bind_some, idx_mem]

theorem place_eq (e : SEngine) (c : Int) (h : e.Order.length ≤ 1000000) : magnetoref23_Place e c = some (idx c e.Order 0) := by
  unfold magnetoref23_Place
  have key : ∀ (r : List Int) (i : Nat), e.Order.drop i = r → (Option.bind (loopM (magnetoref23_Place_b1 e c) (i : Int)) fun (t : Int ⊕ Int) => match t with | .inl _ => (some (-1)) | .inr r2 => some r2) = some (idx c r i) := by
    intro r
    induction r with
    | nil =>
      intro i hd
      have hi : e.Order.length ≤ i := by simpa using hd
      have : magnetoref23_Place_b1 e c (i : Int) = some (.inr (.inl (i : Int))) := by
        unfold magnetoref23_Place_b1
        rw [show decide ((i : Int) < (e.Order.length : Int)) = false by simp; omega]; rfl
      rw [loopM_out this]; rfl
    | cons y r ih =>
      intro i hd
      have hi : i < e.Order.length := by
        have := congrArg List.length hd; simp at this; omega
      have hy : e.Order[i]? = some y := by rw [← List.head?_drop, hd]; rfl
      have hb : magnetoref23_Place_b1 e c (i : Int) = some (bif c == y then .inr (.inr (i : Int)) else .inl ((i + 1 : Nat) : Int)) := by
        unfold magnetoref23_Place_b1
        rw [show decide ((i : Int) < (e.Order.length : Int)) = true by simp; omega, getI_nat, hy, w64_of (n := (i : Int) + 1) (by omega) (by omega)]
        simp only [cond_true, Option.bind_some]
        rw [show (y == c) = (c == y) from BEq.comm]
        cases c == y <;> rfl
      unfold idx
      cases hc : c == y
      · rw [hc] at hb
        rw [loopM_next hb, ih (i + 1) (by rw [← List.drop_drop, hd]; rfl)]
        rfl
      · rw [hc] at hb
        rw [loopM_out hb]; rfl
  exact key e.Order 0 rfl

/-! The engine. -/
def engP (e : SEngine) : Prop := 1 ≤ e.Order.length ∧ e.Order.length ≤ 8 ∧ 0 ≤ e.First ∧ e.First < 46080 ∧ (∀ x ∈ e.Order, 1 ≤ x ∧ x ≤ (e.Order.length : Int)) ∧ e.Order.Nodup
instance (e : SEngine) : Decidable (engP e) := by unfold engP; infer_instance

theorem eng_head {e : SEngine} (h : (((decide ((e.Order.length : Int) < 1)) || (decide ((e.Order.length : Int) > 8))) || !((decide (e.First ≥ 0)) && (decide (e.First < 46080)))) = true) : ¬ engP e := by
  rintro ⟨h1, h2, h3, h4, _⟩
  simp only [Bool.or_eq_true, Bool.not_eq_true', Bool.and_eq_false_iff, decide_eq_true_eq, decide_eq_false_iff_not] at h
  omega
theorem eng_tail {e : SEngine} (h : (((decide ((e.Order.length : Int) < 1)) || (decide ((e.Order.length : Int) > 8))) || !((decide (e.First ≥ 0)) && (decide (e.First < 46080)))) = false) : 1 ≤ e.Order.length ∧ e.Order.length ≤ 8 ∧ 0 ≤ e.First ∧ e.First < 46080 := by
  simp only [Bool.or_eq_false_iff, Bool.not_eq_false', Bool.and_eq_true, decide_eq_true_eq, decide_eq_false_iff_not] at h
  omega

theorem all_range' {n : Nat} {p : Nat → Bool} : (List.range' 0 n).all p = true ↔ ∀ k, k < n → p k = true := by
  rw [List.all_eq_true]
  constructor
  · intro h k hk
    exact h k (by rw [List.mem_range'_1]; omega)
  · intro h k hk
    rw [List.mem_range'_1] at hk
    exact h k (by omega)

theorem valid_eq (e : SEngine) : events_Valid e = some (decide (engP e)) := by
  unfold events_Valid events_angle
  have hb : (Option.bind (bif ((decide ((e.Order.length : Int) < 1)) || (decide ((e.Order.length : Int) > 8))) then (some true) else (Option.bind (some ((decide (e.First ≥ 0)) && (decide (e.First < 46080)))) fun v => some (!v))) : (Bool → Option Bool) → Option Bool) = fun k => k (((decide ((e.Order.length : Int) < 1)) || (decide ((e.Order.length : Int) > 8))) || !((decide (e.First ≥ 0)) && (decide (e.First < 46080)))) := by
    funext k
    cases ((decide ((e.Order.length : Int) < 1)) || (decide ((e.Order.length : Int) > 8))) <;> rfl
  rw [hb]
  cases hh : (((decide ((e.Order.length : Int) < 1)) || (decide ((e.Order.length : Int) > 8))) || !((decide (e.First ≥ 0)) && (decide (e.First < 46080))))
  · obtain ⟨h1, h2, h3, h4⟩ := eng_tail hh
    have k := loopM_all (mb := events_Valid_b1 e) (fun i => (i : Int) + 1) (p := fun i => decide (((i : Int) + 1) ∈ e.Order)) (b0 := .inl ((e.Order.length : Int) + 1)) (b1 := .inr false) e.Order.length (by
      unfold events_Valid_b1
      rw [show decide ((e.Order.length : Int) + 1 ≤ (e.Order.length : Int)) = false by simp; omega]; rfl) (fun k hk => by
      unfold events_Valid_b1
      simp only [show decide ((k : Int) + 1 ≤ (e.Order.length : Int)) = true by simp; omega, cond_true, contains_eq e.Order _ (by omega), Option.bind_some, w64_of (n := (k : Int) + 1 + 1) (by omega) (by omega)]
      cases decide (((k : Int) + 1) ∈ e.Order) <;> rfl)
    simp only [show ((0 : Nat) : Int) + 1 = 1 from rfl] at k
    simp only [cond_false]
    rw [k]
    have hP : engP e ↔ (List.range' 0 e.Order.length).all (fun i => decide (((i : Int) + 1) ∈ e.Order)) = true := by
      rw [all_range']
      simp only [decide_eq_true_eq]
      rw [order_iff]
      unfold engP
      constructor
      · rintro ⟨_, _, _, _, h5, h6⟩; exact ⟨h5, h6⟩
      · rintro ⟨h5, h6⟩; exact ⟨h1, h2, h3, h4, h5, h6⟩
    rw [dec_of hP]
    cases (List.range' 0 e.Order.length).all (fun i => decide (((i : Int) + 1) ∈ e.Order)) <;> rfl
  · simp only [cond_true]
    rw [decide_eq_false (eng_head hh)]

theorem rvalid_eq (e : SEngine) : magnetoref23_Valid e = some (decide (engP e)) := by
  unfold magnetoref23_Valid magnetoref23_Angle
  have hb : (Option.bind (bif ((decide ((e.Order.length : Int) < 1)) || (decide ((e.Order.length : Int) > 8))) then (some true) else (Option.bind (some ((decide (e.First ≥ 0)) && (decide (e.First < 46080)))) fun v => some (!v))) : (Bool → Option Bool) → Option Bool) = fun k => k (((decide ((e.Order.length : Int) < 1)) || (decide ((e.Order.length : Int) > 8))) || !((decide (e.First ≥ 0)) && (decide (e.First < 46080)))) := by
    funext k
    cases ((decide ((e.Order.length : Int) < 1)) || (decide ((e.Order.length : Int) > 8))) <;> rfl
  rw [hb]
  cases hh : (((decide ((e.Order.length : Int) < 1)) || (decide ((e.Order.length : Int) > 8))) || !((decide (e.First ≥ 0)) && (decide (e.First < 46080))))
  · obtain ⟨h1, h2, h3, h4⟩ := eng_tail hh
    have k := loopM_all (mb := magnetoref23_Valid_b1 e) (fun i => (i : Int)) (p := fun i => decide (1 ≤ e.Order.getD i 0 ∧ e.Order.getD i 0 ≤ (e.Order.length : Int)) && (e.Order.take i).all fun y => !(y == e.Order.getD i 0)) (b0 := .inl (e.Order.length : Int)) (b1 := .inr false) e.Order.length (by
      unfold magnetoref23_Valid_b1
      rw [show decide ((e.Order.length : Int) < (e.Order.length : Int)) = false by simp]; rfl) (fun k hk => by
      have hg : e.Order.getD k 0 = e.Order[k] := by simp [List.getD, List.getElem?_eq_getElem hk]
      have hlt : (e.Order.take k).length = k := by rw [List.length_take]; omega
      have k2 := loopM_allL (mb := magnetoref23_Valid_b2 e (k : Int) e.Order[k]) (fun i => (i : Int)) (p := fun y => !(y == e.Order[k])) (b0 := .inl (k : Int)) (b1 := .inr false) (e.Order.take k) (by
        rw [hlt]
        unfold magnetoref23_Valid_b2
        rw [show decide ((k : Int) < (k : Int)) = false by simp]; rfl) (fun j y hy => by
        have hj : j < k := by have := (List.getElem?_eq_some_iff.1 hy).1; omega
        have hy2 : e.Order[j]? = some y := by rw [← hy, List.getElem?_take, if_pos hj]
        unfold magnetoref23_Valid_b2
        simp only [show decide ((j : Int) < (k : Int)) = true by simp; omega, cond_true, getI_nat, hy2, Option.bind_some, w64_of (n := (j : Int) + 1) (by omega) (by omega)]
        cases y == e.Order[k] <;> rfl)
      rw [show ((0 : Nat) : Int) = 0 from rfl] at k2
      unfold magnetoref23_Valid_b1
      simp only [show decide ((k : Int) < (e.Order.length : Int)) = true by simp; omega, cond_true, getI_get _ _ hk, Option.bind_some, hg, w64_of (n := (k : Int) + 1) (by omega) (by omega), k2]
      have e1 : (Option.bind (bif (decide (e.Order[k] < 1)) then (some true) else (some (decide (e.Order[k] > (e.Order.length : Int))))) : (Bool → Option (Int ⊕ (Int ⊕ Bool))) → Option (Int ⊕ (Int ⊕ Bool))) = fun f => f (!decide (1 ≤ e.Order[k] ∧ e.Order[k] ≤ (e.Order.length : Int))) := by
        funext f
        have : (!decide (1 ≤ e.Order[k] ∧ e.Order[k] ≤ (e.Order.length : Int))) = (decide (e.Order[k] < 1) || decide (e.Order[k] > (e.Order.length : Int))) := by
          rw [Bool.eq_iff_iff]; simp only [Bool.not_eq_true', decide_eq_false_iff_not, Bool.or_eq_true, decide_eq_true_eq]; omega
        rw [this]
        cases decide (e.Order[k] < 1) <;> rfl
      rw [e1]
      cases decide (1 ≤ e.Order[k] ∧ e.Order[k] ≤ (e.Order.length : Int))
      · rfl
      · simp only [Bool.not_true, cond_false, Bool.true_and]
        cases (e.Order.take k).all fun y => !(y == e.Order[k]) <;> rfl)
    simp only [show ((0 : Nat) : Int) = 0 from rfl] at k
    simp only [cond_false]
    rw [k]
    have hP : engP e ↔ (List.range' 0 e.Order.length).all (fun i => decide (1 ≤ e.Order.getD i 0 ∧ e.Order.getD i 0 ≤ (e.Order.length : Int)) && (e.Order.take i).all fun y => !(y == e.Order.getD i 0)) = true := by
      rw [all_range']
      unfold engP
      rw [nodup_iff_take]
      have hg : ∀ k (hk : k < e.Order.length), e.Order.getD k 0 = e.Order[k] := fun k hk => by simp [List.getD, List.getElem?_eq_getElem hk]
      constructor
      · rintro ⟨_, _, _, _, h5, h6⟩ k hk
        rw [hg k hk, Bool.and_eq_true, decide_eq_true_eq, List.all_eq_true]
        refine ⟨h5 _ (List.getElem_mem hk), fun y hy => ?_⟩
        simp only [Bool.not_eq_true', beq_eq_false_iff_ne]
        exact fun h => h6 k hk (h ▸ hy)
      · intro h
        refine ⟨h1, h2, h3, h4, fun x hx => ?_, fun k hk hm => ?_⟩
        · obtain ⟨k, hk, rfl⟩ := List.mem_iff_getElem.1 hx
          have := h k hk
          rw [hg k hk, Bool.and_eq_true, decide_eq_true_eq] at this
          exact this.1
        · have := h k hk
          rw [hg k hk, Bool.and_eq_true, List.all_eq_true] at this
          have := this.2 _ hm
          simp at this
    rw [dec_of hP]
    cases (List.range' 0 e.Order.length).all (fun i => decide (1 ≤ e.Order.getD i 0 ∧ e.Order.getD i 0 ≤ (e.Order.length : Int)) && (e.Order.take i).all fun y => !(y == e.Order.getD i 0)) <;> rfl
  · simp only [cond_true]
    rw [decide_eq_false (eng_head hh)]

/-! The centers. -/
def cen (e : SEngine) (c : Int) : Int := (e.First + maxI (idx c e.Order 0) 0 * 46080 / (e.Order.length : Int)) % 46080

theorem cen_range (e : SEngine) (c : Int) : 0 ≤ cen e c ∧ cen e c < 46080 := by unfold cen; omega

theorem quo_eq {a b : Int} (ha : 0 ≤ a) (hb : 0 < b) (hm : a ≤ 9223372036854775807) : quoM .i64 a b = some (a / b) := by
  have h1 : a / b ≤ a := Int.ediv_le_self _ ha
  have h2 : 0 ≤ a / b := Int.ediv_nonneg ha (by omega)
  unfold quoM
  rw [if_neg (by omega), Int.tdiv_eq_ediv_of_nonneg ha]
  exact congrArg some (w64_of (by omega) (by omega))

theorem rem_eq {a b : Int} (ha : 0 ≤ a) (hb : 0 < b) : remM a b = some (a % b) := by
  unfold remM
  rw [if_neg (by omega), Int.tmod_eq_emod_of_nonneg ha]

theorem center_eq (e : SEngine) (c : Int) (h : engP e) : events_center e c = some (cen e c, decide (c ∈ e.Order)) := by
  obtain ⟨h1, h2, h3, h4, h5, h6⟩ := h
  unfold events_center
  rw [index_eq _ _ (by omega)]
  simp only [Option.bind_some]
  have hm : 0 ≤ maxI (idx c e.Order 0) 0 ∧ maxI (idx c e.Order 0) 0 < 8 := by
    rcases idx_spec c e.Order 0 with ⟨e1, _⟩ | ⟨k, e1, e2⟩
    · rw [e1]; decide
    · have := (List.getElem?_eq_some_iff.1 e2).1
      rw [e1]; unfold maxI; split <;> omega
  rw [w64_of (by omega) (by omega), quo_eq (by omega) (by omega) (by omega)]
  simp only [Option.bind_some]
  have hq : 0 ≤ maxI (idx c e.Order 0) 0 * 46080 / (e.Order.length : Int) := Int.ediv_nonneg (by omega) (by omega)
  have hq2 : maxI (idx c e.Order 0) 0 * 46080 / (e.Order.length : Int) ≤ maxI (idx c e.Order 0) 0 * 46080 := Int.ediv_le_self _ (by omega)
  rw [w64_of (by omega) (by omega), Int.tmod_eq_emod_of_nonneg (by omega), idx_mem]
  rfl

theorem Center_eq (e : SEngine) (c : Int) : events_Center e c = some (bif !decide (engP e) then (0, 1) else bif !decide (c ∈ e.Order) then (0, 7) else (cen e c, 0)) := by
  unfold events_Center
  rw [valid_eq]
  cases hd : decide (engP e)
  · rfl
  · simp only [Option.bind_some, Bool.not_true, cond_false]
    rw [center_eq e c (of_decide_eq_true hd)]
    simp only [Option.bind_some]
    cases decide (c ∈ e.Order) <;> rfl

theorem rcenter_eq (e : SEngine) (c : Int) (h : engP e) (hc : c ∈ e.Order) : magnetoref23_Center e c = some (cen e c) := by
  obtain ⟨h1, h2, h3, h4, h5, h6⟩ := h
  obtain ⟨k, e1, hk, _⟩ := idx_lt hc
  unfold magnetoref23_Center
  rw [place_eq e c (by omega)]
  simp only [Option.bind_some]
  unfold cen
  rw [e1, show maxI (k : Int) 0 = (k : Int) by unfold maxI; split <;> omega, w64_of (by omega) (by omega), quo_eq (by omega) (by omega) (by omega)]
  simp only [Option.bind_some]
  have hq : 0 ≤ (k : Int) * 46080 / (e.Order.length : Int) := Int.ediv_nonneg (by omega) (by omega)
  have hq2 : (k : Int) * 46080 / (e.Order.length : Int) ≤ (k : Int) * 46080 := Int.ediv_le_self _ (by omega)
  rw [w64_of (by omega) (by omega), Int.tmod_eq_emod_of_nonneg (by omega)]

/-! Fires. -/
def fireP (e : SEngine) (f : SFire) : Prop := f.Cylinder ∈ e.Order ∧ (-1280 ≤ f.Spark ∧ f.Spark ≤ 3840) ∧ (500 ≤ f.Dwell ∧ f.Dwell ≤ 10000) ∧ (0 ≤ f.End ∧ f.End ≤ 23040) ∧ (f.Inject = 0 ∨ (200 ≤ f.Inject ∧ f.Inject ≤ 20000)) ∧
  ((f.Gap = 0 ∧ f.Extra = 0) ∨ (f.Inject ≠ 0 ∧ (200 ≤ f.Gap ∧ f.Gap ≤ 20000) ∧ (200 ≤ f.Extra ∧ f.Extra ≤ 20000)))
instance (e : SEngine) (f : SFire) : Decidable (fireP e f) := by unfold fireP; infer_instance

theorem fire_eq (e : SEngine) (f : SFire) : events_ValidFire e f = some (decide (engP e) && decide (fireP e f)) := by
  unfold events_ValidFire events_within
  rw [valid_eq]
  cases hd : decide (engP e)
  · rfl
  · obtain ⟨h1, h2, _⟩ := of_decide_eq_true hd
    simp only [Option.bind_some, Bool.not_true, cond_false, contains_eq e.Order f.Cylinder (by omega), bsome, Bool.true_and]
    rw [Option.some.injEq, Bool.eq_iff_iff, decide_eq_true_eq]
    unfold fireP
    simp only [Bool.cond_true_left, Bool.cond_false_left, Bool.cond_true_right, Bool.cond_false_right, Bool.or_eq_true, Bool.and_eq_true, Bool.not_eq_true', Bool.or_eq_false_iff, Bool.and_eq_false_iff, Bool.not_eq_false', decide_eq_true_eq, decide_eq_false_iff_not, bne_iff_ne, bne_eq_false_iff_eq, beq_iff_eq, beq_eq_false_iff_ne, ne_eq, ge_iff_le]
    by_cases hm : f.Cylinder ∈ e.Order
    · simp only [hm, true_and, not_true_eq_false, false_or]
      omega
    · simp only [hm, false_and, not_false_eq_true, true_or, iff_false, not_and]

theorem rfire_eq (e : SEngine) (f : SFire) (h : engP e) : magnetoref23_Fire e f = some (decide (fireP e f)) := by
  obtain ⟨h1, h2, _⟩ := h
  unfold magnetoref23_Fire magnetoref23_pulse
  rw [place_eq e _ (by omega)]
  have hm := idx_mem f.Cylinder e.Order
  have hm2 : (idx f.Cylinder e.Order 0 ≥ 0) ↔ f.Cylinder ∈ e.Order := decide_eq_decide.1 hm
  simp only [Option.bind_some, bsome]
  rw [Option.some.injEq, Bool.eq_iff_iff, decide_eq_true_eq]
  unfold fireP
  rw [← hm2]
  simp only [Bool.cond_true_left, Bool.cond_false_left, Bool.cond_true_right, Bool.cond_false_right, Bool.or_eq_true, Bool.and_eq_true, Bool.not_eq_true', Bool.or_eq_false_iff, Bool.and_eq_false_iff, Bool.not_eq_false', decide_eq_true_eq, decide_eq_false_iff_not, bne_iff_ne, bne_eq_false_iff_eq, beq_iff_eq, beq_eq_false_iff_ne, ne_eq, ge_iff_le]
  omega

def pul (f : SFire) : Int := bif f.Inject == 0 then 0 else bif f.Extra == 0 then 1 else 2
theorem pulses_eq (f : SFire) : events_Pulses f = some (pul f) := by
  unfold events_Pulses pul
  cases f.Inject == 0 <;> cases f.Extra == 0 <;> rfl
theorem rpulses_eq (f : SFire) : magnetoref23_Pulses f = some (pul f) := by
  unfold magnetoref23_Pulses pul
  cases f.Inject == 0 <;> cases f.Extra == 0 <;> rfl
end Go.Pv

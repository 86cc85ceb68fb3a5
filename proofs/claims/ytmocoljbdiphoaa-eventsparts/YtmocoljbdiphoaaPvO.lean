/- The value machine, part O: whatever order a region draws. -/
import Derived.Test.YtmocoljbdiphoaaPvN
namespace Go.Pv
open Go.RowKit

def deps (o : Oper) : List Nat := (o.after.toList.filter (Region.binds .any)).map (·.on)

def waits (ops : List Oper) : Nat → Nat → Nat → Bool
  | 0, _, _ => false
  | f + 1, j, i => match ops[j]? with
    | some o => (deps o).any (fun k => Nat.beq k i) || (deps o).any (fun k => waits ops f k i)
    | none => false

/-- From h on each operation waits for all before it; none waits for what comes later. -/
def tailOk (ops : List Oper) (h : Nat) : Bool :=
  (List.range ops.length).all fun j => (match ops[j]? with | some o => (deps o).all (fun k => Nat.blt k j) | none => true) && (Nat.blt j h || (List.range j).all (fun i => waits ops ops.length j i))

def headOk (nt : Nat) (tm0 : List (Nat × T)) : List Oper → Bool
  | [] => true
  | o :: r => (match o.dst with | some d => (look tm0 d).isNone && Nat.blt d nt && r.all (fun o' => match o'.dst with | some d' => !Nat.beq d d' | none => true) | none => true) && headOk nt tm0 r

/-- The slots that operation o may count on: those of the operations that it waits for, and what was there. -/
def minOf (ops : List Oper) (Vs : List T) (tm0 : List (Nat × T)) : List Nat → List (Nat × T)
  | [] => tm0
  | j :: r => match ops[j]?, Vs[j]? with
    | some o, some V => match o.dst with
      | some d => (d, V) :: minOf ops Vs tm0 r
      | none => minOf ops Vs tm0 r
    | _, _ => minOf ops Vs tm0 r

inductive StepsQ (X : Cx) (all : Array Oper) (Vs : List T) (tm0 : List (Nat × T)) (hp : List (Nat × Blk)) : List Oper → List T → Prop
  | nil {ops : List Oper} : StepsQ X all Vs tm0 hp ops []
  | cons {o : Oper} {ops : List Oper} {V : T} {l : List T} (h : StepQ X all o (minOf all.toList Vs tm0 (deps o)) hp V) (r : StepsQ X all Vs tm0 hp ops l) : StepsQ X all Vs tm0 hp (o :: ops) (V :: l)

def fullOf : List Oper → List T → List (Nat × T) → List (Nat × T)
  | o :: r, V :: l, tm0 => match o.dst with
    | some d => (d, V) :: fullOf r l tm0
    | none => fullOf r l tm0
  | _, _, tm0 => tm0

section
variable {X : Cx} {all : Array Oper} {Vs : List T} {tm0 : List (Nat × T)} {hp : List (Nat × Blk)}

theorem StepsQ.get : ∀ {ops : List Oper} {l : List T}, StepsQ X all Vs tm0 hp ops l → ∀ (i : Nat) (V : T), l[i]? = some V → ∃ o, ops[i]? = some o ∧ StepQ X all o (minOf all.toList Vs tm0 (deps o)) hp V
  | _, [], _, i, V, h => by simp at h
  | o :: ops, V' :: l, .cons h r, i, V, hi => by
    cases i with
    | zero => simp only [List.getElem?_cons_zero, Option.some.injEq] at hi; subst hi; exact ⟨o, rfl, h⟩
    | succ i => simpa using r.get i V (by simpa using hi)

theorem minOf_look {ops : List Oper} {tm : List (Nat × T)} (h0 : more tm0 tm) : ∀ (l : List Nat), (∀ j o V d, j ∈ l → ops[j]? = some o → Vs[j]? = some V → o.dst = some d → look tm d = some V) → more (minOf ops Vs tm0 l) tm
  | [], _ => h0
  | j :: r, h => by
    have ih := minOf_look h0 r (fun j' o V d hj => h j' o V d (List.mem_cons_of_mem _ hj))
    unfold minOf
    split
    · rename_i o V ho hV
      split
      · rename_i d hd
        intro k t hk
        simp only [look] at hk
        by_cases hdk : d = k
        · subst hdk; simp only [Nat.beq_refl, cond_true, Option.some.injEq] at hk; subst hk; exact h j o V d (List.mem_cons_self ..) ho hV hd
        · simp only [beq_ne hdk, cond_false] at hk; exact ih k t hk
      · exact ih
    · exact ih

theorem fullOf_look {tm : List (Nat × T)} (h0 : more tm0 tm) : ∀ (ops : List Oper) (l : List T), (∀ (j : Nat) (o : Oper) (V : T) (d : Nat), ops[j]? = some o → l[j]? = some V → o.dst = some d → look tm d = some V) → more (fullOf ops l tm0) tm
  | [], _, _ => by cases ‹List T› <;> exact h0
  | o :: ops, [], _ => h0
  | o :: ops, V :: l, h => by
    have ih := fullOf_look h0 ops l (fun j o V d ho hV => h (j + 1) o V d (by simpa using ho) (by simpa using hV))
    unfold fullOf
    split
    · rename_i d hd
      intro k t hk
      simp only [look] at hk
      by_cases hdk : d = k
      · subst hdk; simp only [Nat.beq_refl, cond_true, Option.some.injEq] at hk; subst hk; exact h 0 o V d rfl rfl hd
      · simp only [beq_ne hdk, cond_false] at hk; exact ih k t hk
    · exact ih

theorem headOk_get {nt : Nat} : ∀ {l : List Oper}, headOk nt tm0 l = true → ∀ (i j : Nat) (o o' : Oper) (d d' : Nat), l[i]? = some o → l[j]? = some o' → o.dst = some d → o'.dst = some d' → (look tm0 d = none ∧ d < nt) ∧ (i ≠ j → d ≠ d')
  | [], _, i, j, o, o', d, d', hi, _, _, _ => by simp at hi
  | x :: r, h, i, j, o, o', d, d', hi, hj, hd, hd' => by
    simp only [headOk, Bool.and_eq_true] at h
    have one : ∀ (k : Nat) (y : Oper) (c c' : Nat), x.dst = some c → r[k]? = some y → y.dst = some c' → c ≠ c' := by
      intro k y c c' hx hk hy
      have hm : y ∈ r := List.mem_of_getElem? hk
      have h1 := h.1
      rw [hx] at h1
      simp only [Bool.and_eq_true, List.all_eq_true] at h1
      have := h1.2 y hm
      rw [hy] at this
      intro e
      subst e
      simp at this
    cases i with
    | zero =>
      simp only [List.getElem?_cons_zero, Option.some.injEq] at hi
      subst hi
      refine ⟨?_, fun hne => ?_⟩
      · have h1 := h.1
        rw [hd] at h1
        simp only [Bool.and_eq_true, Option.isNone_iff_eq_none] at h1
        exact ⟨h1.1.1, Nat.le_of_ble_eq_true h1.1.2⟩
      · cases j with
        | zero => exact absurd rfl hne
        | succ j => exact one j o' d d' hd (by simpa using hj) hd'
    | succ i =>
      have hi' : r[i]? = some o := by simpa using hi
      cases j with
      | zero =>
        simp only [List.getElem?_cons_zero, Option.some.injEq] at hj
        subst hj
        exact ⟨(headOk_get h.2 i i o o d d hi' hi' hd hd).1, fun _ e => one i o d' d hd' hi' hd e.symm⟩
      | succ j =>
        have := headOk_get h.2 i j o o' d d' hi' (by simpa using hj) hd hd'
        exact ⟨this.1, fun hne => this.2 (fun e => hne (by rw [e]))⟩

theorem waits_listed {ops : List Oper} {listed : Array Bool} (hcl : ∀ j o, ops[j]? = some o → listed.getD j false = true → ∀ k ∈ deps o, listed.getD k false = true) :
    ∀ (f j i : Nat), waits ops f j i = true → (∀ o, ops[j]? = some o → ∀ k ∈ deps o, listed.getD k false = true) → listed.getD i false = true
  | 0, _, _, h, _ => by simp [waits] at h
  | f + 1, j, i, h, hd => by
    unfold waits at h
    split at h
    · rename_i o ho
      simp only [Bool.or_eq_true, List.any_eq_true] at h
      rcases h with ⟨k, hk, he⟩ | ⟨k, hk, he⟩
      · have := Nat.eq_of_beq_eq_true he
        subst this
        exact hd o ho k hk
      · exact waits_listed hcl f k i he (fun o' ho' => hcl k o' ho' (hd o ho k hk))
    · cases h

def unl (n : Nat) (listed : Array Bool) : Nat := ((List.range n).filter fun i => !listed.getD i false).length

theorem unl_set {n i : Nat} {listed : Array Bool} (hi : i < n) (hs : listed.size = n) (h : listed.getD i false = false) : unl n listed = unl n (listed.setIfInBounds i true) + 1 := by
  unfold unl
  have key : ∀ m, ((List.range m).filter fun j => !listed.getD j false).length = ((List.range m).filter fun j => !(listed.setIfInBounds i true).getD j false).length + (if i < m then 1 else 0) := by
    intro m
    induction m with
    | zero => simp
    | succ m ih =>
      rw [List.range_succ, List.filter_append, List.filter_append, List.length_append, List.length_append, ih]
      by_cases c1 : i = m
      · subst c1
        have e : (listed.setIfInBounds i true).getD i false = true := by simp [hs, hi]
        simp only [List.filter_cons, List.filter_nil, h, e]
        simp
      · have e : (listed.setIfInBounds i true).getD m false = listed.getD m false := getD_set_ne false c1
        simp only [List.filter_cons, List.filter_nil, e]
        by_cases c2 : i < m
        · simp only [c2, if_true, show i < m + 1 by omega]; split <;> simp <;> omega
        · simp only [c2, if_false, show ¬ i < m + 1 by omega]; split <;> simp
  have := key n
  rw [if_pos hi] at this
  exact this

theorem unl_zero {n : Nat} {listed : Array Bool} (h : unl n listed = 0) : ∀ i, i < n → listed.getD i false = true := by
  intro i hi
  unfold unl at h
  have := List.eq_nil_of_length_eq_zero h
  rw [List.filter_eq_nil_iff] at this
  have := this i (List.mem_range.2 hi)
  simpa using this

theorem deps_binds {o : Oper} {listed : Array Bool} (h : ∀ e ∈ o.after, Region.binds .any e = true → listed.getD e.on false = true) : ∀ k ∈ deps o, listed.getD k false = true := by
  intro k hk
  simp only [deps, List.mem_map, List.mem_filter] at hk
  obtain ⟨e, ⟨he, hb⟩, rfl⟩ := hk
  exact h e (by simpa using he) hb

/-- The operations that come in order: the first m are done. -/
theorem any_tail {P : Program} {Q : Exit → Act → World → Prop} {h : Nat} (ht : tailOk all.toList h = true) : ∀ (fuel m : Nat) (listed : Array Bool) (a : Act) (w : World), h ≤ m → m + fuel = all.size → listed.size = all.size →
    (∀ j, j < all.size → listed.getD j false = decide (j < m)) → wpList P all Q (all.toList.drop m) a w → wpAny P .any all Q fuel listed a w := by
  intro fuel
  induction fuel with
  | zero =>
    intro m listed a w hm hf hs hl hw
    have hnil : all.toList.drop m = [] := List.drop_eq_nil_of_le (by simp; omega)
    rw [hnil] at hw
    refine ⟨?_, hw⟩
    apply List.eq_nil_iff_forall_not_mem.2
    intro j hj
    obtain ⟨h1, o, ho, _⟩ := mem_ready.1 hj
    have hjn : j < all.size := (Array.getElem?_eq_some_iff.1 ho).1
    have := hl j hjn
    have h2 : listed.getD j true = listed.getD j false := by simp [hs, hjn]
    rw [h2, this] at h1
    simp at h1
    omega
  | succ fuel ih =>
    intro m listed a w hm hf hs hl hw
    have hmn : m < all.size := by omega
    have hmo : all[m]? = some all[m] := Array.getElem?_eq_getElem hmn
    have hcl : ∀ j o, all.toList[j]? = some o → listed.getD j false = true → ∀ k ∈ deps o, listed.getD k false = true := by
      intro j o ho hj k hk
      have hjn : j < all.size := by have := (List.getElem?_eq_some_iff.1 ho).1; simpa using this
      have h1 := List.all_eq_true.1 ht j (List.mem_range.2 (by simpa using hjn))
      rw [ho] at h1
      simp only [Bool.and_eq_true, List.all_eq_true] at h1
      have hkj : k < j := Nat.le_of_ble_eq_true (h1.1 k hk)
      rw [hl j hjn] at hj
      rw [hl k (by omega)]
      simp at hj ⊢; omega
    have only : ∀ j ∈ Region.ready .any all listed, j = m := by
      intro j hj
      obtain ⟨h1, o, ho, hd⟩ := mem_ready.1 hj
      have hjn : j < all.size := (Array.getElem?_eq_some_iff.1 ho).1
      have h2 : listed.getD j true = listed.getD j false := by simp [hs, hjn]
      rw [h2, hl j hjn] at h1
      simp at h1
      have h3 := List.all_eq_true.1 ht j (List.mem_range.2 (by simpa using hjn))
      simp only [Bool.and_eq_true, Bool.or_eq_true, List.all_eq_true] at h3
      rcases Nat.lt_or_ge m j with hlt | hge
      · exfalso
        have hw := (h3.2.resolve_left (fun hb => by have := Nat.le_of_ble_eq_true hb; omega)) m (List.mem_range.2 hlt)
        have := waits_listed hcl _ j m hw (fun o' ho' k hk => by
          have : o' = o := by rw [← Array.getElem?_toList] at ho; rw [ho] at ho'; exact (Option.some.inj ho').symm
          subst this
          exact deps_binds hd k hk)
        rw [hl m hmn] at this
        simp at this
      · omega
    have hin : m ∈ Region.ready .any all listed := by
      have h2 : listed.getD m true = false := by
        have h2 : listed.getD m true = listed.getD m false := by simp [hs, hmn]
        rw [h2, hl m hmn]; simp
      refine mem_ready.2 ⟨h2, all[m], hmo, fun e he hb => ?_⟩
      have h3 := List.all_eq_true.1 ht m (List.mem_range.2 (by simpa using hmn))
      have hmo' : all.toList[m]? = some all[m] := by simp
      rw [hmo'] at h3
      simp only [Bool.and_eq_true, List.all_eq_true] at h3
      have hk : e.on ∈ deps all[m] := by
        simp only [deps, List.mem_map, List.mem_filter]
        exact ⟨e, ⟨by simpa using he, hb⟩, rfl⟩
      have hlt : e.on < m := Nat.le_of_ble_eq_true (h3.1 e.on hk)
      rw [hl e.on (by omega)]
      simpa using hlt
    refine ⟨fun h0 => (by rw [h0] at hin; cases hin), fun i hi => ?_⟩
    have := only i hi
    subst this
    have hdrop : all.toList.drop i = all[i] :: all.toList.drop (i + 1) := by
      rw [List.drop_eq_getElem_cons (by simpa using hmn)]; simp
    rw [hdrop] at hw
    unfold wpList at hw
    unfold wpOp
    simp only [hmo]
    have next : ∀ a w, wpList P all Q (all.toList.drop (i + 1)) a w → wpAny P .any all Q fuel (listed.setIfInBounds i true) a w := fun a w hw =>
      ih (i + 1) _ a w (by omega) (by omega) (by simp [hs]) (fun j hj => by
        by_cases c : i = j
        · subst c; simp [hs, hmn]
        · rw [getD_set_ne false c, hl j hj]; simp; omega) hw
    split at hw
    · rename_i hg
      rw [if_pos hg]
      exact hw.imp (Oper.wp_mono next) id
    · rename_i hg
      rw [if_neg hg]
      exact next _ _ hw

/-- The operations that only read, in any order. -/
theorem any_head {Q : Exit → Act → World → Prop} {h : Nat} (hv : Vs.length = h) (hle : h ≤ all.size) (ht : tailOk all.toList h = true) (hh : headOk X.nt tm0 (all.toList.take h) = true)
    (steps : StepsQ X all Vs tm0 hp all.toList Vs)
    (rest : ∀ a w, Sim X.w0 X.L X.nt ⟨fullOf all.toList Vs tm0, hp⟩ a w → wpList X.P all Q (all.toList.drop h) a w) :
    ∀ (fuel : Nat) (listed : Array Bool) (tm : List (Nat × T)) (a : Act) (w : World) (S : Nat → Prop) (E : Nat → Value), Ok X.w0 X.L X.nt ⟨tm, hp⟩ S E a w → more tm0 tm → listed.size = all.size → unl all.size listed = fuel →
      (∀ j, h ≤ j → j < all.size → listed.getD j false = false) → (∀ j o, all.toList[j]? = some o → listed.getD j false = true → ∀ k ∈ deps o, listed.getD k false = true) →
      (∀ i o V d, listed.getD i false = true → all.toList[i]? = some o → Vs[i]? = some V → o.dst = some d → look tm d = some V) → wpAny X.P .any all Q fuel listed a w := by
  have getH : ∀ i, i < h → ∃ o V, all.toList[i]? = some o ∧ Vs[i]? = some V ∧ StepQ X all o (minOf all.toList Vs tm0 (deps o)) hp V := by
    intro i hi
    have hV : Vs[i]? = some (Vs[i]'(by omega)) := List.getElem?_eq_getElem (by omega)
    obtain ⟨o, ho, hq⟩ := steps.get i _ hV
    exact ⟨o, _, ho, hV, hq⟩
  intro fuel
  induction fuel with
  | zero =>
    intro listed tm a w S E hk hm hs hu htl hcl hsl
    have hall := unl_zero hu
    have hh0 : h = all.size := by
      rcases Nat.lt_or_ge h all.size with h1 | h1
      · have := htl h (Nat.le_refl _) h1; rw [hall h h1] at this; cases this
      · omega
    refine any_tail ht 0 h listed a w (Nat.le_refl _) (by omega) hs (fun j hj => by rw [hall j hj]; simp; omega) (rest a w ⟨S, E, { hk with tm := fun k t hkt => hk.tm k t (fullOf_look hm _ _ (fun j o V d ho hV hd => hsl j o V d (hall j (by have := (List.getElem?_eq_some_iff.1 ho).1; simpa using this)) ho hV hd) k t hkt) }⟩)
  | succ fuel ih =>
    intro listed tm a w S E hk hm hs hu htl hcl hsl
    by_cases hdone : ∀ j, j < h → listed.getD j false = true
    · have hl : ∀ j, j < all.size → listed.getD j false = decide (j < h) := fun j hj => by
        by_cases c : j < h
        · rw [hdone j c]; simp [c]
        · rw [htl j (by omega) hj]; simp [c]
      have hcount : h + (fuel + 1) = all.size := by
        have key : ∀ m, m ≤ all.size → ((List.range m).filter fun j => !listed.getD j false).length = m - h := by
          intro m
          induction m with
          | zero => intro _; simp
          | succ m ihm =>
            intro hm'
            rw [List.range_succ, List.filter_append, List.length_append, ihm (by omega)]
            have := hl m (by omega)
            by_cases c : m < h
            · simp only [List.filter_cons, this, c, decide_true, Bool.not_true, Bool.false_eq_true, if_false, List.filter_nil, List.length_nil]; omega
            · simp only [List.filter_cons, this, c, decide_false, Bool.not_false, if_true, List.filter_nil, List.length_cons, List.length_nil]; omega
        have := key all.size (Nat.le_refl _)
        unfold unl at hu
        omega
      exact any_tail ht (fuel + 1) h listed a w (Nat.le_refl _) hcount hs hl (rest a w ⟨S, E, { hk with tm := fun k t hkt => hk.tm k t (fullOf_look hm _ _ (fun j o V d ho hV hd => hsl j o V d (by
        have hjh : j < h := by have := (List.getElem?_eq_some_iff.1 hV).1; omega
        exact hdone j hjh) ho hV hd) k t hkt) }⟩)
    · have hex : ∃ j, j < h ∧ listed.getD j false = false := by
        refine Classical.byContradiction fun hn => hdone fun j hj => ?_
        cases hb : listed.getD j false
        · exact absurd ⟨j, hj, hb⟩ hn
        · rfl
      obtain ⟨j0, hj0, hl0⟩ := hex
      have readyHead : ∀ i ∈ Region.ready .any all listed, i < h ∧ i < all.size ∧ listed.getD i false = false ∧ ∃ o, all[i]? = some o ∧ ∀ k ∈ deps o, listed.getD k false = true := by
        intro i hi
        obtain ⟨h1, o, ho, hd⟩ := mem_ready.1 hi
        have hin : i < all.size := (Array.getElem?_eq_some_iff.1 ho).1
        have h2 : listed.getD i true = listed.getD i false := by simp [hs, hin]
        rw [h2] at h1
        refine ⟨?_, hin, h1, o, ho, deps_binds hd⟩
        refine Classical.byContradiction fun hnh => ?_
        have h3 := List.all_eq_true.1 ht i (List.mem_range.2 (by simpa using hin))
        simp only [Bool.and_eq_true, Bool.or_eq_true, List.all_eq_true] at h3
        have hw := (h3.2.resolve_left (fun hb => by have := Nat.le_of_ble_eq_true hb; omega)) j0 (List.mem_range.2 (by omega))
        have := waits_listed hcl _ i j0 hw (fun o' ho' => by
          have : o' = o := by rw [← Array.getElem?_toList] at ho; rw [ho] at ho'; exact (Option.some.inj ho').symm
          subst this
          exact deps_binds hd)
        rw [hl0] at this
        cases this
      have notEmpty : Region.ready .any all listed ≠ [] := by
        -- the first that is not listed is ready
        have hmin : ∃ j, j < all.size ∧ listed.getD j false = false ∧ ∀ k, k < j → listed.getD k false = true := by
          have : ∀ n, (∃ j, j < n ∧ listed.getD j false = false) → ∃ j, j < n ∧ listed.getD j false = false ∧ ∀ k, k < j → listed.getD k false = true := by
            intro n
            induction n with
            | zero => rintro ⟨j, hj, _⟩; omega
            | succ n ihn =>
              rintro ⟨j, hj, hb⟩
              by_cases hx : ∃ j, j < n ∧ listed.getD j false = false
              · obtain ⟨j', h1, h2, h3⟩ := ihn hx
                exact ⟨j', by omega, h2, h3⟩
              · have : j = n := by
                  rcases Nat.lt_or_ge j n with c | c
                  · exact absurd ⟨j, c, hb⟩ hx
                  · omega
                subst this
                refine ⟨j, hj, hb, fun k hk => ?_⟩
                cases hc : listed.getD k false
                · exact absurd ⟨k, hk, hc⟩ hx
                · rfl
          obtain ⟨j, h1, h2, h3⟩ := this h ⟨j0, hj0, hl0⟩
          exact ⟨j, by omega, h2, h3⟩
        obtain ⟨j, hj, hb, hk⟩ := hmin
        have hin : j ∈ Region.ready .any all listed := by
          have hjo : all[j]? = some all[j] := Array.getElem?_eq_getElem hj
          have h2 : listed.getD j true = false := by rw [← hb]; simp [hs, hj]
          refine mem_ready.2 ⟨h2, all[j], hjo, fun e he hbd => ?_⟩
          have h3 := List.all_eq_true.1 ht j (List.mem_range.2 (by simpa using hj))
          have hjo' : all.toList[j]? = some all[j] := by simp
          rw [hjo'] at h3
          simp only [Bool.and_eq_true, List.all_eq_true] at h3
          have hke : e.on ∈ deps all[j] := by
            simp only [deps, List.mem_map, List.mem_filter]
            exact ⟨e, ⟨by simpa using he, hbd⟩, rfl⟩
          exact hk e.on (Nat.le_of_ble_eq_true (h3.1 e.on hke))
        intro h0
        rw [h0] at hin
        cases hin
      refine ⟨fun h0 => absurd h0 notEmpty, fun i hi => ?_⟩
      obtain ⟨hih, hin, hli, o, ho, hd⟩ := readyHead i hi
      obtain ⟨o', V, ho', hV, hq⟩ := getH i hih
      have : o' = o := by rw [← Array.getElem?_toList] at ho; rw [ho] at ho'; exact (Option.some.inj ho').symm
      subst this
      unfold wpOp
      simp only [ho]
      have hmin : more (minOf all.toList Vs tm0 (deps o')) tm := minOf_look hm _ fun j oj Vj dj hj hoj hVj hdj => hsl j oj Vj dj (hd j hj) hoj hVj hdj
      have hstep := hq tm hmin a w S E hk (wpAny X.P .any all Q fuel (listed.setIfInBounds i true)) Q (fun v w' S' E' hk' hv' => by
        have hsz : (listed.setIfInBounds i true).size = all.size := by simp [hs]
        have hun : unl all.size (listed.setIfInBounds i true) = fuel := by have := unl_set (listed := listed) hin hs hli; omega
        have htl' : ∀ j, h ≤ j → j < all.size → (listed.setIfInBounds i true).getD j false = false := fun j h1 h2 => by rw [getD_set_ne false (by omega)]; exact htl j h1 h2
        have hcl' : ∀ j o, all.toList[j]? = some o → (listed.setIfInBounds i true).getD j false = true → ∀ k ∈ deps o, (listed.setIfInBounds i true).getD k false = true := fun j oj hoj hlj k hk => by
          by_cases c : i = j
          · subst c
            have : oj = o' := by rw [ho'] at hoj; exact (Option.some.inj hoj).symm
            subst this
            exact getD_set_true (hd k hk)
          · rw [getD_set_ne false c] at hlj
            exact getD_set_true (hcl j oj hoj hlj k hk)
        cases hdst : o'.dst with
        | none =>
          refine ih _ tm _ w' S' E' hk' hm hsz hun htl' hcl' fun j oj Vj dj hlj hoj hVj hdj => ?_
          by_cases c : i = j
          · subst c
            have : oj = o' := by rw [ho'] at hoj; exact (Option.some.inj hoj).symm
            subst this
            rw [hdst] at hdj; cases hdj
          · rw [getD_set_ne false c] at hlj
            exact hsl j oj Vj dj hlj hoj hVj hdj
        | some d =>
          have hti : (all.toList.take h)[i]? = some o' := by rw [List.getElem?_take, if_pos hih]; exact ho'
          have h1 := (headOk_get hh i i o' o' d d hti hti hdst hdst).1
          refine ih _ ((d, V) :: tm) _ w' S' E' (hk'.put h1.2 hv') (fun k t hkt => ?_) hsz hun htl' hcl' fun j oj Vj dj hlj hoj hVj hdj => ?_
          · have hne : d ≠ k := by intro e; subst e; rw [h1.1] at hkt; cases hkt
            simp only [look, beq_ne hne, cond_false]
            exact hm k t hkt
          · by_cases c : i = j
            · subst c
              have : oj = o' := by rw [ho'] at hoj; exact (Option.some.inj hoj).symm
              subst this
              rw [hdst] at hdj; cases hdj
              rw [hV] at hVj; cases hVj
              simp [look]
            · rw [getD_set_ne false c] at hlj
              have hjh : j < h := by
                refine Classical.byContradiction fun hn => ?_
                have hjn : j < all.size := by have := (List.getElem?_eq_some_iff.1 hoj).1; simpa using this
                rw [htl j (by omega) hjn] at hlj; cases hlj
              have htj : (all.toList.take h)[j]? = some oj := by rw [List.getElem?_take, if_pos hjh]; exact hoj
              have hne := (headOk_get hh i j o' oj d dj hti htj hdst hdj).2 c
              simp only [look, beq_ne hne, cond_false]
              exact hsl j oj Vj dj hlj hoj hVj hdj)
      split at hstep
      · rename_i hg
        rw [if_pos hg]
        exact .inl hstep
      · rename_i hg
        rw [if_neg hg]
        exact hstep

theorem repl_get (n j : Nat) : (Array.replicate n false).getD j false = false := by
  simp only [Array.getD_eq_getD_getElem?, Array.getElem?_replicate]
  split <;> rfl

/-- A region that draws its order: the first h operations only read (or call what only makes memory). -/
theorem TieS.draw {ρ : Type} {ks : List K} {σ : St} {m : Option ρ} {Q : ρ → Exit → St → Prop} {id : Nat} (h : Nat) (Vs : List T) (tm0 : List (Nat × T)) (hp : List (Nat × Blk))
    (hmx : X.P.follows .mixedOrders = true) (hs : Sub ⟨tm0, hp⟩ σ) (hv : Vs.length = h) (hle : Nat.ble h all.size = true) (ht : tailOk all.toList h = true) (hh : headOk X.nt tm0 (all.toList.take h) = true)
    (steps : StepsQ X all Vs tm0 hp all.toList Vs) (rest : TieO X all (all.toList.drop h) ks ⟨fullOf all.toList Vs tm0, hp⟩ m Q) : TieS X (.c (.region id all true) :: ks) σ m Q := fun r hr a w hw => by
  obtain ⟨S, E, hk⟩ := hw.sub hs
  have hkeep : Keep (fun _ => False) w { w with drawn := w.drawn + 1 } := ⟨rfl, rfl, rfl, Nat.le_refl _, fun _ _ _ => rfl, Nat.le_succ _⟩
  refine wp_region_any hmx (any_head hv (Nat.le_of_ble_eq_true hle) ht hh steps (fun a w hs => rest r hr a w hs) _ _ tm0 a _ S E (hk.grow hkeep) (fun _ _ h => h) (by simp) ?_ ?_ ?_ ?_)
  · unfold unl
    have : ((List.range all.size).filter fun i => !(Array.replicate all.size false).getD i false) = List.range all.size := by
      rw [List.filter_eq_self]
      intro i hi
      rw [repl_get]; rfl
    rw [this]; simp
  · intro j _ _; exact repl_get _ _
  · intro j o ho hl
    rw [repl_get] at hl; cases hl
  · intro j o V d hl
    rw [repl_get] at hl; cases hl
end
end Go.Pv

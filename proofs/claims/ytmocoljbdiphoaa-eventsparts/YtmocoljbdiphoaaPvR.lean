/- The value machine, part R: equality of structs; loops over lists and numbers as recursions. -/
import Derived.Test.YtmocoljbdiphoaaPvQ
import Derived.Laws.StructEq
namespace Go.Pv
open Go.RowKit

def tvs (vs : List Value) : List T := vs.map fun v => .t (.v v)

def EqOk (P : Program) (ty : Nat) (vs us : List Value) (b : Bool) : Prop :=
  (∀ w, (Op.equalIn 10000 ty (.agg vs.toArray) (.agg us.toArray)).run P w = .ok b w) ∧ P.eqGuardType P.depth ty = false

theorem agg_tvs {w : World} {S : Nat → Prop} {E : Nat → Value} {v : Value} {vs : List Value} (h : RV w S E v (.agg (tvs vs))) : v = .agg vs.toArray := by
  cases h with
  | agg cs _ hl hr =>
    congr 2
    refine List.ext_getElem (by simpa [tvs] using hl) fun j h1 h2 => ?_
    have := hr j h1 (by simpa [tvs] using h2)
    simp only [tvs, List.getElem_map] at this
    exact this.tv

section
variable {ρ τ α : Type} {X : Cx} {ks : List K} {tm : List (Nat × T)} {hp : List (Nat × Blk)} {m : Option ρ} {Q : ρ → Exit → St → Prop} {all : Array Oper} {o : Oper} {rest : List Oper} {V : T}

theorem eq_run {ty yt : Nat} {x y : Operand} {vs us : List Value} {b : Bool} {a : Act} {w : World} (he : EqOk X.P ty vs us b) (hx : a.eval x = .agg vs.toArray) (hy : a.eval y = .agg us.toArray) :
    (o.op = .binOp .eql ty x y yt → (execOp a.eval o).run X.P w = .ok (.value (.bool b)) w) ∧ (o.op = .binOp .neq ty x y yt → (execOp a.eval o).run X.P w = .ok (.value (.bool (!b))) w) := by
  constructor <;> intro ho
  · simp only [execOp, ho, hx, hy, Sem.run_bind, run_eqGuard_agg w .eql ty x y _ _ he.2, Result.andThen_ok, run_eql_struct, he.1 w]; rfl
  · simp only [execOp, ho, hx, hy, Sem.run_bind, run_eqGuard_agg w .neq ty x y _ _ he.2, Result.andThen_ok, run_neq_struct, he.1 w]; rfl

theorem TieO.eqS {ty yt d : Nat} {x y : Operand} (vs us : List Value) {b : Bool} (he : EqOk X.P ty vs us b) (ho : o.op = .binOp .eql ty x y yt) (hd : o.dst = some d) (hdn : Nat.blt d X.nt = true) (hg : guardT all.toList tm o.guard = some true)
    (hx : val tm x = some (.agg (tvs vs))) (hy : val tm y = some (.agg (tvs us))) (h : TieO X all rest ks ⟨(d, .t (.v (.bool b))) :: tm, hp⟩ m Q) : TieO X all (o :: rest) ks ⟨tm, hp⟩ m Q :=
  TieO.one (m₁ := some b) (k := fun _ => m) hd hdn hg (fun b => .t (.v (.bool b))) (fun y' S E a w hm hk => by
    cases hm
    exact ⟨_, (eq_run he (agg_tvs (hk.val hx)) (agg_tvs (hk.val hy))).1 ho, .t (.v _)⟩) (fun y' hm => by cases hm; exact h)

theorem TieO.neS {ty yt d : Nat} {x y : Operand} (vs us : List Value) {b : Bool} (he : EqOk X.P ty vs us b) (ho : o.op = .binOp .neq ty x y yt) (hd : o.dst = some d) (hdn : Nat.blt d X.nt = true) (hg : guardT all.toList tm o.guard = some true)
    (hx : val tm x = some (.agg (tvs vs))) (hy : val tm y = some (.agg (tvs us))) (h : TieO X all rest ks ⟨(d, .t (.v (.bool (!b)))) :: tm, hp⟩ m Q) : TieO X all (o :: rest) ks ⟨tm, hp⟩ m Q :=
  TieO.one (m₁ := some (!b)) (k := fun _ => m) hd hdn hg (fun b => .t (.v (.bool b))) (fun y' S E a w hm hk => by
    cases hm
    exact ⟨_, (eq_run he (agg_tvs (hk.val hx)) (agg_tvs (hk.val hy))).2 ho, .t (.v _)⟩) (fun y' hm => by cases hm; exact h)

theorem StepQ.eqS {tmMin : List (Nat × T)} {ty yt : Nat} {x y : Operand} (vs us : List Value) {b : Bool} (he : EqOk X.P ty vs us b) (ho : o.op = .binOp .eql ty x y yt) (hg : guardT all.toList tmMin o.guard = some true)
    (hx : val tmMin x = some (.agg (tvs vs))) (hy : val tmMin y = some (.agg (tvs us))) : StepQ X all o tmMin hp (.t (.v (.bool b))) := by
  intro tm hm a w S E hk K Q' hK
  rw [guardT_ok hk (guardT_more hm hg), if_pos rfl]
  unfold Oper.wp
  rw [(eq_run (w := w) he (agg_tvs (hk.val (val_more hm hx))) (agg_tvs (hk.val (val_more hm hy)))).1 ho]
  exact hK _ _ _ _ hk (.t (.v _))

theorem StepQ.neS {tmMin : List (Nat × T)} {ty yt : Nat} {x y : Operand} (vs us : List Value) {b : Bool} (he : EqOk X.P ty vs us b) (ho : o.op = .binOp .neq ty x y yt) (hg : guardT all.toList tmMin o.guard = some true)
    (hx : val tmMin x = some (.agg (tvs vs))) (hy : val tmMin y = some (.agg (tvs us))) : StepQ X all o tmMin hp (.t (.v (.bool (!b)))) := by
  intro tm hm a w S E hk K Q' hK
  rw [guardT_ok hk (guardT_more hm hg), if_pos rfl]
  unfold Oper.wp
  rw [(eq_run (w := w) he (agg_tvs (hk.val (val_more hm hx))) (agg_tvs (hk.val (val_more hm hy)))).2 ho]
  exact hK _ _ _ _ hk (.t (.v _))
end

section
variable {P : Program} {w : World}
theorem eqf_nil {d : Nat} {xs ys : Array Value} : (Op.eqFields d xs ys []).run P w = .ok true w := rfl
theorem eqf_cons {d : Nat} {f : Field} {fs : List Field} {xs ys : Array Value} {a b : Value} {c r : Bool} (hn : f.name ≠ "_") (h1 : (part f.type xs f.offset).run P w = .ok a w) (h2 : (part f.type ys f.offset).run P w = .ok b w)
    (h3 : (Op.equalIn d f.type a b).run P w = .ok c w) (h4 : (Op.eqFields d xs ys fs).run P w = .ok r w) : (Op.eqFields d xs ys (f :: fs)).run P w = .ok (c && r) w := by
  cases c <;> simp [Op.eqFields, hn, h1, h2, h3, h4]
theorem part_one {t : Nat} {ti : TI} {cs : Array Value} {off : Nat} {v : Value} (hti : TIok P t ti) (hag : ti.desc.isAgg = false) (h : cs[off]? = some v) : (part t cs off).run P w = .ok v w := by
  simp [part, hti.run_agg, hag, h]
theorem part_agg {t : Nat} {ti : TI} {cs : Array Value} {off : Nat} {r : Array Value} (hti : TIok P t ti) (hag : ti.desc.isAgg = true) (h : cs.extract off (off + ti.size) = r) : (part t cs off).run P w = .ok (.agg r) w := by
  simp [part, hti.run_agg, hag, hti.run_size, h]
theorem eq_struct {d t : Nat} {xs ys : Array Value} {fs : List Field} {b : Bool} (hf : P.underlying t = some (.struct (P.fieldsOf t))) (hs : P.stoodInHeld t = false) (hl : (P.fieldsOf t).toList = fs) (h : (Op.eqFields d xs ys fs).run P w = .ok b w) :
    (Op.equalIn (d + 1) t (.agg xs) (.agg ys)).run P w = .ok b w := by
  rw [run_equalIn_struct w d t xs ys hf hs, hl, h]
end

/-! ### loops as recursions (plain Lean) -/

theorem w64_of {n : Int} (h1 : -9223372036854775808 ≤ n) (h2 : n ≤ 9223372036854775807) : w64 n = n := by
  unfold w64 IntKind.wrap
  simp only [IntKind.bits, IntKind.signed]
  simp only [show (2 : Int) ^ 64 = 18446744073709551616 from rfl, show (2 : Int) ^ (64 - 1) = 9223372036854775808 from rfl, Bool.true_and, decide_eq_true_eq]
  split <;> omega

def stepsN {S R : Type} (f : Int → S → Option (Fl S R)) : Nat → Int → S → Option (S ⊕ R)
  | 0, _, s => some (.inl s)
  | k + 1, i, s => (f i s).bind fun x => match x with
    | .next s' => stepsN f k (i + 1) s'
    | .brk s' => some (.inl s')
    | .ret r => some (.inr r)

def stepsL {α S R : Type} (f : Int → α → S → Option (Fl S R)) : List α → Int → S → Option (S ⊕ R)
  | [], _, s => some (.inl s)
  | y :: l, i, s => (f i y s).bind fun x => match x with
    | .next s' => stepsL f l (i + 1) s'
    | .brk s' => some (.inl s')
    | .ret r => some (.inr r)

theorem loopM_next {S B : Type} {mb : S → Option (S ⊕ B)} {s s' : S} (h : mb s = some (.inl s')) : loopM mb s = loopM mb s' := by rw [loopM_eq, h]; rfl
theorem loopM_out {S B : Type} {mb : S → Option (S ⊕ B)} {s : S} {b : B} (h : mb s = some (.inr b)) : loopM mb s = some b := by rw [loopM_eq, h]; rfl

theorem rangeN_steps {S R : Type} (n : Nat) (hn : n ≤ 9223372036854775807) (f : Int → S → Option (Fl S R)) (s : S) : rangeN (n : Int) f s = stepsN f n 0 s := by
  have key : ∀ (k : Nat) (i : Nat) (s : S), i + k = n → loopM (rangeBN (n : Int) f) ((i : Int), s) = stepsN f k i s := by
    intro k
    induction k with
    | zero =>
      intro i s hi
      have : ¬ ((i : Int) < (n : Int)) := by omega
      exact loopM_out (by simp [rangeBN, this])
    | succ k ih =>
      intro i s hi
      have hlt : (i : Int) < (n : Int) := by omega
      rw [loopM_eq]
      simp only [rangeBN, hlt, decide_true, cond_true, stepsN]
      cases hf : f i s with
      | none => rfl
      | some x =>
        simp only [Option.bind_some]
        cases x with
        | next s' =>
          simp only [rangeK, Option.bind_some]
          have := ih (i + 1) s' (by omega)
          rw [w64_of (by omega) (by omega)]
          push_cast at this
          exact this
        | brk s' => simp [rangeK]
        | ret r => simp [rangeK]
  have := key n 0 s (by omega)
  simpa using this

theorem getI_nat {α : Type} (l : List α) (i : Nat) : getI l (i : Int) = l[i]? := by simp [getI]

theorem rangeM_steps {α S R : Type} (l : List α) (hn : l.length ≤ 9223372036854775807) (f : Int → α → S → Option (Fl S R)) (s : S) : rangeM l f s = stepsL f l 0 s := by
  have key : ∀ (r : List α) (i : Nat) (s : S), l.drop i = r → i ≤ l.length → loopM (rangeB l f) ((i : Int), s) = stepsL f r i s := by
    intro r
    induction r with
    | nil =>
      intro i s hd hi
      have : ¬ ((i : Int) < (l.length : Int)) := by have := List.drop_eq_nil_iff.1 hd; omega
      exact loopM_out (by simp [rangeB, this])
    | cons y r ih =>
      intro i s hd hi
      have hi' : i < l.length := by
        rcases Nat.lt_or_ge i l.length with h | h
        · exact h
        · rw [List.drop_eq_nil_of_le h] at hd; cases hd
      have hlt : (i : Int) < (l.length : Int) := by omega
      have hy : l[i]? = some y := by rw [← List.head?_drop, hd]; rfl
      have hd' : l.drop (i + 1) = r := by rw [← List.drop_drop, hd]; rfl
      rw [loopM_eq]
      simp only [rangeB, hlt, decide_true, cond_true, stepsL, getI_nat, hy, Option.bind_some]
      cases hf : f i y s with
      | none => rfl
      | some x =>
        simp only [Option.bind_some]
        cases x with
        | next s' =>
          simp only [rangeK, Option.bind_some]
          have := ih (i + 1) s' hd' (by omega)
          rw [w64_of (by omega) (by omega)]
          push_cast at this
          exact this
        | brk s' => simp [rangeK]
        | ret r => simp [rangeK]
  have := key l 0 s rfl (Nat.zero_le _)
  simpa using this

/-- A loop that returns at the first element that is not p. -/
theorem stepsL_all {α R : Type} {f : Int → α → Unit → Option (Fl Unit R)} {p : α → Bool} {r : R} : ∀ (l : List α) (i : Int), (∀ i, ∀ y ∈ l, f i y () = some (bif p y then .next () else .ret r)) →
    stepsL f l i () = some (bif l.all p then .inl () else .inr r)
  | [], _, _ => rfl
  | y :: l, i, h => by
    simp only [stepsL, h i y (List.mem_cons_self ..), Option.bind_some, List.all_cons]
    cases hp : p y
    · rfl
    · exact stepsL_all l (i + 1) (fun i y' hy => h i y' (List.mem_cons_of_mem _ hy))

/-- A loop that folds. -/
theorem stepsL_fold {α S R : Type} {f : Int → α → S → Option (Fl S R)} {g : S → α → S} : ∀ (l : List α) (i : Int) (s : S), (∀ i s, ∀ y ∈ l, f i y s = some (.next (g s y))) → stepsL f l i s = some (.inl (l.foldl g s))
  | [], _, _, _ => rfl
  | y :: l, i, s, h => by
    simp only [stepsL, h i s y (List.mem_cons_self ..), Option.bind_some, List.foldl_cons]
    exact stepsL_fold l (i + 1) _ (fun i s y' hy => h i s y' (List.mem_cons_of_mem _ hy))

theorem stepsN_all {R : Type} {f : Int → Unit → Option (Fl Unit R)} {p : Nat → Bool} {r : R} : ∀ (k i : Nat), (∀ j, i ≤ j → j < i + k → f j () = some (bif p j then .next () else .ret r)) →
    stepsN f k i () = some (bif (List.range' i k).all p then .inl () else .inr r)
  | 0, _, _ => rfl
  | k + 1, i, h => by
    simp only [stepsN, h i (Nat.le_refl _) (by omega), Option.bind_some, List.range'_succ, List.all_cons]
    cases hp : p i
    · rfl
    · have := stepsN_all k (i + 1) (fun j h1 h2 => h j (by omega) (by omega))
      push_cast at this
      exact this

/-- A counting loop that leaves at the first number that is not p. -/
theorem loopM_all {S B : Type} {mb : S → Option (S ⊕ B)} (σ : Nat → S) {p : Nat → Bool} {b0 b1 : B} (n : Nat) (hend : mb (σ n) = some (.inr b0)) (h : ∀ k, k < n → mb (σ k) = some (bif p k then .inl (σ (k + 1)) else .inr b1)) :
    loopM mb (σ 0) = some (bif (List.range' 0 n).all p then b0 else b1) := by
  have key : ∀ k i, i + k = n → loopM mb (σ i) = some (bif (List.range' i k).all p then b0 else b1) := by
    intro k
    induction k with
    | zero => intro i hi; have : i = n := by omega
              subst this; exact loopM_out hend
    | succ k ih =>
      intro i hi
      have h1 := h i (by omega)
      rw [List.range'_succ, List.all_cons]
      cases hp : p i
      · rw [hp] at h1; exact loopM_out h1
      · rw [hp] at h1; rw [loopM_next h1, ih (i + 1) (by omega)]; rfl
  exact key n 0 (by omega)

/-- A counting loop that goes through. -/
theorem loopM_count {S B : Type} {mb : S → Option (S ⊕ B)} (σ : Nat → S) {b0 : B} (n : Nat) (hend : mb (σ n) = some (.inr b0)) (h : ∀ k, k < n → mb (σ k) = some (.inl (σ (k + 1)))) : loopM mb (σ 0) = some b0 := by
  have key : ∀ k i, i + k = n → loopM mb (σ i) = some b0 := by
    intro k
    induction k with
    | zero => intro i hi; have : i = n := by omega
              subst this; exact loopM_out hend
    | succ k ih => intro i hi; rw [loopM_next (h i (by omega)), ih (i + 1) (by omega)]
  exact key n 0 (by omega)

/-- A counting loop over a list that folds. -/
theorem loopM_fold {α S S' B : Type} {mb : S' → Option (S' ⊕ B)} (σ : Nat → S → S') {g : S → α → S} {out : S → B} (l : List α) (s0 : S) (hend : ∀ s, mb (σ l.length s) = some (.inr (out s)))
    (h : ∀ k s y, l[k]? = some y → mb (σ k s) = some (.inl (σ (k + 1) (g s y)))) : loopM mb (σ 0 s0) = some (out (l.foldl g s0)) := by
  have key : ∀ (r : List α) (i : Nat) (s : S), l.drop i = r → i ≤ l.length → loopM mb (σ i s) = some (out (r.foldl g s)) := by
    intro r
    induction r with
    | nil =>
      intro i s hd hi
      have : i = l.length := by have := List.drop_eq_nil_iff.1 hd; omega
      subst this
      exact loopM_out (hend s)
    | cons y r ih =>
      intro i s hd hi
      have hi' : i < l.length := by
        rcases Nat.lt_or_ge i l.length with h | h
        · exact h
        · rw [List.drop_eq_nil_of_le h] at hd; cases hd
      have hy : l[i]? = some y := by rw [← List.head?_drop, hd]; rfl
      have hd' : l.drop (i + 1) = r := by rw [← List.drop_drop, hd]; rfl
      rw [loopM_next (h i s y hy), ih (i + 1) _ hd' (by omega)]
      rfl
  exact key l 0 s0 rfl (Nat.zero_le _)

/-- A counting loop over a list that leaves at the first element that is not p. -/
theorem loopM_allL {α S B : Type} {mb : S → Option (S ⊕ B)} (σ : Nat → S) {p : α → Bool} {b0 b1 : B} (l : List α) (hend : mb (σ l.length) = some (.inr b0)) (h : ∀ k y, l[k]? = some y → mb (σ k) = some (bif p y then .inl (σ (k + 1)) else .inr b1)) :
    loopM mb (σ 0) = some (bif l.all p then b0 else b1) := by
  have key : ∀ (r : List α) (i : Nat), l.drop i = r → i ≤ l.length → loopM mb (σ i) = some (bif r.all p then b0 else b1) := by
    intro r
    induction r with
    | nil =>
      intro i hd hi
      have : i = l.length := by have := List.drop_eq_nil_iff.1 hd; omega
      subst this
      exact loopM_out hend
    | cons y r ih =>
      intro i hd hi
      have hi' : i < l.length := by
        rcases Nat.lt_or_ge i l.length with h | h
        · exact h
        · rw [List.drop_eq_nil_of_le h] at hd; cases hd
      have hy : l[i]? = some y := by rw [← List.head?_drop, hd]; rfl
      have hd' : l.drop (i + 1) = r := by rw [← List.drop_drop, hd]; rfl
      have h1 := h i y hy
      rw [List.all_cons]
      cases hp : p y
      · rw [hp] at h1; exact loopM_out h1
      · rw [hp] at h1; rw [loopM_next h1, ih (i + 1) hd' (by omega)]; rfl
  exact key l 0 rfl (Nat.zero_le _)

theorem bif_some {α : Type} (b : Bool) (x y : α) : (bif b then some x else some y) = some (bif b then x else y) := by cases b <;> rfl
theorem bif_not {α : Type} (b : Bool) (x y : α) : (bif !b then x else y) = bif b then y else x := by cases b <;> rfl
end Go.Pv

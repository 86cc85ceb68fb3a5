/- The value machine, part S: more loops as recursions; searching. Plain Lean. -/
import Derived.Test.YtmocoljbdiphoaaPvR
namespace Go.Pv
open Go.RowKit

/-- A loop over the numbers below a list's length that begins with that element. -/
theorem rangeN_list {α S R : Type} (l : List α) (hn : l.length ≤ 9223372036854775807) (g : Int → α → S → Option (Fl S R)) (s : S) :
    rangeN (l.length : Int) (fun i s => (getI l i).bind fun x => g i x s) s = stepsL g l 0 s := by
  rw [rangeN_steps _ hn]
  have key : ∀ (r : List α) (i : Nat) (s : S), l.drop i = r → stepsN (fun i s => (getI l i).bind fun x => g i x s) r.length (i : Int) s = stepsL g r (i : Int) s := by
    intro r
    induction r with
    | nil => intro i s _; rfl
    | cons y r ih =>
      intro i s hd
      have hy : l[i]? = some y := by rw [← List.head?_drop, hd]; rfl
      have hd' : l.drop (i + 1) = r := by rw [← List.drop_drop, hd]; rfl
      simp only [List.length_cons, stepsN, stepsL, getI_nat, hy, Option.bind_some]
      cases hg : g i y s with
      | none => rfl
      | some x =>
        cases x with
        | next s' =>
          have := ih (i + 1) s' hd'
          push_cast at this
          simpa using this
        | brk s' => rfl
        | ret r' => rfl
  have := key l 0 s rfl
  simpa using this

/-- A search by index. -/
theorem stepsL_index {α : Type} {f : Int → α → Unit → Option (Fl Unit Int)} {p : α → Bool} : ∀ (l : List α) (i : Int), 0 ≤ i → (∀ i, ∀ y ∈ l, f i y () = some (bif p y then .ret i else .next ())) →
    ∃ r, stepsL f l i () = some r ∧ (match r with | .inl _ => l.any p = false | .inr j => 0 ≤ j ∧ l.any p = true)
  | [], _, _, _ => ⟨.inl (), rfl, rfl⟩
  | y :: l, i, hi, h => by
    simp only [stepsL, h i y (List.mem_cons_self ..), Option.bind_some, List.any_cons]
    cases hp : p y
    · obtain ⟨r, h1, h2⟩ := stepsL_index l (i + 1) (by omega) (fun i y' hy => h i y' (List.mem_cons_of_mem _ hy))
      refine ⟨r, h1, ?_⟩
      cases r <;> simpa using h2
    · exact ⟨.inr i, rfl, hi, rfl⟩

theorem index_any {α : Type} (l : List α) (hn : l.length ≤ 9223372036854775807) (f : α → Option Bool) (p : α → Bool) (h : ∀ y ∈ l, f y = some (p y)) :
    (Option.bind (Option.bind (rangeN (l.length : Int) (fun (i : Int) (_ : Unit) => Option.bind (getI l i) fun x => Option.bind (f x) fun v => bif v then (some (Fl.ret i)) else (some (Fl.next ()))) ()) fun (t : Unit ⊕ Int) => match t with | .inl _ => (some (-1)) | .inr r2 => some r2) fun v => some (decide (v ≥ 0))) = some (l.any p) := by
  rw [rangeN_list l hn (fun (i : Int) x (_ : Unit) => Option.bind (f x) fun v => bif v then (some (Fl.ret i)) else (some (Fl.next ())))]
  obtain ⟨r, h1, h2⟩ := stepsL_index (f := fun (i : Int) x (_ : Unit) => Option.bind (f x) fun v => bif v then (some (Fl.ret i)) else (some (Fl.next ()))) (p := p) l 0 (Int.le_refl 0) (fun i y hy => by
    simp only [h y hy, Option.bind_some]; cases p y <;> rfl)
  rw [h1]
  cases r with
  | inl u => simp only [Option.bind_some]; simp at h2; simp; intro x hx; simpa using h2 x hx
  | inr j => simp only [Option.bind_some]; rw [h2.2]; simp [h2.1]
end Go.Pv

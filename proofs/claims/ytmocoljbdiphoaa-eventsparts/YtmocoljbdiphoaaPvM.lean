/- The value machine, part M: joins of pure branches; the words in which models are written. -/
import Derived.Test.YtmocoljbdiphoaaPvL
namespace Go.Pv
open Go.RowKit

abbrev tK (k : IntKind) (n : Int) : Tree := .v (.int k n)
abbrev tI (n : Int) : Tree := .v (.int .i64 n)
abbrev tB (b : Bool) : Tree := .v (.bool b)
abbrev tS {α : Type} (enc : α → List Tree) (l : List α) : Tree := .sl l.length (l.map enc)
abbrev w64 (n : Int) : Int := IntKind.i64.wrap n
def encI (n : Int) : List Tree := [tI n]
def encB (b : Bool) : List Tree := [tB b]
def encS {α : Type} (enc : α → List Tree) (l : List α) : List Tree := [tS enc l]
abbrev T.I (n : Int) : T := .t (tI n)
abbrev T.B (b : Bool) : T := .t (tB b)
abbrev T.S {α : Type} (enc : α → List Tree) (l : List α) : T := .t (tS enc l)
abbrev T.fn (n : Nat) : T := .fz n []

inductive Fl (S R : Type) where
  | next (s : S)
  | brk (s : S)
  | ret (r : R)

abbrev rangeK {S R : Type} (i : Int) (f : Fl S R) : Option ((Int × S) ⊕ (S ⊕ R)) :=
  match f with
  | .next s => some (.inl (w64 (i + 1), s))
  | .brk s => some (.inr (.inl s))
  | .ret r => some (.inr (.inr r))

abbrev rangeB {α S R : Type} (l : List α) (f : Int → α → S → Option (Fl S R)) (p : Int × S) : Option ((Int × S) ⊕ (S ⊕ R)) :=
  bif decide (p.1 < l.length) then (getI l p.1).bind fun x => (f p.1 x p.2).bind (rangeK p.1) else some (.inr (.inl p.2))

/-- for i, x := range l -/
noncomputable abbrev rangeM {α S R : Type} (l : List α) (f : Int → α → S → Option (Fl S R)) (s : S) : Option (S ⊕ R) := loopM (rangeB l f) (0, s)

abbrev rangeBN {S R : Type} (n : Int) (f : Int → S → Option (Fl S R)) (p : Int × S) : Option ((Int × S) ⊕ (S ⊕ R)) :=
  bif decide (p.1 < n) then (f p.1 p.2).bind (rangeK p.1) else some (.inr (.inl p.2))

/-- for i := range n -/
noncomputable abbrev rangeN {S R : Type} (n : Int) (f : Int → S → Option (Fl S R)) (s : S) : Option (S ⊕ R) := loopM (rangeBN n f) (0, s)

section
variable {ρ τ : Type} {X : Cx} {ks : List K} {σ : St} {m : Option ρ} {Q : ρ → Exit → St → Prop}

/-- A piece of code that always comes to one state. -/
theorem TieS.bindP {x : Code} {v : τ} (σ₁ : τ → St) (h₁ : TieS X [.c x] σ (some v) (fun t e σ' => e = .normal ∧ Sub (σ₁ t) σ')) (h₂ : TieS X ks (σ₁ v) m Q) : TieS X (.c x :: ks) σ m Q := by
  have hm : m = (some v).bind (fun _ => m) := rfl
  rw [hm]
  refine TieS.bind h₁ fun t e σ' ht ⟨he, hs⟩ => ?_
  cases ht; subst he
  exact TieX.sub hs h₂

theorem TieS.condP {c : Operand} {x y : Code} {b : Bool} {v v' : ρ} (hc : val σ.tm c = some (.t (.v (.bool b)))) (h₁ : TieS X (.c x :: ks) σ (some v) Q) (h₂ : TieS X (.c y :: ks) σ (some v') Q) :
    TieS X (.c (.cond c x y) :: ks) σ (some (bif b then v else v')) Q := by
  have := TieS.cond hc h₁ h₂
  have e : (bif b then some v else some v') = some (bif b then v else v') := by cases b <;> rfl
  rwa [e] at this

theorem TieS.condL {c : Operand} {x y : Code} (hc : val σ.tm c = some (.t (.v (.bool true)))) (h₁ : TieS X (.c x :: ks) σ m Q) : TieS X (.c (.cond c x y) :: ks) σ m Q := fun r hr a w ⟨S, E, hk⟩ =>
  wp_cond_true ((hk.val hc).tv) (h₁ r hr a w ⟨S, E, hk⟩)
theorem TieS.condR {c : Operand} {x y : Code} (hc : val σ.tm c = some (.t (.v (.bool false)))) (h₂ : TieS X (.c y :: ks) σ m Q) : TieS X (.c (.cond c x y) :: ks) σ m Q := fun r hr a w ⟨S, E, hk⟩ =>
  wp_cond_false ((hk.val hc).tv) (h₂ r hr a w ⟨S, E, hk⟩)

/-- A value under a name. -/
theorem TieS.name {v : τ} {k : τ → Option ρ} (σ₁ : τ → St) (hs : Sub (σ₁ v) σ) (h : ∀ t, TieS X ks (σ₁ t) (k t) Q) : TieS X ks σ ((some v).bind k) Q := TieX.sub hs (h v)

/-- What is needless in a model goes. -/
theorem TieX.drop {m₁ : Option τ} {e : Exit} (h : TieX X ks e σ m Q) : TieX X ks e σ (m₁.bind fun _ => m) Q := fun r hr => by
  cases hm : m₁ with
  | none => simp [hm] at hr
  | some t => exact h r (by simpa [hm] using hr)
end
end Go.Pv

/- The value machine, part J: loops, functions and calls. -/
import Derived.Test.YtmocoljbdiphoaaPvI
namespace Go.Pv
open Go.RowKit

/-- Rounds until one of them leaves. -/
inductive Loops {S B : Type} (mb : S → Option (S ⊕ B)) : S → B → Prop
  | out {s : S} {b : B} : mb s = some (.inr b) → Loops mb s b
  | next {s s' : S} {b : B} : mb s = some (.inl s') → Loops mb s' b → Loops mb s b

theorem Loops.det {S B : Type} {mb : S → Option (S ⊕ B)} {s : S} {b b' : B} (h : Loops mb s b) (h' : Loops mb s b') : b = b' := by
  induction h with
  | out h =>
    cases h' with
    | out k => rw [h] at k; cases k; rfl
    | next k _ => rw [h] at k; cases k
  | next h _ ih =>
    cases h' with
    | out k => rw [h] at k; cases k
    | next k k' => rw [h] at k; cases k; exact ih k'

open Classical in
/-- A loop as a function: what the last round gives; none if a round fails or there is no last one. -/
noncomputable def loopM {S B : Type} (mb : S → Option (S ⊕ B)) (s : S) : Option B := if h : ∃ b, Loops mb s b then some h.choose else none

theorem loopM_iff {S B : Type} {mb : S → Option (S ⊕ B)} {s : S} {b : B} : loopM mb s = some b ↔ Loops mb s b := by
  unfold loopM
  constructor
  · intro h
    split at h
    · rename_i hx; cases h; exact hx.choose_spec
    · cases h
  · intro h
    have hx : ∃ b, Loops mb s b := ⟨b, h⟩
    rw [dif_pos hx, Loops.det hx.choose_spec h]

theorem loopM_eq {S B : Type} (mb : S → Option (S ⊕ B)) (s : S) : loopM mb s = (mb s).bind fun f => match f with | .inl s' => loopM mb s' | .inr b => some b := by
  cases hm : mb s with
  | none =>
    simp only [Option.bind_none]
    cases hl : loopM mb s with
    | none => rfl
    | some b => have := loopM_iff.1 hl; cases this with
      | out h => rw [hm] at h; cases h
      | next h _ => rw [hm] at h; cases h
  | some f =>
    cases f with
    | inr b => simp only [Option.bind_some]; exact loopM_iff.2 (.out hm)
    | inl s' =>
      simp only [Option.bind_some]
      cases hl : loopM mb s' with
      | some b => exact loopM_iff.2 (.next hm (loopM_iff.1 hl))
      | none =>
        cases hl' : loopM mb s with
        | none => rfl
        | some b => have := loopM_iff.1 hl'; cases this with
          | out h => rw [hm] at h; cases h
          | next h k => rw [hm] at h; cases h; rw [loopM_iff.2 k] at hl; cases hl

theorem loops_wp {S B : Type} {mb : S → Option (S ⊕ B)} {P : Program} {c : Code} {I : S → Act → World → Prop} {R : Exit → Act → World → Prop} {QB : B → Exit → Act → World → Prop}
    (body : ∀ s f, mb s = some f → ∀ a w, I s a w → c.wp P (fun e a w => match f with | .inl s' => e = .normal ∧ I s' a w | .inr b => e ≠ .normal ∧ QB b e a w) a w)
    {s : S} {b : B} (h : Loops mb s b) (hR : ∀ e a w, e ≠ .normal → QB b e a w → R e a w) : ∀ a w, I s a w → (Code.loop c).wp P R a w := by
  have key : ∀ a w, I s a w → ∀ (bf : Frame) (k : List Item) (cs : List Frame), ∃ e a' w', R e a' w' ∧ Arrives P (lone (bf.at a (.code c :: .inLoop c :: k)) cs w) bf k cs e a' w' := by
    induction h with
    | out hm =>
      intro a w hI bf k cs
      obtain ⟨e, a₁, w₁, ⟨hne, hq⟩, harr⟩ := body _ _ hm a w hI bf (.inLoop c :: k) cs
      exact ⟨e, a₁, w₁, hR e a₁ w₁ hne hq, .pass (x := .inLoop c) rfl (fun _ _ => .inl hne) harr⟩
    | next hm _ ih =>
      intro a w hI bf k cs
      obtain ⟨e, a₁, w₁, ⟨rfl, hI₁⟩, harr⟩ := body _ _ hm a w hI bf (.inLoop c :: k) cs
      obtain ⟨e₂, a₂, w₂, hq₂, harr₂⟩ := ih hR a₁ w₁ hI₁ bf k cs
      exact ⟨e₂, a₂, w₂, hq₂, .of_steps (Steps.trans harr (.one step_inLoop)) harr₂⟩
  intro a w hI bf k cs
  obtain ⟨e, a', w', hq, harr⟩ := key a w hI bf k cs
  exact ⟨e, a', w', hq, .of_steps (.one step_loop) harr⟩

section
variable {ρ : Type} {X : Cx} {ks : List K} {σ : St} {m : Option ρ} {Q : ρ → Exit → St → Prop}

/-- A loop: its state at each round's head is a function of s. -/
theorem TieS.loop {S B : Type} {c : Code} {mb : S → Option (S ⊕ B)} {k : B → Option ρ} (σs : S → St) (QB : B → Exit → St → Prop) {s₀ : S} (h0 : Sub (σs s₀) σ)
    (body : ∀ s, TieS X [.c c] (σs s) (mb s) (fun f e σ' => match f with | .inl s' => e = .normal ∧ Sub (σs s') σ' | .inr b => e ≠ .normal ∧ QB b e σ'))
    (rest : ∀ b e σ', e ≠ .normal → QB b e σ' → TieX X ks e σ' (k b) Q) : TieS X (.c (.loop c) :: ks) σ ((loopM mb s₀).bind k) Q := fun r hr a w hw => by
  cases hm : loopM mb s₀ with
  | none => simp [hm] at hr
  | some b =>
    simp only [hm, Option.bind_some] at hr
    refine loops_wp (I := fun s a w => Sim X.w0 X.L X.nt (σs s) a w) (QB := fun b e a w => X.post (QB b) e a w) (fun s f hf a w hI => ?_) (loopM_iff.1 hm) (fun e a' w' hne hq => ?_) a w (hw.sub h0)
    · refine wp_mono (body s f hf a w hI) fun e a' w' ⟨σ', hs, hq⟩ => ?_
      cases f with
      | inl s' => exact ⟨hq.1, hs.sub hq.2⟩
      | inr b' => exact ⟨hq.1, σ', hs, hq.2⟩
    · obtain ⟨σ', hs, hq⟩ := hq
      have := rest b e σ' hne hq r hr a' w' hs
      cases e <;> first | exact this | exact absurd rfl hne
end

/-- A function's contract: on arguments that read as args, where m is some r, the call returns what reads as res r; nothing that was there has turned. -/
def TieF {ρ : Type} (P : Program) (n : FuncId) (args : List T) (m : Option ρ) (res : ρ → T) : Prop :=
  (∀ vs w, (callFunc n vs).run P w = .ok (.enter n vs) w) ∧
  ∀ r, m = some r → ∀ (w : World) (S : Nat → Prop) (E : Nat → Value) (vs : List Value), (∀ b, S b → b < w.heap.size) → RVL w S E vs args →
    Calls P n vs.toArray w fun e w' => ∃ v S', e = .returned v ∧ RV w' S' E v (res r) ∧ Keep (fun _ => False) w w' ∧ (∀ b, S' b → b < w'.heap.size) ∧ (∀ b, S' b → S b ∨ w.heap.size ≤ b)

mutual
/-- A slot's content without a name of the call's own in it: what is its own reads as it stands. -/
def frzT (hp : List (Nat × Blk)) : T → Option T
  | .own id => match look hp id with | some (.rows _ _ n rs) => some (.t (.sl n rs)) | _ => none
  | .agg l => (frzL hp l).map .agg
  | .tup l => (frzL hp l).map .tup
  | .t x => some (.t (nilTree x))
  | .el c => some (.el c)
  | .fz n c => some (.fz n c)
  | .clo n l => (frzL hp l).bind fun r => (els r).map (.fz n)
  | _ => none
def frzL (hp : List (Nat × Blk)) : List T → Option (List T)
  | [] => some []
  | x :: r => match frzT hp x, frzL hp r with | some y, some l => some (y :: l) | _, _ => none
end

mutual
def scalar : T → Bool
  | .t (.v _) => true
  | .agg l => scalarL l
  | .tup l => scalarL l
  | _ => false
def scalarL : List T → Bool
  | [] => true
  | x :: r => scalar x && scalarL r
end

theorem scalarL_get : ∀ {l : List T}, scalarL l = true → ∀ j (h : j < l.length), scalar (l[j]) = true
  | [], _, j, h => by simp at h
  | x :: r, hn, j, h => by
    simp only [scalarL, Bool.and_eq_true] at hn
    cases j with
    | zero => exact hn.1
    | succ j => exact scalarL_get hn.2 j (by simpa using h)

theorem RV.scalar {w w' : World} {S S' : Nat → Prop} {E E' : Nat → Value} {v : Value} {t : T} (h : RV w S E v t) (hs : Pv.scalar t = true) : RV w' S' E' v t := by
  induction h with
  | t h =>
    cases h with
    | v => exact .t (.v _)
    | _ => simp [Pv.scalar] at hs
  | agg vs l hl _ ih => exact .agg vs l hl fun j h1 h2 => ih j h1 h2 (scalarL_get (by simpa [Pv.scalar] using hs) j h2)
  | tup vs l hl _ ih => exact .tup vs l hl fun j h1 h2 => ih j h1 h2 (scalarL_get (by simpa [Pv.scalar] using hs) j h2)
  | _ => simp [Pv.scalar] at hs

/-- The blocks of the call's own slices. -/
def ownRows (hp : List (Nat × Blk)) (E : Nat → Value) (b : Nat) : Prop := ∃ id e sz n rs, look hp id = some (.rows e sz n rs) ∧ blkOf (E id) = some b

section
variable {w0 : World} {L : Lim} {nt : Nat} {σ : St} {S : Nat → Prop} {E : Nat → Value} {a : Act} {w : World}

theorem rows_tree (h : Ok w0 L nt σ S E a w) {id e sz n : Nat} {rs : List (List Tree)} (hb : look σ.hp id = some (.rows e sz n rs)) (S' : Nat → Prop) (hS : ∀ b, S b → S' b) (hO : ∀ b, ownRows σ.hp E b → S' b) :
    RT w S' (E id) (.sl n rs) := by
  obtain ⟨hn, hx⟩ := h.hp id _ hb
  subst hn
  rcases hx with ⟨hE, hr⟩ | ⟨β, cap, vs, _, hE, hh, hl, hc, hsz, hr⟩
  · subst hr; rw [hE]; exact .slE _ _
  · rw [hE]
    have hb1 : ∀ i j, i < rs.length → j < sz → i * sz + j < vs.length := by
      intro i j hi hj
      have h1 : (i + 1) * sz ≤ cap * sz := Nat.mul_le_mul_right _ (by omega)
      rw [Nat.succ_mul] at h1
      omega
    refine .sl β 0 cap sz rs (fun i j => vs.getD (i * sz + j) undef) hc (hO β ⟨id, e, sz, _, rs, hb, by rw [hE]; rfl⟩) hsz (fun i j hi hj => ?_) (fun i j hi hj => ?_)
    · have := hb1 i j hi hj
      rw [cell_of_row w β _ _ e _ hh]
      simp [this]
    · have hj' : j < sz := by rw [← hsz (rs[i]) (List.getElem_mem hi)]; exact hj
      have := hb1 i j hi hj'
      have hq := hr i j hi hj this
      simp only [List.getD_eq_getElem?_getD, List.getElem?_eq_getElem this, Option.getD_some]
      exact hq.mono hS (fun _ _ => rfl)

mutual
theorem frzT_ok (h : Ok w0 L nt σ S E a w) {S' : Nat → Prop} (hS : ∀ b, S b → S' b) (hO : ∀ b, ownRows σ.hp E b → S' b) : ∀ {t u : T} {v : Value}, RV w S E v t → frzT σ.hp t = some u → ∀ E', RV w S' E' v u
  | .t x, u, v, hv, hf, E' => by
    simp only [frzT, Option.some.injEq] at hf; subst hf
    cases hv with | t hx => exact .t (nilTree_ok (hx.mono hS (fun _ _ => rfl)))
  | .el c, u, v, hv, hf, E' => by
    simp only [frzT, Option.some.injEq] at hf; subst hf
    cases hv with | el b o _ vs hb hc hr => exact .el b o _ vs (hS b hb) hc (fun j hj => (hr j hj).mono hS (fun _ _ => rfl))
  | .own id, u, v, hv, hf, E' => by
    simp only [frzT] at hf
    split at hf <;> try (cases hf; done)
    rename_i el sz n rs hb
    simp only [Option.some.injEq] at hf; subst hf
    cases hv with | own _ _ hE => subst hE; exact .t (rows_tree h hb S' hS hO)
  | .agg l, u, v, hv, hf, E' => by
    simp only [frzT] at hf
    cases hl : frzL σ.hp l with
    | none => simp [hl] at hf
    | some r =>
      simp only [hl, Option.map_some, Option.some.injEq] at hf; subst hf
      cases hv with | agg vs _ hlen hr => have := frzL_ok h hS hO ⟨hlen, hr⟩ hl E'; exact .agg vs r this.1 this.2
  | .tup l, u, v, hv, hf, E' => by
    simp only [frzT] at hf
    cases hl : frzL σ.hp l with
    | none => simp [hl] at hf
    | some r =>
      simp only [hl, Option.map_some, Option.some.injEq] at hf; subst hf
      cases hv with | tup vs _ hlen hr => have := frzL_ok h hS hO ⟨hlen, hr⟩ hl E'; exact .tup vs r this.1 this.2
  | .fz n c, u, v, hv, hf, E' => by
    simp only [frzT, Option.some.injEq] at hf; subst hf
    cases hv with | fz _ vs _ hl hr => exact .fz n vs c hl (fun j h1 h2 => (hr j h1 h2).mono hS (fun _ _ => rfl))
  | .clo n l, u, v, hv, hf, E' => by
    simp only [frzT] at hf
    cases hl : frzL σ.hp l with
    | none => simp [hl] at hf
    | some r =>
      simp only [hl, Option.bind_some] at hf
      cases hr : els r with
      | none => simp [hr] at hf
      | some c =>
        simp only [hr, Option.map_some, Option.some.injEq] at hf; subst hf
        cases hv with | clo _ vs _ hlen hrr => have := frzL_ok h hS hO ⟨hlen, hrr⟩ hl E'; exact RV.to_fz (.clo n vs r this.1 this.2) hr
  | .ptr _ _, _, _, _, hf, _ => by simp [frzT] at hf
  | .pe _ _ _ _, _, _, _, hf, _ => by simp [frzT] at hf
  | .any, _, _, _, hf, _ => by simp [frzT] at hf
theorem frzL_ok (h : Ok w0 L nt σ S E a w) {S' : Nat → Prop} (hS : ∀ b, S b → S' b) (hO : ∀ b, ownRows σ.hp E b → S' b) : ∀ {l r : List T} {vs : List Value}, RVL w S E vs l → frzL σ.hp l = some r → ∀ E', RVL w S' E' vs r
  | [], r, vs, hv, hf, E' => by
    simp only [frzL, Option.some.injEq] at hf; subst hf
    exact ⟨hv.1, fun j _ h2 => by simp at h2⟩
  | x :: l, r, vs, hv, hf, E' => by
    simp only [frzL] at hf
    split at hf <;> try (cases hf; done)
    rename_i y l' hy hl'
    simp only [Option.some.injEq] at hf; subst hf
    cases vs with
    | nil => have := hv.1; simp at this
    | cons v vs =>
      have h1 := frzT_ok h hS hO (t := x) (hv.2 0 (by simp) (by simp)) hy E'
      have h2 := frzL_ok h hS hO (l := l) (vs := vs) ⟨by simpa using hv.1, fun j a b => hv.2 (j + 1) (by simpa using a) (by simpa using b)⟩ hl' E'
      refine ⟨by simp [h2.1], fun j a b => ?_⟩
      cases j with
      | zero => exact h1
      | succ j => exact h2.2 j (by simpa using a) (by simpa using b)
end
end
end Go.Pv

/- The value machine, part P: what is the call's own becomes what stays; appends; names. -/
import Derived.Test.YtmocoljbdiphoaaPvO
namespace Go.Pv
open Go.RowKit

theorem tab_step {P : Program} {t : Nat} {ti : TI} {t0 : Nat} {ti0 : TI} {r : Tab} (h : look ((t0, ti0) :: r) t = some ti) (h0 : TIok P t0 ti0) (k : look r t = some ti → TIok P t ti) : TIok P t ti := by
  simp only [look] at h
  by_cases ht : t0 = t
  · subst ht; simp only [Nat.beq_refl, cond_true, Option.some.injEq] at h; subst h; exact h0
  · simp only [beq_ne ht, cond_false] at h; exact k h

mutual
/-- The call's own slice id, where it stands, is u. -/
def subT1 (id : Nat) (u : T) : T → T
  | .own i => bif Nat.beq i id then u else .own i
  | .agg l => .agg (subTL id u l)
  | .tup l => .tup (subTL id u l)
  | .clo f l => .clo f (subTL id u l)
  | x => x
def subTL (id : Nat) (u : T) : List T → List T
  | [] => []
  | x :: r => subT1 id u x :: subTL id u r
end

def subTm (id : Nat) (u : T) : List (Nat × T) → List (Nat × T)
  | [] => []
  | (k, x) :: r => (k, subT1 id u x) :: subTm id u r
def subHp (id : Nat) (u : T) : List (Nat × Blk) → List (Nat × Blk)
  | [] => []
  | (k, .box l) :: r => bif Nat.beq k id then subHp id u r else (k, .box (subTL id u l)) :: subHp id u r
  | (k, x) :: r => bif Nat.beq k id then subHp id u r else (k, x) :: subHp id u r

theorem subTL_length (id : Nat) (u : T) : ∀ l : List T, (subTL id u l).length = l.length
  | [] => rfl
  | x :: r => by simp [subTL, subTL_length id u r]

section
variable {w : World} {S S' : Nat → Prop} {E : Nat → Value} {id : Nat} {u : T}

mutual
theorem subT1_ok (hS : ∀ b, S b → S' b) (hu : RV w S' E (E id) u) : ∀ {t : T} {v : Value}, RV w S E v t → RV w S' E v (subT1 id u t)
  | .t x, v, h => by simp only [subT1]; exact h.mono hS (fun _ _ => rfl) (fun _ _ => rfl)
  | .el c, v, h => by simp only [subT1]; exact h.mono hS (fun _ _ => rfl) (fun _ _ => rfl)
  | .ptr i o, v, h => by simp only [subT1]; exact h.mono hS (fun _ _ => rfl) (fun _ _ => rfl)
  | .pe i a b c, v, h => by simp only [subT1]; exact h.mono hS (fun _ _ => rfl) (fun _ _ => rfl)
  | .own i, v, h => by
    simp only [subT1]
    by_cases hi : i = id
    · subst hi
      simp only [Nat.beq_refl, cond_true]
      cases h with | own _ _ hE => rw [← hE]; exact hu
    · simp only [beq_ne hi, cond_false]; exact h.mono hS (fun _ _ => rfl) (fun _ _ => rfl)
  | .agg l, v, h => by
    simp only [subT1]
    cases h with | agg vs _ hl hr => have := subTL_ok hS hu (l := l) (vs := vs) ⟨hl, hr⟩; exact .agg vs _ this.1 this.2
  | .tup l, v, h => by
    simp only [subT1]
    cases h with | tup vs _ hl hr => have := subTL_ok hS hu (l := l) (vs := vs) ⟨hl, hr⟩; exact .tup vs _ this.1 this.2
  | .clo f l, v, h => by
    simp only [subT1]
    cases h with | clo _ vs _ hl hr => have := subTL_ok hS hu (l := l) (vs := vs) ⟨hl, hr⟩; exact .clo f vs _ this.1 this.2
  | .fz n c, v, h => by simp only [subT1]; exact h.mono hS (fun _ _ => rfl) (fun _ _ => rfl)
  | .any, v, h => by simp only [subT1]; exact .any v
theorem subTL_ok (hS : ∀ b, S b → S' b) (hu : RV w S' E (E id) u) : ∀ {l : List T} {vs : List Value}, RVL w S E vs l → RVL w S' E vs (subTL id u l)
  | [], vs, h => ⟨h.1, fun j _ h2 => by simp [subTL] at h2⟩
  | x :: l, vs, h => by
    cases vs with
    | nil => have := h.1; simp at this
    | cons v vs =>
      have h1 := subT1_ok hS hu (t := x) (h.2 0 (by simp) (by simp))
      have h2 := subTL_ok hS hu (l := l) (vs := vs) ⟨by simpa using h.1, fun j a b => h.2 (j + 1) (by simpa using a) (by simpa using b)⟩
      refine ⟨by simp [subTL, h2.1], fun j a b => ?_⟩
      cases j with
      | zero => exact h1
      | succ j => exact h2.2 j (by simpa using a) (by simpa [subTL] using b)
end
end

theorem subTm_look (id : Nat) (u : T) : ∀ (l : List (Nat × T)) (k : Nat), look (subTm id u l) k = (look l k).map (subT1 id u)
  | [], k => rfl
  | (j, x) :: r, k => by
    simp only [subTm, look]
    by_cases hj : j = k
    · subst hj; simp
    · simp [beq_ne hj, subTm_look id u r k]

theorem subHp_look (id : Nat) (u : T) : ∀ (l : List (Nat × Blk)) (k : Nat) (b : Blk), look (subHp id u l) k = some b → k ≠ id ∧ ∃ b0, look l k = some b0 ∧ (match b0 with | .box ts => b = .box (subTL id u ts) | x => b = x)
  | [], k, b, h => by simp [subHp, look] at h
  | (j, .box ts) :: r, k, b, h => by
    simp only [subHp] at h
    by_cases hj : j = id
    · subst hj
      simp only [Nat.beq_refl, cond_true] at h
      obtain ⟨h1, b0, h2, h3⟩ := subHp_look j u r k b h
      exact ⟨h1, b0, by simp only [look, beq_ne (Ne.symm h1), cond_false]; exact h2, h3⟩
    · simp only [beq_ne hj, cond_false, look] at h
      by_cases hk : j = k
      · subst hk
        simp only [Nat.beq_refl, cond_true, Option.some.injEq] at h
        exact ⟨hj, .box ts, by simp [look], h.symm⟩
      · simp only [beq_ne hk, cond_false] at h
        obtain ⟨h1, b0, h2, h3⟩ := subHp_look id u r k b h
        exact ⟨h1, b0, by simp only [look, beq_ne hk, cond_false]; exact h2, h3⟩
  | (j, .rows e sz n rs) :: r, k, b, h => by
    simp only [subHp] at h
    by_cases hj : j = id
    · subst hj
      simp only [Nat.beq_refl, cond_true] at h
      obtain ⟨h1, b0, h2, h3⟩ := subHp_look j u r k b h
      exact ⟨h1, b0, by simp only [look, beq_ne (Ne.symm h1), cond_false]; exact h2, h3⟩
    · simp only [beq_ne hj, cond_false, look] at h
      by_cases hk : j = k
      · subst hk
        simp only [Nat.beq_refl, cond_true, Option.some.injEq] at h
        exact ⟨hj, .rows e sz n rs, by simp [look], h.symm⟩
      · simp only [beq_ne hk, cond_false] at h
        obtain ⟨h1, b0, h2, h3⟩ := subHp_look id u r k b h
        exact ⟨h1, b0, by simp only [look, beq_ne hk, cond_false]; exact h2, h3⟩

section
variable {ρ τ α : Type} {X : Cx} {ks : List K} {tm : List (Nat × T)} {hp : List (Nat × Blk)} {m : Option ρ} {Q : ρ → Exit → St → Prop} {all : Array Oper} {o : Oper} {rest : List Oper}

/-- A slice of the call's own, as one that stays. -/
theorem Sim.frz {w0 : World} {L : Lim} {nt : Nat} {a : Act} {w : World} (id : Nat) {e sz n : Nat} {rs : List (List Tree)} (hb : look hp id = some (.rows e sz n rs)) (h : Sim w0 L nt ⟨tm, hp⟩ a w) :
    Sim w0 L nt ⟨subTm id (.t (.sl n rs)) tm, subHp id (.t (.sl n rs)) hp⟩ a w := by
  obtain ⟨S, E, hk⟩ := h
  let S' : Nat → Prop := fun b => S b ∨ blkOf (E id) = some b
  have hS : ∀ b, S b → S' b := fun b hb => .inl hb
  have hu : RV w S' E (E id) (.t (.sl n rs)) := by
    have hk1 : Ok w0 L nt ⟨tm, [(id, .rows e sz n rs)]⟩ S E a w :=
      { hk with
        hp := fun i b hb' => by
          simp only [look] at hb'
          by_cases hi : id = i
          · subst hi; simp only [Nat.beq_refl, cond_true, Option.some.injEq] at hb'; subst hb'; exact hk.hp id _ hb
          · simp [beq_ne hi] at hb'
        own := fun i b β hb' hβ => by
          simp only [look] at hb'
          by_cases hi : id = i
          · subst hi; simp only [Nat.beq_refl, cond_true, Option.some.injEq] at hb'; subst hb'; exact hk.own id _ β hb hβ
          · simp [beq_ne hi] at hb'
        dist := fun i i' b b' β h1 h2 _ _ => by
          simp only [look] at h1 h2
          by_cases hi : id = i <;> by_cases hi' : id = i'
          · exact hi.symm.trans hi'
          · simp [beq_ne hi'] at h2
          · simp [beq_ne hi] at h1
          · simp [beq_ne hi] at h1 }
    refine .t (rows_tree hk1 (id := id) (e := e) (sz := sz) (by simp [look]) S' hS fun b hb' => ?_)
    obtain ⟨i, _, _, _, _, hl, hβ⟩ := hb'
    simp only [look] at hl
    by_cases hi : id = i
    · subst hi; exact .inr hβ
    · simp [beq_ne hi] at hl
  refine ⟨S', E, { keep := hk.keep, size := hk.size, defers := hk.defers, stab := fun b hb' => ?_, base := fun b hb' => ?_, tm := fun k t ht => ?_, hp := fun i b hi => ?_, own := fun i b β hi hβ => ?_, dist := fun i i' b b' β h1 h2 hβ hβ' => ?_, pin := hk.pin }⟩
  · rcases hb' with h1 | h1
    · exact hk.stab b h1
    · exact (hk.own id _ b hb h1).2.1
  · rcases hb' with h1 | h1
    · exact hk.base b h1
    · rcases (hk.own id _ b hb h1).2.2 with h2 | h2
      · exact .inr (.inr h2)
      · exact .inr (.inl h2)
  · rw [subTm_look] at ht
    cases hl : look tm k with
    | none => simp [hl] at ht
    | some t0 => simp only [hl, Option.map_some, Option.some.injEq] at ht; subst ht; exact subT1_ok hS hu (hk.tm k t0 hl)
  · obtain ⟨hne, b0, hb0, hm⟩ := subHp_look _ _ _ _ _ hi
    have hk0 := hk.hp i b0 hb0
    cases b0 with
    | box ts =>
      simp only at hm
      subst hm
      obtain ⟨β, vs, elem, h1, h2, h3, h4, h5⟩ := hk0
      have := subTL_ok hS hu (l := ts) (vs := vs) ⟨h3, h4⟩
      exact ⟨β, vs, elem, h1, h2, this.1, this.2, h5⟩
    | rows e' sz' n' rs' =>
      simp only at hm
      subst hm
      exact hk0.mono hS (fun _ _ => rfl) (fun _ _ => rfl) (fun _ _ => rfl)
  · obtain ⟨hne, b0, hb0, _⟩ := subHp_look _ _ _ _ _ hi
    have := hk.own i b0 β hb0 hβ
    exact ⟨fun hx => hx.elim this.1 (fun hx => hne (hk.dist i id b0 _ β hb0 hb hβ hx)), this.2⟩
  · obtain ⟨_, c, hc, _⟩ := subHp_look _ _ _ _ _ h1
    obtain ⟨_, c', hc', _⟩ := subHp_look _ _ _ _ _ h2
    exact hk.dist i i' c c' β hc hc' hβ hβ'

theorem TieO.frz {ops : List Oper} (id : Nat) {e sz n : Nat} {rs : List (List Tree)} (hb : look hp id = some (.rows e sz n rs)) (h : TieO X all ops ks ⟨subTm id (.t (.sl n rs)) tm, subHp id (.t (.sl n rs)) hp⟩ m Q) : TieO X all ops ks ⟨tm, hp⟩ m Q :=
  fun r hr a w hw => h r hr a w (hw.frz id hb)
theorem TieX.frz {e' : Exit} (id : Nat) {e sz n : Nat} {rs : List (List Tree)} (hb : look hp id = some (.rows e sz n rs)) (h : TieX X ks e' ⟨subTm id (.t (.sl n rs)) tm, subHp id (.t (.sl n rs)) hp⟩ m Q) : TieX X ks e' ⟨tm, hp⟩ m Q :=
  fun r hr a w hw => h r hr a w (hw.frz id hb)
end
end Go.Pv

/- The value machine, part Y: append under a name; a nil that becomes a row of the call's own. -/
import Derived.Test.YtmocoljbdiphoaaPvW
namespace Go.Pv
open Go.RowKit

section
variable {ρ α : Type} {X : Cx} {ks : List K} {tm tm' : List (Nat × T)} {hp hp' : List (Nat × Blk)} {m : Option ρ} {Q : ρ → Exit → St → Prop} {all : Array Oper} {o : Oper} {rest : List Oper}

theorem TieO.appendY {t e e' d id n m s0 : Nat} {z0 : List Value} {te : TI} {s x : Operand} {l r : List α} {enc : α → List Tree} {k : List α → Option ρ}
    (ho : o.op = .call ⟨.builtin .append, #[s, x], #[t, t]⟩) (hd : o.dst = some d) (hdn : Nat.blt d X.nt = true) (hg : guardT all.toList tm o.guard = some true)
    (hty : look X.tab t = some ⟨s0, .slice e, z0⟩) (hte : look X.tab e = some te) (hz : te.zero.length = te.size) (henc : ∀ y, (enc y).length = te.size) (hone : ∀ y, (enc y).all oneTree = true)
    (hs : (val tm s = some (.own id) ∧ look hp id = some (.rows e te.size n (l.map enc))) ∨ (val tm s = some (.t (.v (.slice none 0 0))) ∧ l = []))
    (hx : val tm x = some (.t (.sl m (r.map enc))) ∨ ∃ i2, val tm x = some (.own i2) ∧ look hp i2 = some (.rows e' te.size m (r.map enc)))
    (hsub : Sub ⟨tm', hp'⟩ ⟨tm, hp⟩) (hbig : Nat.blt id big = true) (hft : freshT id tm' = true) (hfb : freshB id hp' = true)
    (h : ∀ y, TieO X all rest ks ⟨(d, .own id) :: tm', (id, .rows e te.size y.length (y.map enc)) :: hp'⟩ (k y) Q) :
    TieO X all (o :: rest) ks ⟨tm, hp⟩ ((appendM l r).bind k) Q :=
  TieO.append ho hd hdn hg hty hte hz henc hone hs hx hsub hbig hft hfb (h (l ++ r))

theorem Sim.nilO {w0 : World} {L : Lim} {nt : Nat} {a : Act} {w : World} {k id e sz : Nat} (hk : look tm k = some (.t (.v (.slice none 0 0)))) (hbig : Nat.blt id big = true) (hft : freshT id tm = true) (hfb : freshB id hp = true)
    (h : Sim w0 L nt ⟨tm, hp⟩ a w) : Sim w0 L nt ⟨(k, .own id) :: tm, (id, .rows e sz 0 []) :: hp⟩ a w := by
  obtain ⟨S, E, h⟩ := h
  obtain ⟨E', hE, hok⟩ := h.regrow (v := .slice none 0 0) (v' := .slice none 0 0) (b := .rows e sz 0 []) hbig hft hfb (fun β hβ => by simp [blkOf] at hβ) (fun i blk β _ h1 => by simp [blkOf] at h1)
    (Keep.refl _ w) (fun β hβ => by simp [blkOf] at hβ) (fun E' => ⟨rfl, .inl ⟨rfl, rfl⟩⟩)
  have hv := (hok.tm k _ hk).tv
  exact ⟨S, E', { hok with
    tm := fun j t' ht => by
      simp only [look] at ht
      by_cases hj : k = j
      · subst hj
        simp only [Nat.beq_refl, cond_true, Option.some.injEq] at ht
        subst ht
        exact .own id _ (by rw [hE]; exact hv.symm)
      · simp only [beq_ne hj, cond_false] at ht
        exact hok.tm j t' ht }⟩

theorem TieX.nilO {e' : Exit} (k id e sz : Nat) (hk : look tm k = some (.t (.v (.slice none 0 0)))) (hbig : Nat.blt id big = true) (hft : freshT id tm = true) (hfb : freshB id hp = true)
    (h : TieX X ks e' ⟨(k, .own id) :: tm, (id, .rows e sz 0 []) :: hp⟩ m Q) : TieX X ks e' ⟨tm, hp⟩ m Q := fun r hr a w hw => h r hr a w (hw.nilO hk hbig hft hfb)
end
end Go.Pv

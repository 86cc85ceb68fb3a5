/- The value machine, part W: the rule of append. -/
import Derived.Test.YtmocoljbdiphoaaPvV
namespace Go.Pv
open Go.RowKit

section
variable {ρ α : Type} {X : Cx} {ks : List K} {tm tm' : List (Nat × T)} {hp hp' : List (Nat × Blk)} {Q : ρ → Exit → St → Prop} {all : Array Oper} {o : Oper} {rest : List Oper}

theorem all_one {enc : α → List Tree} (hone : ∀ y, (enc y).all oneTree = true) (l : List α) : ∀ r ∈ l.map enc, ∀ t ∈ r, oneTree t = true := by
  intro r hr t ht
  obtain ⟨y, _, rfl⟩ := List.mem_map.1 hr
  exact List.all_eq_true.1 (hone y) t ht

theorem all_len {enc : α → List Tree} {sz : Nat} (h : ∀ y, (enc y).length = sz) (l : List α) : ∀ r ∈ l.map enc, r.length = sz := by
  intro r hr
  obtain ⟨y, _, rfl⟩ := List.mem_map.1 hr
  exact h y

/-- append(s, x...): s a row of the call's own, or nil; x frozen, or a row of the call's own. The row keeps its name; what else names it is dropped. -/
theorem TieO.append {t e e' d id n m s0 : Nat} {z0 : List Value} {te : TI} {s x : Operand} {l r : List α} {enc : α → List Tree} {k : List α → Option ρ}
    (ho : o.op = .call ⟨.builtin .append, #[s, x], #[t, t]⟩) (hd : o.dst = some d) (hdn : Nat.blt d X.nt = true) (hg : guardT all.toList tm o.guard = some true)
    (hty : look X.tab t = some ⟨s0, .slice e, z0⟩) (hte : look X.tab e = some te) (hz : te.zero.length = te.size) (henc : ∀ y, (enc y).length = te.size) (hone : ∀ y, (enc y).all oneTree = true)
    (hs : (val tm s = some (.own id) ∧ look hp id = some (.rows e te.size n (l.map enc))) ∨ (val tm s = some (.t (.v (.slice none 0 0))) ∧ l = []))
    (hx : val tm x = some (.t (.sl m (r.map enc))) ∨ ∃ i2, val tm x = some (.own i2) ∧ look hp i2 = some (.rows e' te.size m (r.map enc)))
    (hsub : Sub ⟨tm', hp'⟩ ⟨tm, hp⟩) (hbig : Nat.blt id big = true) (hft : freshT id tm' = true) (hfb : freshB id hp' = true)
    (h : TieO X all rest ks ⟨(d, .own id) :: tm', (id, .rows e te.size (l ++ r).length ((l ++ r).map enc)) :: hp'⟩ (k (l ++ r)) Q) :
    TieO X all (o :: rest) ks ⟨tm, hp⟩ ((appendM l r).bind k) Q := fun y hy a w ⟨S, E, hk⟩ => by
  unfold appendM at hy
  split at hy
  · rename_i hmax
    simp only [Option.bind_some] at hy
    obtain ⟨dd, _, hu, ho2⟩ : ∃ d, X.P.underlying t = some d ∧ X.P.underlying t = some d ∧ TD.ok X.P (.slice e) d := by
      obtain ⟨i, d, _, _, hu, hdd, _⟩ := X.htab t _ hty
      exact ⟨d, hu, hu, hdd⟩
    simp only [TD.ok] at ho2
    subst ho2
    have hk' : Ok X.w0 X.L X.nt ⟨tm', hp'⟩ S E a w := hk.sub hsub
    have hsrc : Src w S (a.eval x) r.length te.size (r.map enc) := by
      rcases hx with hx | ⟨i2, hx, hb2⟩
      · have hv := hk.val hx
        generalize a.eval x = xv at hv
        cases hv with
        | t hv =>
          have := rows_cells hv (all_len henc r) (all_one hone r)
          have hm : m = r.length := by simpa using this.1
          subst hm
          exact ⟨by simp, this.2⟩
      · have hv := hk.val hx
        have hb := hk.hp i2 _ hb2
        generalize a.eval x = xv at hv
        cases hv with
        | own _ _ hE =>
          subst hE
          have := src_blk hb (all_one hone r)
          have hm : m = r.length := by simpa using this.1
          subst hm
          exact this
    have hfirst : ∃ v, a.eval s = v ∧ BlkOk w S E v (.rows e te.size l.length (l.map enc)) ∧ (∀ β, blkOf v = some β → ¬ S β ∧ β < w.heap.size ∧ (X.w0.heap.size ≤ β ∨ X.L.lent β)) ∧
        (∀ i blk β, look hp' i = some blk → blkOf v = some β → blkOf (E i) = some β → False) := by
      rcases hs with ⟨hs, hb⟩ | ⟨hs, hl⟩
      · have hv := hk.val hs
        have hb1 := hk.hp id _ hb
        have hn : n = l.length := by have := hb1.1; simpa using this
        subst hn
        generalize a.eval s = sv at hv
        cases hv with
        | own _ _ hE =>
          subst hE
          refine ⟨_, rfl, hb1, fun β hβ => hk.own id _ β hb hβ, fun i blk β hi h1 h2 => ?_⟩
          obtain ⟨blk', hi', _⟩ := subB_look hsub.2 i blk hi
          have := hk.dist id i _ blk' β hb hi' h1 h2
          exact (freshB_look hfb i blk hi).1 this.symm
      · have hv := (hk.val hs).tv
        subst hl
        rw [hv]
        exact ⟨_, rfl, ⟨by simp, .inl ⟨rfl, rfl⟩⟩, fun β hβ => by simp [blkOf] at hβ, fun i blk β _ h1 => by simp [blkOf] at h1⟩
    obtain ⟨v, hv, hbv, hown, hdist⟩ := hfirst
    obtain ⟨v', w', E', hr, hE, hok⟩ := hk'.append (ty := o.type) hbig hft hfb hown hdist hbv hu (X.htab e _ hte) hz hsrc (all_len henc r) (by simpa using hmax)
    refine wpList_step fun K hK => ?_
    rw [guardT_ok hk hg, if_pos rfl]
    unfold Oper.wp
    have hexec : (execOp a.eval o).run X.P w = .ok (.value v') w' := by
      unfold execOp
      simp only [ho, resolve, invoke, builtin, Sem.run_bind, Sem.run_pure, Result.andThen_ok, List.map_toArray, List.map_cons, List.map_nil, hv, hr]
    rw [hexec]
    refine hK _ _ (h y hy _ _ ⟨S, E', ?_⟩)
    rw [hd, List.map_append, List.length_append]
    exact hok.put (Nat.le_of_ble_eq_true hdn) (.own id _ hE)
  · simp at hy
end
end Go.Pv

/- The value machine, part U: a row of the call's own under a new value: appends. -/
import Derived.Test.YtmocoljbdiphoaaPvT
namespace Go.Pv
open Go.RowKit

section
variable {w0 : World} {L : Lim} {nt : Nat} {tm : List (Nat × T)} {hp : List (Nat × Blk)} {S : Nat → Prop} {E : Nat → Value} {a : Act} {w w' : World}

/-- The block of v is turned, or left for a new one; the rest of the state stands. -/
theorem Ok.regrow (h : Ok w0 L nt ⟨tm, hp⟩ S E a w) {id : Nat} {v v' : Value} {b : Blk} (hbig : Nat.blt id big = true) (hf : freshT id tm = true) (hb : freshB id hp = true)
    (hv : ∀ β, blkOf v = some β → ¬ S β ∧ β < w.heap.size ∧ (w0.heap.size ≤ β ∨ L.lent β)) (hd : ∀ i blk β, look hp i = some blk → blkOf v = some β → blkOf (E i) = some β → False)
    (hk : Keep (fun x => blkOf v = some x) w w') (hv' : ∀ β, blkOf v' = some β → β < w'.heap.size ∧ (blkOf v = some β ∨ w.heap.size ≤ β))
    (hok : ∀ E', BlkOk w' S E' v' b) : ∃ E', E' id = v' ∧ Ok w0 L nt ⟨tm, (id, b) :: hp⟩ S E' a w' := by
  let E' : Nat → Value := fun i => if i = id then v' else E i
  have hE : ∀ i, i ≠ id → E' i = E i := fun i hi => by simp [E', hi]
  have hid : E' id = v' := by simp [E']
  have hS : ∀ x, S x → w'.heap[x]? = w.heap[x]? := fun x hx => hk.block x (h.stab x hx) (fun e => (hv x e).1 hx)
  have hsz := h.keep.size
  refine ⟨E', hid, { keep := h.keep.trans hk (fun x hx => (hv x hx).2.2.symm), stab := fun x hx => Nat.lt_of_lt_of_le (h.stab x hx) hk.size, base := h.base, size := h.size, defers := h.defers, tm := ?_, hp := ?_, own := ?_, dist := ?_, pin := fun i hi => by rw [hE i (fun e => by have : id < big := Nat.le_of_ble_eq_true hbig; omega)]; exact h.pin i hi }⟩
  · exact fun k t ht => (h.tm k t ht).mono (fun _ x => x) hS fun i hi => hE i fun e => by
      have := freshT_look hf k t ht; subst e; rw [this] at hi; cases hi
  · intro i blk hl
    simp only [look] at hl
    by_cases he : id = i
    · subst he
      simp only [Nat.beq_refl, cond_true, Option.some.injEq] at hl
      subst hl; rw [hid]; exact hok E'
    · simp only [beq_ne he, cond_false] at hl
      rw [hE i (fun e => he e.symm)]
      exact (h.hp i blk hl).mono (fun _ x => x) hS (fun β hβ => hk.block β (h.own i blk β hl hβ).2.1 (fun e => hd i blk β hl e hβ)) fun j hj => hE j fun e => by
        have := (freshB_look hb i blk hl).2; subst e; rw [this] at hj; cases hj
  · intro i blk β hl hβ
    simp only [look] at hl
    by_cases he : id = i
    · subst he
      rw [hid] at hβ
      obtain ⟨h1, h2⟩ := hv' β hβ
      rcases h2 with h2 | h2
      · exact ⟨(hv β h2).1, h1, (hv β h2).2.2⟩
      · exact ⟨fun hs => by have := h.stab β hs; omega, h1, .inl (by omega)⟩
    · simp only [beq_ne he, cond_false] at hl
      rw [hE i (fun e => he e.symm)] at hβ
      have := h.own i blk β hl hβ
      exact ⟨this.1, Nat.lt_of_lt_of_le this.2.1 hk.size, this.2.2⟩
  · intro i i' blk blk' β hl hl' hβ hβ'
    simp only [look] at hl hl'
    have clash : ∀ j bj, look hp j = some bj → blkOf v' = some β → blkOf (E j) = some β → False := fun j bj hj h1 h2 => by
      rcases (hv' β h1).2 with h3 | h3
      · exact hd j bj β hj h3 h2
      · have := (h.own j bj β hj h2).2.1; omega
    by_cases he : id = i <;> by_cases he' : id = i'
    · exact he.symm.trans he'
    · subst he
      simp only [beq_ne he', cond_false] at hl'
      rw [hid] at hβ
      rw [hE i' (fun e => he' e.symm)] at hβ'
      exact (clash i' blk' hl' hβ hβ').elim
    · subst he'
      simp only [beq_ne he, cond_false] at hl
      rw [hid] at hβ'
      rw [hE i (fun e => he e.symm)] at hβ
      exact (clash i blk hl hβ' hβ).elim
    · simp only [beq_ne he, beq_ne he', cond_false] at hl hl'
      rw [hE i (fun e => he e.symm)] at hβ
      rw [hE i' (fun e => he' e.symm)] at hβ'
      exact h.dist i i' blk blk' β hl hl' hβ hβ'

theorem pos_of_mul {j a s : Nat} (h : j < a * s) : 0 < s := by
  rcases Nat.eq_zero_or_pos s with h1 | h1
  · subst h1; simp at h
  · exact h1

def oneTree : Tree → Bool
  | .v x => x.oneCell'
  | .sl _ _ => true

theorem RT.one {v : Value} {t : Tree} (h : RT w S v t) (ht : oneTree t = true) : v.oneCell' = true := by
  cases h <;> first | exact ht | rfl

/-- The row that a frozen slice or one of the call's own is: its cells, one after another. -/
theorem rows_cells {v : Value} {m sz : Nat} {rs : List (List Tree)} (h : RT w S v (.sl m rs)) (hsz : ∀ r ∈ rs, r.length = sz) (hone : ∀ r ∈ rs, ∀ t ∈ r, oneTree t = true) :
    m = rs.length ∧ ∃ (ad : Option Addr) (c : Nat), v = .slice ad m c ∧ (0 < m → ∃ (x : Addr) (news : List Value), ad = some x ∧ news.length = m * sz ∧ (∀ j u, news[j]? = some u → w.cell? (x.add j) = some u) ∧ (∀ u ∈ news, u.oneCell' = true) ∧
      ∀ i j (hi : i < rs.length) (hj : j < (rs[i]).length) (hb : i * sz + j < news.length), RT w S (news[i * sz + j]) ((rs[i])[j])) := by
  cases h with
  | slE a c => exact ⟨rfl, a, c, rfl, fun h => absurd h (by omega)⟩
  | sl b o c sz' rows vs _ hb hsz' hc hr =>
    refine ⟨rfl, _, c, rfl, fun h0 => ⟨_, (List.range (rs.length * sz)).map (fun k => vs (k / sz) (k % sz)), rfl, by simp, ?_, ?_, ?_⟩⟩
    all_goals
      have hne : sz' = sz := by rw [← hsz' (rs[0]) (List.getElem_mem h0), hsz (rs[0]) (List.getElem_mem h0)]
      subst hne
    · intro j u hu
      rw [List.getElem?_map] at hu
      obtain ⟨k, hk, rfl⟩ := Option.map_eq_some_iff.1 hu
      obtain ⟨hj, rfl⟩ := List.getElem?_eq_some_iff.1 hk
      simp only [List.length_range] at hj
      simp only [List.getElem_range]
      have hs0 : 0 < sz' := pos_of_mul hj
      have h1 : j / sz' < rs.length := Nat.div_lt_of_lt_mul (by rw [Nat.mul_comm]; exact hj)
      have h2 : j % sz' < sz' := Nat.mod_lt _ hs0
      have := hc (j / sz') (j % sz') h1 h2
      rw [addr_add]
      have e : o + j / sz' * sz' + j % sz' = o + j := by have := Nat.div_add_mod j sz'; rw [Nat.mul_comm] at this; omega
      rw [e] at this
      exact this
    · intro u hu
      obtain ⟨k, hk, rfl⟩ := List.mem_map.1 hu
      have hj := List.mem_range.1 hk
      have hs0 : 0 < sz' := pos_of_mul hj
      have h1 : k / sz' < rs.length := Nat.div_lt_of_lt_mul (by rw [Nat.mul_comm]; exact hj)
      have h2 : k % sz' < (rs[k / sz']).length := by rw [hsz _ (List.getElem_mem h1)]; exact Nat.mod_lt _ hs0
      exact (hr (k / sz') (k % sz') h1 h2).one (hone _ (List.getElem_mem h1) _ (List.getElem_mem h2))
    · intro i j hi hj hb'
      simp only [List.getElem_map, List.getElem_range]
      have hj' : j < sz' := by rw [← hsz _ (List.getElem_mem hi)]; exact hj
      have e1 : (i * sz' + j) / sz' = i := by rw [Nat.mul_comm, Nat.mul_add_div (by omega), Nat.div_eq_of_lt hj', Nat.add_zero]
      have e2 : (i * sz' + j) % sz' = j := by rw [Nat.mul_comm, Nat.mul_add_mod, Nat.mod_eq_of_lt hj']
      rw [e1, e2]
      exact hr i j hi hj
end
end Go.Pv

/- The value machine, part V: append, as a rule. -/
import Derived.Test.YtmocoljbdiphoaaPvU
namespace Go.Pv
open Go.RowKit

/-- A slice value whose elements are the rows rs. -/
def Src (w : World) (S : Nat → Prop) (v : Value) (m sz : Nat) (rs : List (List Tree)) : Prop :=
  m = rs.length ∧ ∃ (ad : Option Addr) (c : Nat), v = .slice ad m c ∧ (0 < m → ∃ (x : Addr) (news : List Value), ad = some x ∧ news.length = m * sz ∧ (∀ j u, news[j]? = some u → w.cell? (x.add j) = some u) ∧ (∀ u ∈ news, u.oneCell' = true) ∧
      ∀ i j (hi : i < rs.length) (hj : j < (rs[i]).length) (hb : i * sz + j < news.length), RT w S (news[i * sz + j]) ((rs[i])[j]))

section
variable {P : Program} {w0 : World} {L : Lim} {nt : Nat} {tm : List (Nat × T)} {hp : List (Nat × Blk)} {S : Nat → Prop} {E : Nat → Value} {a : Act} {w : World}

theorem src_blk {v : Value} {e sz m : Nat} {rs : List (List Tree)} (h : BlkOk w S E v (.rows e sz m rs)) (hone : ∀ r ∈ rs, ∀ t ∈ r, oneTree t = true) : Src w S v m sz rs := by
  obtain ⟨hn, hx⟩ := h
  subst hn
  refine ⟨rfl, ?_⟩
  rcases hx with ⟨rfl, hr⟩ | ⟨β, cap, vs, hm, rfl, hh, hl, hc, hsz, hr⟩
  · subst hr; exact ⟨_, _, rfl, fun h => absurd h (by simp)⟩
  · refine ⟨_, _, rfl, fun h0 => ⟨_, vs.take (rs.length * sz), rfl, ?_, ?_, ?_, ?_⟩⟩
    · rw [List.length_take, hl]; exact Nat.min_eq_left (Nat.mul_le_mul_right _ hc)
    · intro j u hu
      rw [List.getElem?_take] at hu
      split at hu
      · rw [addr_add, cell_of_row w β _ _ e _ hh]; simpa using hu
      · cases hu
    · intro u hu
      obtain ⟨k, hk, rfl⟩ := List.mem_iff_getElem.1 hu
      have hk' : k < rs.length * sz := by have := hk; simp only [List.length_take] at this; omega
      have hs0 : 0 < sz := pos_of_mul hk'
      have h1 : k / sz < rs.length := Nat.div_lt_of_lt_mul (by rw [Nat.mul_comm]; exact hk')
      have h2 : k % sz < (rs[k / sz]).length := by rw [hsz _ (List.getElem_mem h1)]; exact Nat.mod_lt _ hs0
      have e1 : k / sz * sz + k % sz = k := by have := Nat.div_add_mod k sz; rw [Nat.mul_comm] at this; exact this
      have hkv : k < vs.length := by simp only [List.length_take] at hk; omega
      have := hr (k / sz) (k % sz) h1 h2 (by rw [e1]; exact hkv)
      simp only [e1] at this
      rw [List.getElem_take]
      exact this.one (hone _ (List.getElem_mem h1) _ (List.getElem_mem h2))
    · intro i j hi hj hb
      rw [List.getElem_take]
      exact hr i j hi hj _

theorem getElem_of_take {α : Type} {l r : List α} {k i : Nat} (h : l.take k = r) (hi : i < r.length) (hl : i < l.length) : l[i] = r[i] := by
  subst h; rw [List.getElem_take]

theorem Ok.append (h : Ok w0 L nt ⟨tm, hp⟩ S E a w) {id e n m t ty : Nat} {ti : TI} {v x : Value} {rs r2 : List (List Tree)} (hbig : Nat.blt id big = true) (hf : freshT id tm = true) (hb : freshB id hp = true)
    (hv : ∀ β, blkOf v = some β → ¬ S β ∧ β < w.heap.size ∧ (w0.heap.size ≤ β ∨ L.lent β)) (hd : ∀ i blk β, look hp i = some blk → blkOf v = some β → blkOf (E i) = some β → False)
    (hbv : BlkOk w S E v (.rows e ti.size n rs)) (ht : P.underlying t = some (.slice e)) (hte : TIok P e ti) (hz : ti.zero.length = ti.size)
    (hx : Src w S x m ti.size r2) (h2 : ∀ r ∈ r2, r.length = ti.size) (hmax : n + m ≤ 1073741824) :
    ∃ v' w' E', (Builtin.append_ #[t, t] ty #[v, x]).run P w = .ok v' w' ∧ E' id = v' ∧ Ok w0 L nt ⟨tm, (id, .rows e ti.size (n + m) (rs ++ r2)) :: hp⟩ S E' a w' := by
  obtain ⟨hm, ad, c, rfl, hsrc⟩ := hx
  obtain ⟨hn, hrow⟩ := hbv
  have hown : ∃ xs : List Value, OwnV w v e ti.size n xs ∧ xs.length = n * ti.size ∧ (∀ r ∈ rs, r.length = ti.size) ∧ ∀ i j (hi : i < rs.length) (hj : j < (rs[i]).length) (hb : i * ti.size + j < xs.length), RT w S (xs[i * ti.size + j]) ((rs[i])[j]) := by
    rcases hrow with ⟨rfl, hr⟩ | ⟨β, cap, vs, hcm, rfl, hh, hl, hc, hsz, hr⟩
    · subst hr; subst hn; exact ⟨[], .inl ⟨rfl, rfl, rfl⟩, by simp, by simp, fun i j hi => by simp at hi⟩
    · subst hn
      refine ⟨vs.take (rs.length * ti.size), .inr ⟨β, cap, vs, rfl, hh, hc, hcm, hl, rfl⟩, ?_, hsz, fun i j hi hj hb => ?_⟩
      · rw [List.length_take, hl]; exact Nat.min_eq_left (Nat.mul_le_mul_right _ hc)
      · rw [List.getElem_take]; exact hr i j hi hj _
  obtain ⟨xs, hov, hxl, hrl, hrx⟩ := hown
  rcases Nat.eq_zero_or_pos m with h0 | h0
  · subst h0
    have hr2 : r2 = [] := List.eq_nil_of_length_eq_zero hm.symm
    subst hr2
    have hr := run_append_none (ty := ty) ht hte hov (x := .slice ad 0 c) rfl
    obtain ⟨E', hE, hk⟩ := h.regrow hbig hf hb hv hd (Keep.refl _ w) (v' := v) (b := .rows e ti.size (n + 0) (rs ++ [])) (fun β hβ => ⟨(hv β hβ).2.1, .inl hβ⟩) (fun E' => by
      rw [List.append_nil, Nat.add_zero]; exact ⟨hn, hrow⟩)
    exact ⟨v, w, E', hr, hE, hk⟩
  · obtain ⟨y, news, rfl, hnl, hnews, hone, hrn⟩ := hsrc h0
    obtain ⟨v', w', hr, hk, hov', hbl⟩ := run_append_some (ty := ty) ht hte hz hov hnl hnews hone h0 hmax
    have hS : ∀ b, S b → w'.heap[b]? = w.heap[b]? := fun b hb => hk.block b (h.stab b hb) (fun e => (hv b e).1 hb)
    obtain ⟨E', hE, hok⟩ := h.regrow hbig hf hb hv hd hk (v' := v') (b := .rows e ti.size (n + m) (rs ++ r2)) hbl (fun E' => by
      refine ⟨by rw [List.length_append, hn, hm], ?_⟩
      rcases hov' with ⟨_, hz0, _⟩ | ⟨g, cap, cur, rfl, hg, hnc, hcm, hcl, htk⟩
      · omega
      · refine .inr ⟨g, cap, cur, hcm, by rw [List.length_append, ← hn, ← hm], hg, hcl, by rw [List.length_append, ← hn, ← hm]; exact hnc, ?_, ?_⟩
        · intro r hr
          rcases List.mem_append.1 hr with hr | hr
          · exact hrl r hr
          · exact h2 r hr
        · intro i j hi hj hb'
          by_cases hin : i < rs.length
          · have hj1 : j < (rs[i]).length := by rw [List.getElem_append_left hin] at hj; exact hj
            have hjs : j < ti.size := by rw [← hrl _ (List.getElem_mem hin)]; exact hj1
            have hlt : i * ti.size + j < xs.length := by
              rw [hxl, hn]
              have : (i + 1) * ti.size ≤ rs.length * ti.size := Nat.mul_le_mul_right _ hin
              rw [Nat.succ_mul] at this; omega
            have e1 : cur[i * ti.size + j] = xs[i * ti.size + j] := by
              rw [getElem_of_take htk (by rw [List.length_append]; omega) hb', List.getElem_append_left hlt]
            have e2 : (rs ++ r2)[i] = rs[i] := List.getElem_append_left hin
            rw [e1]
            simp only [e2]
            exact (hrx i j hin hj1 hlt).mono (fun _ x => x) hS
          · have hi2 : i - rs.length < r2.length := by rw [List.length_append] at hi; omega
            have e2 : (rs ++ r2)[i] = r2[i - rs.length] := List.getElem_append_right (by omega)
            have hj1 : j < (r2[i - rs.length]).length := by rw [e2] at hj; exact hj
            have hjs : j < ti.size := by rw [← h2 _ (List.getElem_mem hi2)]; exact hj1
            have hlt : (i - rs.length) * ti.size + j < news.length := by
              rw [hnl, hm]
              have : (i - rs.length + 1) * ti.size ≤ r2.length * ti.size := Nat.mul_le_mul_right _ hi2
              rw [Nat.succ_mul] at this; omega
            have esum : i * ti.size = rs.length * ti.size + (i - rs.length) * ti.size := by rw [← Nat.add_mul]; congr 1; omega
            have e3 : i * ti.size + j - xs.length = (i - rs.length) * ti.size + j := by rw [hxl, hn, esum]; omega
            have e1 : cur[i * ti.size + j] = news[(i - rs.length) * ti.size + j] := by
              rw [getElem_of_take htk (by rw [List.length_append, hxl, hn, esum]; omega) hb', List.getElem_append_right (by rw [hxl, hn, esum]; omega)]
              simp only [e3]
            rw [e1]
            simp only [e2]
            exact (hrn (i - rs.length) j hi2 hj1 hlt).mono (fun _ x => x) hS)
    exact ⟨v', w', E', hr, hE, hok⟩
end
end Go.Pv

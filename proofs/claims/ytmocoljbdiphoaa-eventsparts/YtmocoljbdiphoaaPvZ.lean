/- The value machine, part Z: elements of the call's own rows, read and written. -/
import Derived.Test.YtmocoljbdiphoaaPvY
namespace Go.Pv
open Go.RowKit

def splc {α : Type} (l : List α) (o : Nat) (c : List α) : List α := l.take o ++ c ++ l.drop (o + c.length)

theorem splc_length {α : Type} (l : List α) (o : Nat) (c : List α) (h : o + c.length ≤ l.length) : (splc l o c).length = l.length := by
  simp [splc]; omega

theorem splc_get {α : Type} (l : List α) (o : Nat) (c : List α) (h : o + c.length ≤ l.length) (p : Nat) : (splc l o c)[p]? = if p < o then l[p]? else if p < o + c.length then c[p - o]? else l[p]? := by
  unfold splc
  have e1 : min o l.length = o := by omega
  by_cases h1 : p < o
  · rw [if_pos h1, List.append_assoc, List.getElem?_append_left (by simp; omega), List.getElem?_take, if_pos h1]
  · rw [if_neg h1]
    by_cases h2 : p < o + c.length
    · rw [if_pos h2, List.getElem?_append_left (by simp; omega), List.getElem?_append_right (by simp; omega)]
      simp only [List.length_take, e1]
    · rw [if_neg h2, List.getElem?_append_right (by simp; omega), List.getElem?_drop]
      congr 1
      simp only [List.length_append, List.length_take, e1]
      omega

section
variable {P : Program} {w0 : World} {L : Lim} {nt : Nat} {σ : St} {S : Nat → Prop} {E : Nat → Value} {a : Act} {w : World}

theorem RV.rt {v : Value} {y : Tree} (h : RV w S E v (.t y)) : RT w S v y := by cases h with | t h => exact h

theorem store_own (hok : Ok w0 L nt σ S E a w) {t : Nat} {ti : TI} (hti : TIok P t ti) {id i sz off e n : Nat} {rs : List (List Tree)} {row lt : List Tree} {x : T} {v pv : Value}
    (hb : look σ.hp id = some (.rows e sz n rs)) (hp : RV w S E pv (.pe id i sz off)) (hi : rs[i]? = some row) (hv : RV w S E v x) (hx : cellsT σ.hp x = some (lt.map .t)) (hs : lt.length = ti.size) (hle : off + lt.length ≤ sz) :
    ∃ w', (Instr.storeAt t pv v).run P w = .ok () w' ∧ Ok w0 L nt ⟨σ.tm, hput σ.hp id (.rows e sz n (rs.set i (splc row off lt)))⟩ S E a w' := by
  obtain ⟨vs, hvs, hl, hr, h1⟩ := hok.cells hv hx
  obtain ⟨hn, hrow⟩ := hok.hp id _ hb
  obtain ⟨hil, hirow⟩ := List.getElem?_eq_some_iff.1 hi
  have hvl : vs.length = lt.length := by simpa using hl
  rcases hrow with ⟨_, hr0⟩ | ⟨β, cap, cs, hcm, hE, hh, hcl, hcc, hsz, hcr⟩
  · subst hr0; simp at hil
  · cases hp with
    | pe _ _ _ _ β' n' cap' hE' =>
      rw [hE] at hE'
      cases hE'
      have hrl : row.length = sz := by rw [← hirow]; exact hsz _ (List.getElem_mem hil)
      have hfit : i * sz + off + vs.length ≤ cs.length := by
        have h2 : (i + 1) * sz ≤ cap * sz := Nat.mul_le_mul_right _ (by omega)
        rw [Nat.succ_mul] at h2
        omega
      have hst : (Instr.storeAt t (.pointer (some ⟨β, i * sz + off, none⟩)) v).run P w = .ok () (w.setRow β (splc cs (i * sz + off) vs).toArray) := by
        have := run_storeCells_at (P := P) β (i * sz + off) e vs 0 cs.toArray w hh (by simp; omega) h1
        have hl2 : vs.length = ti.size := by omega
        simp only [Instr.storeAt, Instr.sureAddr, Sem.run_bind, Sem.run_pure, Result.andThen_ok, storeVar, hti.run_size, hvs]
        simpa [splc, hl2] using this
      refine ⟨_, hst, hok.setRow hb (by rw [hE]; rfl) hh fun hS hnew => ⟨by rw [List.length_set]; exact hn, .inr ⟨β, cap, splc cs (i * sz + off) vs, hcm, by rw [List.length_set]; exact hE, hnew, by rw [splc_length _ _ _ hfit]; exact hcl, by rw [List.length_set]; exact hcc, ?_, ?_⟩⟩⟩
      · intro r hr'
        obtain ⟨j, hj, rfl⟩ := List.mem_iff_getElem.1 hr'
        rw [List.length_set] at hj
        rw [List.getElem_set]
        split
        · rw [splc_length _ _ _ (by omega)]; exact hrl
        · exact hsz _ (List.getElem_mem hj)
      · intro i' j hi' hj hb'
        have hi2 : i' < rs.length := by rw [List.length_set] at hi'; exact hi'
        have hg := splc_get cs (i * sz + off) vs hfit (i' * sz + j)
        rw [List.getElem?_eq_getElem hb'] at hg
        have old : ∀ (hne : i' ≠ i ∨ j < off ∨ off + vs.length ≤ j), (i' = i → (splc row off lt)[j]? = row[j]?) → RT (w.setRow β (splc cs (i * sz + off) vs).toArray) S ((splc cs (i * sz + off) vs)[i' * sz + j]) (((rs.set i (splc row off lt))[i']'(by rw [List.length_set]; exact hi2))[j]) := by
          intro hne hsame
          have hjr : ((rs.set i (splc row off lt))[i']'(by rw [List.length_set]; exact hi2)).length = sz := by
            rw [List.getElem_set]
            split
            · rw [splc_length _ _ _ (by omega)]; exact hrl
            · exact hsz _ (List.getElem_mem hi2)
          have hjs : j < sz := by rw [hjr] at hj; exact hj
          have hrange : i' * sz + j < i * sz + off ∨ i * sz + off + vs.length ≤ i' * sz + j := by
            rcases Nat.lt_trichotomy i' i with h2 | h2 | h2
            · left
              have : (i' + 1) * sz ≤ i * sz := Nat.mul_le_mul_right _ h2
              rw [Nat.succ_mul] at this; omega
            · subst h2
              rcases hne with h3 | h3 | h3
              · exact absurd rfl h3
              · left; omega
              · right; omega
            · right
              have : (i + 1) * sz ≤ i' * sz := Nat.mul_le_mul_right _ h2
              rw [Nat.succ_mul] at this; omega
          have e1 : some ((splc cs (i * sz + off) vs)[i' * sz + j]) = cs[i' * sz + j]? := by
            rw [hg]
            rcases hrange with h2 | h2
            · rw [if_pos h2]
            · rw [if_neg (by omega), if_neg (by omega)]
          obtain ⟨hlt, e1⟩ := List.getElem?_eq_some_iff.1 e1.symm
          have hj2 : j < (rs[i']).length := by rw [hsz _ (List.getElem_mem hi2)]; exact hjs
          have e2 : ((rs.set i (splc row off lt))[i']'(by rw [List.length_set]; exact hi2))[j] = (rs[i'])[j] := by
            apply Option.some.inj
            rw [← List.getElem?_eq_getElem, ← List.getElem?_eq_getElem, List.getElem_set]
            split
            · rename_i h3
              subst h3
              rw [hsame rfl, ← hirow]
            · rfl
          rw [← e1, e2]
          exact (hcr i' j hi2 hj2 hlt).mono (fun _ x => x) hS
        by_cases hii : i' = i
        · subst hii
          have hsg := splc_get row off lt (by omega) j
          by_cases c1 : j < off
          · exact old (.inr (.inl c1)) (fun _ => by rw [hsg, if_pos c1])
          · by_cases c2 : j < off + lt.length
            · have hjv : j - off < vs.length := by omega
              have e1 : (splc cs (i' * sz + off) vs)[i' * sz + j] = vs[j - off] := by
                apply Option.some.inj
                rw [hg, if_neg (by omega), if_pos (by omega), show i' * sz + j - (i' * sz + off) = j - off by omega, List.getElem?_eq_getElem hjv]
              have e2 : ((rs.set i' (splc row off lt))[i']'(by rw [List.length_set]; exact hi2))[j] = lt[j - off] := by
                apply Option.some.inj
                rw [← List.getElem?_eq_getElem, List.getElem_set_self, hsg, if_neg c1, if_pos c2, List.getElem?_eq_getElem (by omega)]
              rw [e1, e2]
              have := hr (j - off) hjv (by simp; omega)
              rw [List.getElem_map] at this
              exact this.rt.mono (fun _ x => x) hS
            · exact old (.inr (.inr (by omega))) (fun _ => by rw [hsg, if_neg c1, if_neg c2])
        · exact old (.inl hii) (fun h => absurd h hii)

theorem load_own (hok : Ok w0 L nt σ S E a w) {t : Nat} {ti : TI} (hti : TIok P t ti) {id i sz off e n : Nat} {rs : List (List Tree)} {row : List Tree} {pv : Value} {r : T}
    (hb : look σ.hp id = some (.rows e sz n rs)) (hp : RV w S E pv (.pe id i sz off)) (hi : rs[i]? = some row) (hx : takeT ti.desc.isAgg ti.size (row.map .t) off = some r) :
    ∃ v, (Instr.loadAt t pv).run P w = .ok v w ∧ RV w S E v r := by
  obtain ⟨hn, hrow⟩ := hok.hp id _ hb
  obtain ⟨hil, hirow⟩ := List.getElem?_eq_some_iff.1 hi
  rcases hrow with ⟨_, hr0⟩ | ⟨β, cap, cs, hcm, hE, hh, hcl, hcc, hsz, hcr⟩
  · subst hr0; simp at hil
  · cases hp with
    | pe _ _ _ _ β' n' cap' hE' =>
      rw [hE] at hE'
      cases hE'
      have hrl : row.length = sz := by rw [← hirow]; exact hsz _ (List.getElem_mem hil)
      have hfit : i * sz + sz ≤ cs.length := by
        have h2 : (i + 1) * sz ≤ cap * sz := Nat.mul_le_mul_right _ (by omega)
        rw [Nat.succ_mul] at h2
        omega
      refine load_ok (P := P) (b := β) (o := i * sz) (vs := (cs.drop (i * sz)).take sz) hti (l := row.map .t) ?_ ?_ ?_ hx
      · simp; omega
      · intro j h1
        simp only [List.length_take, List.length_drop] at h1
        rw [cell_of_row w β _ _ e _ hh]
        have : i * sz + j < cs.length := by omega
        simp [this]
      · intro j h1 h2
        simp only [List.length_take, List.length_drop] at h1
        have hj : j < sz := by omega
        have := hcr i j hil (by rw [hsz _ (List.getElem_mem hil)]; exact hj) (by omega)
        simp only [List.getElem_take, List.getElem_drop, List.getElem_map]
        simp only [hirow] at this
        exact .t this
end
end Go.Pv

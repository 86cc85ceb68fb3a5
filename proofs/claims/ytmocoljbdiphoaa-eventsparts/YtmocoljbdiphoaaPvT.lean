/- The value machine, part T: what an append to a row of the call's own does to the machine. -/
import Derived.Test.YtmocoljbdiphoaaPvS
namespace Go.Pv
open Go.RowKit

/-- A value that is a whole row of its own: the first n elements are xs. -/
def OwnV (w : World) (v : Value) (e sz n : Nat) (xs : List Value) : Prop :=
  (v = .slice none 0 0 ∧ n = 0 ∧ xs = []) ∨
  ∃ (g cap : Nat) (cur : List Value), v = .slice (some ⟨g, 0, none⟩) n cap ∧ w.heap[g]? = some (.cells cur.toArray e (0, 0)) ∧ n ≤ cap ∧ cap ≤ maxLen ∧ cur.length = cap * sz ∧ cur.take (n * sz) = xs

theorem run_append_none {P : Program} {w : World} {t ty e : Nat} {ti : TI} {v x : Value} {n c : Nat} {xs : List Value} {a : Option Addr} (ht : P.underlying t = some (.slice e)) (hte : TIok P e ti) (hv : OwnV w v e ti.size n xs) (hx : x = .slice a 0 c) :
    (Builtin.append_ #[t, t] ty #[v, x]).run P w = .ok v w := by
  obtain ⟨i, d, hi, hs, _⟩ := hte
  subst hx
  have hf : (Builtin.firstCells i.size 0 (.slice a 0 c)).run P w = .ok #[] w := by
    cases a <;> simp [Builtin.firstCells, loadCells, loadCellsFrom]
  rcases hv with ⟨rfl, rfl, rfl⟩ | ⟨g, cap, cur, rfl, hg, hn, _⟩
  · simp [Builtin.append_, run_underlying ht, sizeOf, typeInfo, hi, Builtin.lenOf, hf]
  · simp [Builtin.append_, run_underlying ht, sizeOf, typeInfo, hi, Builtin.lenOf, hf, hn, storeCells]

theorem run_append_some {P : Program} {w : World} {t ty e : Nat} {ti : TI} {v : Value} {n m c : Nat} {xs news : List Value} {a : Addr} (ht : P.underlying t = some (.slice e)) (hte : TIok P e ti) (hz : ti.zero.length = ti.size) (hv : OwnV w v e ti.size n xs)
    (hl : news.length = m * ti.size) (hnews : ∀ j u, news[j]? = some u → w.cell? (a.add j) = some u) (h1 : ∀ u ∈ news, u.oneCell' = true) (h0 : 0 < m) (hmax : n + m ≤ 1073741824) :
    ∃ v' w', (Builtin.append_ #[t, t] ty #[v, .slice (some a) m c]).run P w = .ok v' w' ∧ Keep (fun b => blkOf v = some b) w w' ∧ OwnV w' v' e ti.size (n + m) (xs ++ news) ∧
      (∀ b, blkOf v' = some b → b < w'.heap.size ∧ (blkOf v = some b ∨ w.heap.size ≤ b)) := by
  obtain ⟨i, d, hi, hs, _, _, ⟨z, hzz, hzc⟩, hby⟩ := hte
  rw [← hs] at hv hl hz ⊢
  have hzs : z.cells.size = i.size := by rw [← hz, ← hzc]; simp
  have hbytes : (n + m) * i.bytes ≤ 140737488355328 := by
    have := Nat.mul_le_mul hmax hby
    omega
  have grown : ∀ (old : Nat), old < n + m → xs.length = n * i.size →
      OwnV (w.drew.alloc (.cells (xs.toArray ++ news.toArray ++ Builtin.zeroCells z.cells (grownCap w (n + m) old e - (n + m))) e)) (.slice (some ⟨w.heap.size, 0, none⟩) (n + m) (grownCap w (n + m) old e)) e i.size (n + m) (xs ++ news) := by
    intro old ho hxl
    have hge := grownCap_ge w (n + m) old e
    have hcm : grownCap w (n + m) old e ≤ maxLen := grownCap_le_maxLen w (n + m) old e (by simp only [maxLen]; omega)
    have hlen : (xs ++ news).length = (n + m) * i.size := by rw [List.length_append, hxl, hl, Nat.add_mul]
    refine .inr ⟨w.heap.size, _, (xs ++ news) ++ (Builtin.zeroCells z.cells (grownCap w (n + m) old e - (n + m))).toList, rfl, ?_, hge, hcm, ?_, ?_⟩
    · have : ((xs ++ news) ++ (Builtin.zeroCells z.cells (grownCap w (n + m) old e - (n + m))).toList).toArray = xs.toArray ++ news.toArray ++ Builtin.zeroCells z.cells (grownCap w (n + m) old e - (n + m)) := by simp
      rw [this]
      exact heap_alloc_new w.drew _
    · rw [List.length_append, hlen, Array.length_toList, size_zeroCells, hzs, ← Nat.add_mul]
      congr 1
      omega
    · rw [← hlen]
      exact List.take_left
  have kept : ∀ o, Keep (fun b => blkOf v = some b) w (w.drew.alloc o) := fun o => ⟨rfl, rfl, rfl, by simp, fun k hk _ => Below.heap_alloc w.drew _ _ hk, Nat.le_succ _⟩
  rcases hv with ⟨rfl, rfl, rfl⟩ | ⟨g, cap, cur, rfl, hg, hn, hcm, hcs, htake⟩
  · have hr := run_append_nil (P := P) w t ty e i z ht hi hzz a m c news hl hnews h0 (by omega) (by have hb := hbytes; simp only [Nat.zero_add] at hb; omega)
    have hgr := grown 0 (by omega) (by simp)
    simp only [Nat.zero_add, List.nil_append, Array.empty_append] at hgr ⊢
    exact ⟨_, _, hr, kept _, hgr, fun b hb => by cases hb; simp⟩
  · have hxl : xs.length = n * i.size := by
      rw [← htake, List.length_take, hcs]
      exact Nat.min_eq_left (Nat.mul_le_mul_right _ hn)
    by_cases hroom : n + m ≤ cap
    · have hfit : n * i.size + news.length ≤ cur.toArray.size := by rw [hl, List.size_toArray, hcs, ← Nat.add_mul]; exact Nat.mul_le_mul_right _ hroom
      have hr := run_append_room (P := P) w t ty e i ht hi g n cap cur.toArray hg a m c news hl hnews h1 hroom hfit
      refine ⟨_, _, hr, ⟨rfl, rfl, rfl, by simp, fun k _ hk => setRow_other w g k _ (fun e => hk (by simp [blkOf, e])), Nat.le_refl _⟩, .inr ⟨g, cap, _, rfl, setRow_heap w g cur.toArray _ e _ hg, hroom, hcm, ?_, ?_⟩, fun b hb => ?_⟩
      · simp only [List.length_append, List.length_take, List.length_drop]
        rw [hl, hcs]
        have h2 : n * i.size + m * i.size ≤ cap * i.size := by rw [← Nat.add_mul]; exact Nat.mul_le_mul_right _ hroom
        have h3 : n * i.size ≤ cap * i.size := Nat.mul_le_mul_right _ hn
        omega
      · rw [htake]
        have hlen : (xs ++ news).length = (n + m) * i.size := by rw [List.length_append, hxl, hl, Nat.add_mul]
        rw [← hlen]
        exact List.take_left
      · cases hb
        refine ⟨?_, .inl rfl⟩
        have := (Array.getElem?_eq_some_iff.1 hg).1
        simpa using this
    · have holds : ∀ j u, xs[j]? = some u → w.cell? ((⟨g, 0, none⟩ : Addr).add j) = some u := by
        intro j u hu
        have hadd : (⟨g, 0, none⟩ : Addr).add j = ⟨g, j, none⟩ := by rw [addr_add]; simp
        rw [hadd, cell_of_row w g j _ e (0, 0) hg]
        rw [← htake, List.getElem?_take] at hu
        split at hu
        · simpa using hu
        · cases hu
      have hr := run_append_grow (P := P) w t ty e i z ht hi hzz ⟨g, 0, none⟩ n cap xs hxl holds a m c news hl hnews (by omega) (by omega) (growslice_fits (by omega) hbytes)
      exact ⟨_, _, hr, kept _, grown cap (by omega) hxl, fun b hb => by cases hb; simp⟩
end Go.Pv

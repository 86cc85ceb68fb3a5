/- The value machine, part Xj: slices.Sort and slices.Compact at int, by the kit's contracts. -/
import Derived.Test.YtmocoljbdiphoaaPvXh
import Derived.Test.YtmocoljbdiphoaaPvXi
import Derived.Shelf.Sort.Plain
import Derived.Shelf.Slices.In.SortNone
import Derived.Shelf.Slices.CompactI
namespace Go.Pv
open Go.RowKit Go.Sort Go.Shelf Go.Proofs

theorem compact_eq (zs : List Int) : Lib.compact zs = compL zs := by
  have key : ∀ m, m ≤ zs.length → Lib.compactUpTo zs.toArray m = compL (zs.take m) := by
    intro m
    induction m with
    | zero => intro _; rfl
    | succ m ih =>
      intro hm
      have hg : ∀ j (hj : j < zs.length), (zs.toArray)[j]! = zs[j] := fun j hj => by
        rw [getElem!_pos zs.toArray j (by simpa using hj)]; simp
      rw [Lib.compactUpTo_succ, ih (by omega), List.take_succ_eq_append_getElem (by omega : m < zs.length), hg m (by omega)]
      by_cases h0 : m = 0
      · subst h0; rfl
      · have hne : zs.take m ≠ [] := by
          intro h
          have := congrArg List.length h
          rw [List.length_take, List.length_nil] at this; omega
        rw [compL_snoc _ _ hne]
        have hl : (zs.take m).getLast hne = zs[m - 1] := by
          rw [List.getLast_eq_getElem, List.getElem_take]
          congr 1
          rw [List.length_take]; omega
        rw [hl]
        unfold Lib.keeps
        rw [hg m (by omega), hg (m - 1) (by omega)]
        by_cases he : zs[m] = zs[m - 1]
        · rw [if_pos he, if_neg (by simp [h0, he])]
        · rw [if_neg he, if_pos (by simp [h0, he])]
  unfold Lib.compact
  rw [key _ (Nat.le_refl _), List.take_length]

section
variable (w : World) (β m : Nat) (d : Array Int) (os : Array Obj)
/-- The world behind a turn of a row of ints. -/
def rowW : World := grow (putRow (Value.int .i64) (Sort.ahead w m) β 0 d) os

theorem rw_size : (rowW w β m d os).heap.size = w.heap.size + os.size := by
  simp [rowW, putRow, mapBlock, Sort.ahead, grow]
theorem rw_other (b : Nat) (hb : b < w.heap.size) (hne : b ≠ β) : (rowW w β m d os).heap[b]? = w.heap[b]? := by
  simp only [rowW, putRow, mapBlock, Sort.ahead, grow]
  rw [Array.getElem?_append_left (by simpa using hb), Array.getElem?_modify, if_neg (Ne.symm hne)]
theorem rw_row {cs : Array Value} {elem : TypeId} (hh : w.heap[β]? = some (.cells cs elem (0, 0))) : (rowW w β m d os).heap[β]? = some (.cells (putCells (Value.int .i64) 0 d cs) elem (0, 0)) := by
  have hb : β < w.heap.size := (Array.getElem?_eq_some_iff.1 hh).1
  simp only [rowW, putRow, mapBlock, Sort.ahead, grow]
  rw [Array.getElem?_append_left (by simpa using hb), Array.getElem?_modify, if_pos rfl, hh]
  rfl
theorem rw_keep (L : Nat → Prop) (hL : L β) : Keep L w (rowW w β m d os) where
  os := rfl
  tape := rfl
  output := rfl
  size := by rw [rw_size]; omega
  block := fun b hb hn => rw_other w β m d os b hb (fun e => hn (e ▸ hL))
  drawn := by simp [rowW, putRow, mapBlock, Sort.ahead, grow]
end

/-- The row that is handed back. -/
theorem row_back {w : World} {S : Nat → Prop} {E' : Nat → Value} {e id' β cap m : Nat} {r z : List Int} {vs : List Value} {os : Array Obj} (hcm : cap ≤ maxLen) (hh : w.heap[β]? = some (.cells vs.toArray e (0, 0))) (hvl : vs.length = cap * 1) (hrl : r.length ≤ cap)
    (hE' : E' id' = .slice (some ⟨β, 0, none⟩) r.length cap) (hS : ¬ S β) (hβ : β < w.heap.size) : Owned (rowW w β m (r ++ z).toArray os) S E' [(id', .rows e 1 r.length (r.map encI))] := by
  have one : ∀ id b, look [(id', Blk.rows e 1 r.length (r.map encI))] id = some b → id = id' ∧ b = .rows e 1 r.length (r.map encI) := fun id b hl => by
    simp only [look] at hl
    by_cases hid : id' = id
    · subst hid; simp at hl; exact ⟨rfl, hl.symm⟩
    · simp [beq_ne hid] at hl
  refine ⟨fun id b hl => ?_, fun id b β' hl hβ' => ?_, fun id id1 b b' β' hl hl' _ _ => ?_⟩
  · obtain ⟨rfl, rfl⟩ := one _ _ hl
    rw [hE']
    refine ⟨by simp, .inr ⟨β, cap, (putCells (Value.int .i64) 0 (r ++ z).toArray vs.toArray).toList, hcm, by simp, by rw [rw_row w β m _ os hh], by simp [putCells, hvl], by simpa using hrl, ?_, ?_⟩⟩
    · intro x hx
      obtain ⟨y, _, rfl⟩ := List.mem_map.1 hx
      rfl
    · intro i j hi hj hb
      have hi' : i < r.length := by simpa using hi
      have hj' : j = 0 := by
        rw [List.getElem_map] at hj
        have : (encI r[i]).length = 1 := rfl
        omega
      subst hj'
      have e1 : (putCells (Value.int .i64) 0 (r ++ z).toArray vs.toArray).toList[i * 1 + 0] = .int .i64 r[i] := by
        simp only [Array.getElem_toList, Nat.mul_one, Nat.add_zero]
        simp only [putCells, Array.getElem_mapIdx, Nat.zero_le, true_and, Nat.zero_add, Nat.sub_zero, List.size_toArray]
        rw [if_pos (by rw [List.length_append]; omega), getElem!_pos _ _ (by simp only [List.size_toArray, List.length_append]; omega)]
        simp only [List.getElem_toArray]
        rw [List.getElem_append_left hi']
      rw [e1]
      have e2 : ((r.map encI)[i]'hi)[0]'hj = .v (.int .i64 r[i]) := by simp [encI, tI]
      rw [e2]
      exact .v _
  · obtain ⟨rfl, rfl⟩ := one _ _ hl
    have : β' = β := by rw [hE'] at hβ'; simpa [blkOf] using hβ'.symm
    subst this
    exact ⟨hS, by rw [rw_size]; omega⟩
  · exact (one _ _ hl).1.trans (one _ _ hl').1.symm

/-- The row that is lent. -/
theorem row_lent {w : World} {β e cap : Nat} {l : List Int} {vs : List Value} (hh : w.heap[β]? = some (.cells vs.toArray e (0, 0))) (hvl : vs.length = cap * 1) (hcap : l.length ≤ cap) {S : Nat → Prop}
    (hr : ∀ i j (hi : i < (l.map encI).length) (hj : j < ((l.map encI)[i]).length) (hb : i * 1 + j < vs.length), RT w S (vs[i * 1 + j]) (((l.map encI)[i])[j])) : Holds (Value.int .i64) w β 0 l.toArray := by
  intro t ht
  have ht' : t < l.length := by simpa using ht
  refine ⟨?_, by simp [World.frozen?, hh]⟩
  rw [cell_of_row w β (0 + t) _ e _ hh, Nat.zero_add]
  have h1 := hr t 0 (by simpa using ht') (by simp [encI]) (by omega)
  have e2 : ((l.map encI)[t]'(by simpa using ht'))[0]'(by simp [encI]) = .v (.int .i64 l[t]) := by simp [encI, tI]
  rw [e2] at h1
  have h3 := RTv h1
  simp only [List.getElem?_toArray]
  rw [List.getElem?_eq_getElem (by omega), getElem!_pos l.toArray t ht]
  simp only [List.getElem_toArray]
  rw [← h3]
  congr 2
  omega

theorem sortInts_tie {P : Program} {ρ : Ren} (L : Lays.n189 P ρ) (hc : ∀ vs w, (callFunc (ρ.f 189) vs).run P w = .ok (.enter (ρ.f 189) vs) w) {e : Nat} (l : List Int) :
    TieG P (ρ.f 189) [.own 1000000] [(1000000, .rows e 1 l.length (l.map encI))] (sortIM l) (fun _ => .tup []) (fun r => [(1000000, .rows e 1 r.length (r.map encI))]) := by
  refine ⟨hc, fun r hr w S E vs hS hO hv => ?_⟩
  have hlen : l.length < 4611686018427387904 := by
    unfold sortIM at hr; split at hr <;> first | assumption | cases hr
  rw [sortIM_ok hlen, Option.some.injEq] at hr
  subst hr
  obtain ⟨v0, rfl⟩ : ∃ v0, vs = [v0] := by
    have := hv.1
    match vs, this with
    | [a], _ => exact ⟨a, rfl⟩
  have r0 : RV w S E v0 (.own 1000000) := hv.2 0 (by simp) (by simp)
  cases r0 with
  | own _ _ hE =>
  have hblk := hO.blk 1000000 (.rows e 1 l.length (l.map encI)) rfl
  rw [hE] at hblk
  obtain ⟨hn, ⟨hx, hnil⟩ | ⟨β, cap, vs, hcm, hx, hh, hvl, hcap, hsz, hr⟩⟩ := hblk
  · have hl : l = [] := by simpa using hnil
    subst hl
    subst hx
    refine (Any.slices_Sort_int_none L none 0 w).mono fun e' w' ⟨he, hw⟩ => ?_
    subst hw
    refine ⟨_, S, E, he, .tup [] [] rfl fun j h1 => by simp at h1, Keep.refl _ _, hS, fun b hb => .inl hb, ?_, fun β hl => .inl ?_, fun _ _ => rfl⟩
    · simpa using hO
    · simpa using hl
  · simp only [List.length_map] at hx hcap
    subst hx
    have hβ := hO.own 1000000 (.rows e 1 l.length (l.map encI)) β rfl (by rw [hE]; rfl)
    have hlent : lentOf [(1000000, Blk.rows e 1 l.length (l.map encI))] E β := ⟨1000000, _, rfl, by rw [hE]; rfl⟩
    refine (Any.slices_Sort_int L β 0 cap l w (row_lent hh hvl hcap hr) hβ.2 hlen).mono fun e' w' ⟨he, m, os, hw⟩ => ?_
    have hrl : (l.mergeSort fun x y => decide (x ≤ y)).length = l.length := List.length_mergeSort l
    generalize (l.mergeSort fun x y => decide (x ≤ y)) = r at hw hrl ⊢
    have hw2 : w' = rowW w β m (r ++ []).toArray os := by rw [List.append_nil]; exact hw
    subst hw2
    refine ⟨.tuple #[], S, E, he, .tup [] [] rfl fun j h1 => by simp at h1, rw_keep w β m _ os _ hlent, fun b hb => ?_, fun b hb => .inl hb, row_back hcm hh hvl (by omega) (by rw [hE, hrl]) hβ.1 hβ.2, fun β' ⟨id, b, hl, hβ'⟩ => .inl ?_, fun _ _ => rfl⟩
    · rw [rw_size]; exact Nat.lt_of_lt_of_le (hS b hb) (Nat.le_add_right _ _)
    · have : id = 1000000 := by
        simp only [look] at hl
        by_cases hid : 1000000 = id
        · exact hid.symm
        · simp [beq_ne hid] at hl
      subst this
      exact ⟨1000000, _, rfl, hβ'⟩

theorem compactInts_tie {P : Program} {ρ : Ren} (L : Lays2.n20 P ρ) (hc : ∀ vs w, (callFunc (ρ.f 20) vs).run P w = .ok (.enter (ρ.f 20) vs) w) {e : Nat} (l : List Int) :
    TieG P (ρ.f 20) [.own 1000000] [(1000000, .rows e 1 l.length (l.map encI))] (compactM l) (fun _ => .own 900000) (fun r => [(900000, .rows e 1 r.length (r.map encI))]) := by
  refine ⟨hc, fun r hr w S E vs hS hO hv => ?_⟩
  have hlen : l.length ≤ 9223372036854775807 := by
    unfold compactM at hr; split at hr <;> first | assumption | cases hr
  rw [compactM_ok hlen, Option.some.injEq] at hr
  obtain ⟨v0, rfl⟩ : ∃ v0, vs = [v0] := by
    have := hv.1
    match vs, this with
    | [a], _ => exact ⟨a, rfl⟩
  have r0 : RV w S E v0 (.own 1000000) := hv.2 0 (by simp) (by simp)
  have one : ∀ (r : List Int) id b, look [(900000, Blk.rows e 1 r.length (r.map encI))] id = some b → id = 900000 := fun r id b hl => by
    simp only [look] at hl
    by_cases hid : 900000 = id
    · exact hid.symm
    · simp [beq_ne hid] at hl
  cases r0 with
  | own _ _ hE =>
  have hblk := hO.blk 1000000 (.rows e 1 l.length (l.map encI)) rfl
  rw [hE] at hblk
  have hEb : ∀ v, ∀ id, big ≤ id → (fun id => if id = 900000 then v else E id) id = E id := fun v id h => by
    simp only
    rw [if_neg (by unfold big at h; omega)]
  obtain ⟨hn, ⟨hx, hnil⟩ | ⟨β, cap, vs, hcm, hx, hh, hvl, hcap, hsz, hrr⟩⟩ := hblk
  · have hl : l = [] := by simpa using hnil
    subst hl
    subst hx
    subst hr
    refine (Any.slices_Compact_int_empty L none 0 w).mono fun e' w' ⟨he, hw⟩ => ?_
    subst hw
    have hno : ∀ id b, look [(900000, Blk.rows e 1 (compL []).length ((compL []).map encI))] id = some b → blkOf ((fun id => if id = 900000 then Value.slice none 0 0 else E id) id) = none := fun id b hl => by
      rw [one _ _ _ hl]; rfl
    refine ⟨_, S, fun id => if id = 900000 then .slice none 0 0 else E id, he, .own _ _ (by simp), Keep.refl _ _, hS, fun b hb => .inl hb, ⟨fun id b hl => ?_, fun id b β' hl hβ' => ?_, fun id id1 b b' β' hl hl' _ _ => (one _ _ _ hl).trans (one _ _ _ hl').symm⟩, fun β ⟨id, b, hl, hβ⟩ => ?_, hEb _⟩
    · have := one _ _ _ hl
      subst this
      simp [look] at hl
      subst hl
      exact ⟨by simp, .inl ⟨by simp, by simp [compL]⟩⟩
    · rw [hno _ _ hl] at hβ'; cases hβ'
    · rw [hno _ _ hl] at hβ; cases hβ
  · simp only [List.length_map] at hx hcap
    subst hx
    have hβ := hO.own 1000000 (.rows e 1 l.length (l.map encI)) β rfl (by rw [hE]; rfl)
    have hlent : lentOf [(1000000, Blk.rows e 1 l.length (l.map encI))] E β := ⟨1000000, _, rfl, by rw [hE]; rfl⟩
    refine (Any.slices_Compact_int L β 0 cap l w (row_lent hh hvl hcap hrr) hlen hcap).mono fun e' w' ⟨he, m, hw⟩ => ?_
    rw [compact_eq] at he hw
    have hrl : (compL l).length ≤ l.length := by
      have key : ∀ (l : List Int) p, (compG p l).length ≤ l.length := by
        intro l
        induction l with
        | nil => intro p; exact Nat.le_refl _
        | cons y l ih =>
          intro p
          unfold compG
          have := ih y
          cases y == p
          · simp only [cond_false, List.length_cons]; omega
          · simp only [cond_true, List.length_cons]; omega
      cases l with
      | nil => exact Nat.le_refl _
      | cons x l => simp only [compL, List.length_cons]; have := key l x; omega
    rw [hr] at he hw hrl
    generalize List.replicate (l.length - r.length) (0 : Int) = z at hw
    have hw2 : w' = rowW w β m (r ++ z).toArray #[] := by rw [hw]; simp [rowW]
    subst hw2
    refine ⟨_, S, fun id => if id = 900000 then .slice (some ⟨β, 0, none⟩) r.length cap else E id, he, .own _ _ (by simp), rw_keep w β m _ _ _ hlent, fun b hb => ?_, fun b hb => .inl hb, row_back hcm hh hvl (by omega) (by simp) hβ.1 hβ.2, fun β' ⟨id, b, hl, hβ'⟩ => .inl ?_, hEb _⟩
    · rw [rw_size]; exact Nat.lt_of_lt_of_le (hS b hb) (Nat.le_add_right _ _)
    · have := one _ _ _ hl
      subst this
      have e1 : β' = β := by simpa [blkOf] using hβ'.symm
      subst e1
      exact hlent
end Go.Pv

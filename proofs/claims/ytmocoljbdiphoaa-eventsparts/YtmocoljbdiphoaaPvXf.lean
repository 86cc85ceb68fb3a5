/- The value machine, part Xf: slices.SortFunc, by the kit's contract. -/
import Derived.Test.YtmocoljbdiphoaaPvXe
import Derived.Shelf.SlSortCmp.NoneTotal
import Derived.Deep.Draws
namespace Go.Pv
open Go.RowKit Go.Sort Go.Shelf Go.Proofs

section
variable {α : Type} [Inhabited α] (enc : α → List Value) (k : Nat) (w : World) (β m : Nat) (d : Array α) (os : Array Obj)

theorem sw_size : (sortWorldK enc k w β 0 m d os).heap.size = w.heap.size + os.size := by
  simp [sortWorldK, putRowK, putRow, mapBlock, Sort.ahead, grow]

theorem sw_other (b : Nat) (hb : b < w.heap.size) (hne : b ≠ β) : (sortWorldK enc k w β 0 m d os).heap[b]? = w.heap[b]? := by
  simp only [sortWorldK, putRowK, putRow, mapBlock, Sort.ahead, grow]
  rw [Array.getElem?_append_left (by simpa using hb), Array.getElem?_modify, if_neg (Ne.symm hne)]

theorem sw_row {cs : Array Value} {elem : TypeId} (hh : w.heap[β]? = some (.cells cs elem (0, 0))) : (sortWorldK enc k w β 0 m d os).heap[β]? = some (.cells (putCells id 0 (flatK enc k d) cs) elem (0, 0)) := by
  have hb : β < w.heap.size := (Array.getElem?_eq_some_iff.1 hh).1
  simp only [sortWorldK, putRowK, putRow, mapBlock, Sort.ahead, grow]
  rw [Array.getElem?_append_left (by simpa using hb), Array.getElem?_modify, if_pos rfl, hh]
  rfl

theorem sw_keep (L : Nat → Prop) (hL : L β) : Keep L w (sortWorldK enc k w β 0 m d os) where
  os := rfl
  tape := rfl
  output := rfl
  size := by rw [sw_size]; omega
  block := fun b hb hn => sw_other enc k w β m d os b hb (fun e => hn (e ▸ hL))
  drawn := by simp [sortWorldK, putRowK, putRow, mapBlock, Sort.ahead, grow]
end

/-- What keeps all that was there has only drawn and laid. -/
theorem Keep.grown {w w' : World} (h : Keep (fun _ => False) w w') : ∃ q os, w' = grow (w.drewN q) os := by
  refine ⟨w'.drawn - w.drawn, w'.heap.extract w.heap.size w'.heap.size, ?_⟩
  have hd := h.drawn
  have hz := h.size
  obtain ⟨heap', tape', drawn', os', out'⟩ := w'
  have e1 := h.os; have e2 := h.tape; have e3 := h.output
  simp only at e1 e2 e3 hd hz
  subst e1 e2 e3
  simp only [grow, World.drewN, World.mk.injEq]
  refine ⟨?_, trivial, by omega, trivial, trivial⟩
  apply Array.ext_getElem?
  intro i
  by_cases hi : i < w.heap.size
  · rw [Array.getElem?_append_left hi]; exact h.block i hi (fun x => x)
  · rw [Array.getElem?_append_right (by omega), Array.getElem?_extract]
    split
    · congr 1; omega
    · rw [Array.getElem?_eq_none (by omega)]

theorem mergeSort_val {α : Type} {g : α → α → Option Int} (l : List α) : (l.attach.mergeSort fun x y => !ltM g y.1 x.1).map (·.1) = l.mergeSort fun x y => !ltM g y x := by
  have := List.map_mergeSort (r := fun (x y : {x // x ∈ l}) => !ltM g y.1 x.1) (s := fun x y => !ltM g y x) (f := fun x => x.1) (l := l.attach) (fun a _ b _ => rfl)
  rw [this]
  simp

theorem RTv {w : World} {S : Nat → Prop} {v u : Value} (h : RT w S v (.v u)) : v = u := by cases h; rfl

theorem sortFunc_tie {E : Type} {P : Program} {ρ : Ren} (L : SlLaysF0.n6 P ρ) {enc : E → List Tree} {k : Nat} (encV : E → List Value) (henc : ∀ x, enc x = (encV x).map Tree.v) (hk : ∀ x, (encV x).length = k) (h1 : ∀ x, ∀ v ∈ encV x, v.oneCell' = true)
    (aE : ∀ w, (isAgg (ρ.t 24)).run P w = .ok true w) (zE : ∀ w, (Go.sizeOf (ρ.t 24)).run P w = .ok k w) {e n : Nat} {cs : List (List Tree)} {A : E → T} (hA : ∀ x, A x = .agg ((enc x).map .t)) (g : E → E → Option Int)
    (hg : ∀ x y, TieF P n ([A x, A y] ++ cs.map T.el) (g x y) (fun r => .t (tI r))) (l : List E) :
    TieG P (ρ.f 6) [.own 1000000, .fz n cs] [(1000000, .rows e k l.length (l.map enc))] (sortM g l) (fun _ => .tup []) (fun r => [(1000000, .rows e k r.length (r.map enc))]) := by
  refine ⟨L.f6.enters rfl, fun r hr w S E vs hS hO hv => ?_⟩
  have hC : SortOk g l := by
    unfold sortM at hr; split at hr <;> first | assumption | cases hr
  rw [sortM_ok hC, Option.some.injEq] at hr
  subst hr
  obtain ⟨v0, v1, rfl⟩ : ∃ v0 v1, vs = [v0, v1] := by
    have := hv.1
    match vs, this with
    | [a, b], _ => exact ⟨a, b, rfl⟩
  have r0 : RV w S E v0 (.own 1000000) := hv.2 0 (by simp) (by simp)
  have r1 : RV w S E v1 (.fz n cs) := hv.2 1 (by simp) (by simp)
  cases r0 with
  | own _ _ hE =>
  cases r1 with
  | fz _ ps _ hpl hp =>
  have hblk := hO.blk 1000000 (.rows e k l.length (l.map enc)) rfl
  rw [hE] at hblk
  obtain ⟨hn, ⟨hx, hnil⟩ | ⟨β, cap, vs, hcm, hx, hh, hvl, hcap, hsz, hr⟩⟩ := hblk
  · -- no element
    have hl : l = [] := by simpa using hnil
    subst hl
    subst hx
    refine (AnyF.slices_SortFunc_none L none 0 (.func (.func n) #[] ps.toArray) w).mono fun e' w' ⟨he, hw⟩ => ?_
    subst hw
    refine ⟨_, S, E, he, .tup [] [] rfl fun j h1 => by simp at h1, Keep.refl _ _, hS, fun b hb => .inl hb, ?_, fun β hl => .inl ?_, fun _ _ => rfl⟩
    · simpa using hO
    · simpa using hl
  · have hl0 : l ≠ [] ∨ l = [] := by by_cases h : l = [] <;> simp [h]
    simp only [List.length_map] at hx hcap
    subst hx
    by_cases hl : l = []
    · subst hl
      refine (AnyF.slices_SortFunc_none L (some ⟨β, 0, none⟩) cap (.func (.func n) #[] ps.toArray) w).mono fun e' w' ⟨he, hw⟩ => ?_
      subst hw
      refine ⟨_, S, E, he, .tup [] [] rfl fun j h1 => by simp at h1, Keep.refl _ _, hS, fun b hb => .inl hb, ?_, fun β hl => .inl ?_, fun _ _ => rfl⟩
      · simpa using hO
      · simpa using hl
    obtain ⟨x0, hx0⟩ := List.exists_mem_of_ne_nil l hl
    haveI : Inhabited {x // x ∈ l} := ⟨⟨x0, hx0⟩⟩
    let enc' : {x // x ∈ l} → List Value := fun x => encV x.1
    let cf : {x // x ∈ l} → {x // x ∈ l} → Int := fun x y => (g x.1 y.1).getD 0
    let d : Array {x // x ∈ l} := l.attach.toArray
    have hds : d.size = l.length := by simp [d]
    have hlt : ∀ x y, ltOf cf x y = ltM g x.1 y.1 := fun x y => rfl
    have hO' : SWO (ltOf cf) := ⟨fun x => hC.irrefl _ x.2, fun x y z => hC.trans _ x.2 _ y.2 _ z.2, fun x y z => hC.ntrans _ x.2 _ y.2 _ z.2⟩
    have hβS : ¬ S β := (hO.own 1000000 (.rows e k l.length (l.map enc)) β rfl (by rw [hE]; rfl)).1
    have hβw : β < w.heap.size := (hO.own 1000000 (.rows e k l.length (l.map enc)) β rfl (by rw [hE]; rfl)).2
    have eg : ∀ args w, (callFunc n args).run P w = .ok (.enter n args) w := (hg x0 x0).1
    have hdget : ∀ i (hi : i < l.length), (d[i]!).1 = l[i] := fun i hi => by
      rw [getElem!_pos d i (by omega)]; simp [d]
    have hcmp : CmpLays P n ps.toArray enc' k cf β 0 d.size w := by
      intro m os dk hdk x y
      obtain ⟨c, hc⟩ := hC.ans _ x.2 _ y.2
      have hW := sw_keep enc' k w β m dk os (fun b => b = β) rfl
      have hSW : ∀ b, S b → (sortWorldK enc' k w β 0 m dk os).heap[b]? = w.heap[b]? := fun b hb => sw_other enc' k w β m dk os b (hS b hb) (fun e => hβS (e ▸ hb))
      have argA : ∀ z : {x // x ∈ l}, RV (sortWorldK enc' k w β 0 m dk os) S E (.agg (enc' z).toArray) (A z.1) := fun z => by
        rw [hA, henc]
        refine .agg _ _ (by simp [enc']) fun j h1 h2 => ?_
        simp only [List.getElem_map]
        exact .t (.v _)
      have hcall := (hg x.1 y.1).2 c hc (sortWorldK enc' k w β 0 m dk os) S E ([.agg (enc' x).toArray, .agg (enc' y).toArray] ++ ps) (fun b hb => Nat.lt_of_lt_of_le (hS b hb) hW.size) (by
        refine RVL.append (l := [A x.1, A y.1]) ⟨rfl, fun j h1 h2 => ?_⟩ ⟨by simpa using hpl, fun j h1 h2 => ?_⟩
        · match j, h1, h2 with
          | 0, _, _ => exact argA x
          | 1, _, _ => exact argA y
        · simp only [List.getElem_map]
          exact ((hp j h1 (by simpa using h2)).rv (E := E)).mono (fun _ x => x) hSW (fun _ _ => rfl))
      have e1 : (([.agg (enc' x).toArray, .agg (enc' y).toArray] : List Value) ++ ps).toArray = #[.agg (enc' x).toArray, .agg (enc' y).toArray] ++ ps.toArray := by simp
      rw [e1] at hcall
      refine hcall.mono fun e' w' ⟨v, S', he, hv', hkeep, _, _⟩ => ?_
      subst he
      have : v = .int .i64 c := by
        cases hv' with | t h => exact RTv h
      subst this
      exact ⟨by simp [cf, hc], hkeep.grown⟩
    have hcell : ∀ i (hi : i < l.length) j (hj : j < k), ∃ hb : i * k + j < vs.length, vs[i * k + j] = (encV l[i])[j]'(by rw [hk]; exact hj) := fun i hi j hj => by
      have h2 : i * k + j < vs.length := by
        have : (i + 1) * k ≤ cap * k := Nat.mul_le_mul_right _ (by omega)
        rw [Nat.succ_mul] at this; omega
      refine ⟨h2, ?_⟩
      have hlen : j < ((l.map enc)[i]'(by simpa using hi)).length := by simp [henc, hk]; exact hj
      have := hr i j (by simpa using hi) hlen h2
      have e2 : ((l.map enc)[i]'(by simpa using hi))[j]'hlen = .v ((encV l[i])[j]'(by rw [hk]; exact hj)) := by simp [henc]
      rw [e2] at this
      exact RTv this
    have hH : HoldsK enc' k w β 0 d := by
      intro t ht
      rw [size_flatK, hds] at ht
      have hk0 : 0 < k := by rcases Nat.eq_zero_or_pos k with h | h; · subst h; simp at ht
                             · exact h
      have hi : t / k < l.length := Nat.div_lt_of_lt_mul (by rw [Nat.mul_comm]; exact ht)
      have hj : t % k < k := Nat.mod_lt _ hk0
      obtain ⟨hb, hc⟩ := hcell _ hi _ hj
      have et : t / k * k + t % k = t := by rw [Nat.mul_comm]; exact Nat.div_add_mod t k
      refine ⟨?_, by simp [World.frozen?, hh]⟩
      rw [cell_of_row w β (0 + t) _ e _ hh, get_flatK _ _ _ t (by rw [hds]; exact ht)]
      have h2 : (enc' d[t / k]!)[t % k]! = vs[t / k * k + t % k] := by
        rw [hc, getElem!_pos _ _ (by simp only [enc']; rw [hk]; exact hj)]
        simp only [enc', hdget _ hi]
      rw [h2, Nat.zero_add]
      simp only [id_eq, List.getElem?_toArray]
      rw [List.getElem?_eq_getElem (by omega)]
      congr 2
      exact et.symm
    have hcon := AnyQ.slices_SortFunc_total L k aE zE enc' (fun x => hk _) (fun x => h1 _) cf hO' n ps.toArray β 0 cap d w eg hcmp hH hβw (by rw [hds]; exact hC.len) (fun x y a b => Subtype.ext (hC.tot _ x.2 _ y.2 a b))
    rw [hds] at hcon
    have hmap := mergeSort_val (g := g) l
    have hdl : d.toList = l.attach := by simp [d]
    rw [hdl] at hcon
    refine hcon.mono fun e' w' ⟨he, m, os, hw⟩ => ?_
    have hcong : (l.attach.mergeSort fun x y => !ltOf cf y x) = l.attach.mergeSort fun x y => !ltM g y.1 x.1 := rfl
    rw [hcong] at hw
    generalize (l.attach.mergeSort fun x y => !ltM g y.1 x.1) = q at hw hmap
    have hrl : (l.mergeSort fun x y => !ltM g y x).length = l.length := List.length_mergeSort l
    generalize (l.mergeSort fun x y => !ltM g y x) = r at hmap hrl ⊢
    have hql : q.length = r.length := by rw [← hmap]; simp
    have hlent : lentOf [(1000000, Blk.rows e k l.length (l.map enc))] E β := ⟨1000000, _, rfl, by rw [hE]; rfl⟩
    subst hw
    have hqget : ∀ i (hi : i < r.length), (q.toArray[i]!).1 = r[i] := fun i hi => by
      rw [getElem!_pos q.toArray i (by simpa using (by omega : i < q.length))]
      subst hmap
      simp
    refine ⟨.tuple #[], S, E, he, .tup [] [] rfl fun j h1 => by simp at h1, sw_keep enc' k w β m q.toArray os _ hlent, fun b hb => ?_, fun b hb => .inl hb, ⟨fun id b hl => ?_, fun id b β' hl hβ' => ?_, fun id id' b b' β' hl hl' _ _ => ?_⟩, fun β' ⟨id, b, hl, hβ'⟩ => .inl ?_, fun _ _ => rfl⟩
    · rw [sw_size]; exact Nat.lt_of_lt_of_le (hS b hb) (Nat.le_add_right _ _)
    · have : id = 1000000 ∧ b = .rows e k r.length (r.map enc) := by
        simp only [look] at hl
        by_cases hid : 1000000 = id
        · subst hid; simp at hl; exact ⟨rfl, hl.symm⟩
        · simp [beq_ne hid] at hl
      obtain ⟨rfl, rfl⟩ := this
      rw [hE]
      refine ⟨by simp, .inr ⟨β, cap, (putCells id 0 (flatK enc' k q.toArray) vs.toArray).toList, hcm, by simp [hrl], by rw [sw_row enc' k w β m q.toArray os hh], by simp [putCells, hvl], by simpa [hrl] using hcap, ?_, ?_⟩⟩
      · intro x hx
        obtain ⟨y, _, rfl⟩ := List.mem_map.1 hx
        simp [henc, hk]
      · intro i j hi hj hb
        have hi' : i < r.length := by simpa using hi
        have hj' : j < k := by simpa [henc, hk] using hj
        have hk0 : 0 < k := by omega
        have ht : i * k + j < r.length * k := by
          have : (i + 1) * k ≤ r.length * k := Nat.mul_le_mul_right _ (by omega)
          rw [Nat.succ_mul] at this; omega
        have hdiv : (i * k + j) / k = i := by rw [Nat.mul_comm, Nat.mul_add_div hk0, Nat.div_eq_of_lt hj', Nat.add_zero]
        have hmod : (i * k + j) % k = j := by rw [Nat.mul_comm, Nat.mul_add_mod, Nat.mod_eq_of_lt hj']
        have e1 : (putCells id 0 (flatK enc' k q.toArray) vs.toArray).toList[i * k + j] = (encV r[i])[j]'(by rw [hk]; exact hj') := by
          simp only [Array.getElem_toList]
          simp only [putCells, Array.getElem_mapIdx, Nat.zero_le, true_and, Nat.zero_add, Nat.sub_zero, size_flatK, List.size_toArray, id_eq]
          rw [if_pos (by rw [hql]; exact ht), get_flatK _ _ _ _ (by simp only [List.size_toArray]; rw [hql]; exact ht), hdiv, hmod, getElem!_pos _ _ (by simp only [enc']; rw [hk]; exact hj')]
          simp only [enc', hqget i hi']
        rw [e1]
        have e2 : ((r.map enc)[i]'hi)[j]'hj = .v ((encV r[i])[j]'(by rw [hk]; exact hj')) := by simp [henc]
        rw [e2]
        exact .v _
    · have : id = 1000000 := by
        simp only [look] at hl
        by_cases hid : 1000000 = id
        · exact hid.symm
        · simp [beq_ne hid] at hl
      subst this
      have : β' = β := by rw [hE] at hβ'; simpa [blkOf] using hβ'.symm
      subst this
      exact ⟨hβS, by rw [sw_size]; omega⟩
    · simp only [look] at hl hl'
      by_cases hid : 1000000 = id
      · by_cases hid' : 1000000 = id'
        · exact hid.symm.trans hid'
        · simp [beq_ne hid'] at hl'
      · simp [beq_ne hid] at hl
    · have : id = 1000000 := by
        simp only [look] at hl
        by_cases hid : 1000000 = id
        · exact hid.symm
        · simp [beq_ne hid] at hl
      subst this
      exact ⟨1000000, _, rfl, hβ'⟩
end Go.Pv

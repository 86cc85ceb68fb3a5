/- This file joins: The value machine, part Xf: slices.SortFunc, by the kit's contract. The value machine, part Xh: quiet steps of regions that draw their order, taken at once. Part Xi: what library functions compute, plain. The value machine, part Xm: math/bits.Len64 and Mul64, by the kit's contracts. The value machine, part Xn: parts of rows of the call's own: copied within, cleared. The value machine, part Xo: regions that draw their order, said shortly. -/
import Derived.Test.YtjhedhnghldjbaaGreatDoorEcuExplainsD
import Derived.Shelf.SlSortCmp.NoneTotal
import Derived.Deep.Draws
import Derived.Lib.BitFns
import Derived.Shelf.Strconv.Itoa0
import Derived.Shelf.Bits.Mul64
import Derived.Scope
set_option linter.unusedSimpArgs false
set_option linter.unusedVariables false
namespace Go.Pv
open Go.RowKit Go.Sort Go.Shelf Go.Proofs
section
variable {α : Type} [Inhabited α] (enc : α → List Value) (k : Nat) (w : World) (β m : Nat) (d : Array α) (os : Array Obj)
theorem sw_size : (sortWorldK enc k w β 0 m d os).heap.size = w.heap.size + os.size := by
  simp [sortWorldK, putRowK, putRow, mapBlock, Sort.ahead, grow]
theorem sw_other (b : Nat) (hb : b < w.heap.size) (hne : b ≠ β) : (sortWorldK enc k w β 0 m d os).heap[b]? = w.heap[b]? := by
  simp only [sortWorldK, putRowK, putRow, mapBlock, Sort.ahead, grow]
  rw [Array.getElem?_append_left (by simpa using hb), Array.getElem?_modify, if_neg (Ne.symm hne)]
theorem sw_row {cs : Array Value} {elem : TypeId} (hh : w.heap[β]? = some (.cells cs elem (0, 0))) : (sortWorldK enc k w β 0 m d os).heap[β]? = some (.cells (putCells id 0 (flatK enc k d) cs) elem (0, 0)) := by
  have hb : β < w.heap.size := (Array.getElem?_eq_some_iff.1 hh).1
  simp only [sortWorldK, putRowK, putRow, mapBlock, Sort.ahead, grow]
  rw [Array.getElem?_append_left (by simpa using hb), Array.getElem?_modify, if_pos rfl, hh]
  rfl
theorem sw_keep (L : Nat → Prop) (hL : L β) : Keep true L w (sortWorldK enc k w β 0 m d os) where
  os := rfl
  tape := rfl
  output := rfl
  size := by rw [sw_size]; omega
  block := fun b hb hn => sw_other enc k w β m d os b hb (fun e => hn (e ▸ hL))
  drawn := fun _ => by simp [sortWorldK, putRowK, putRow, mapBlock, Sort.ahead, grow]
end
/-- What keeps all that was there has only drawn and laid. -/
theorem Keep.grown {w w' : World} (h : Keep true (fun _ => False) w w') : ∃ q os, w' = grow (w.drewN q) os := by
  refine ⟨w'.drawn - w.drawn, w'.heap.extract w.heap.size w'.heap.size, ?_⟩
  have hd := h.drawn rfl
  have hz := h.size
  obtain ⟨heap', tape', drawn', os', out'⟩ := w'
  have e1 := h.os; have e2 := h.tape; have e3 := h.output
  simp only at e1 e2 e3 hd hz
  subst e1 e2 e3
  simp only [grow, World.drewN, World.mk.injEq]
  refine ⟨?_, trivial, by omega, trivial, trivial⟩
  apply Array.ext_getElem?
  intro i
  by_cases hi : i < w.heap.size
  · rw [Array.getElem?_append_left hi]; exact h.block i hi (fun x => x)
  · rw [Array.getElem?_append_right (by omega), Array.getElem?_extract]
    split
    · congr 1; omega
    · rw [Array.getElem?_eq_none (by omega)]
theorem mergeSort_val {α : Type} {g : α → α → Option Int} (l : List α) : (l.attach.mergeSort fun x y => !ltM g y.1 x.1).map (·.1) = l.mergeSort fun x y => !ltM g y x := by
  have := List.map_mergeSort (r := fun (x y : {x // x ∈ l}) => !ltM g y.1 x.1) (s := fun x y => !ltM g y x) (f := fun x => x.1) (l := l.attach) (fun a _ b _ => rfl)
  rw [this]
  simp
theorem RTv {w : World} {S : Nat → Prop} {v u : Value} (h : RT w S v (.v u)) : v = u := by cases h; rfl
theorem sortFunc_tie {E : Type} {P : Program} {ρ : Ren} (L : SlLaysF0.n6 P ρ) {enc : E → List Tree} {k : Nat} (encV : E → List Value) (henc : ∀ x, enc x = (encV x).map Tree.v) (hk : ∀ x, (encV x).length = k) (h1 : ∀ x, ∀ v ∈ encV x, v.oneCell' = true)
    (aE : ∀ w, (isAgg (ρ.t 24)).run P w = .ok true w) (zE : ∀ w, (Go.sizeOf (ρ.t 24)).run P w = .ok k w) {e n : Nat} {cs : List (List Tree)} {A : E → T} (hA : ∀ x, A x = .agg ((enc x).map .t)) (g : E → E → Option Int)
    (hg : ∀ x y, TieF P n ([A x, A y] ++ cs.map T.el) (g x y) (fun r => .t (tI r))) (l : List E) :
    TieG P (ρ.f 6) [.own 1000000, .fz n cs] [(1000000, .rows e k l.length (l.map enc))] (sortM g l) (fun _ => .tup []) (fun r => [(1000000, .rows e k r.length (r.map enc))]) := by
  refine ⟨L.f6.enters rfl, fun r hr w S E vs hgl hS hO hv => ?_⟩
  have hC : SortOk g l := by
    unfold sortM at hr; split at hr <;> first | assumption | cases hr
  rw [sortM_ok hC, Option.some.injEq] at hr
  subst hr
  obtain ⟨v0, v1, rfl⟩ : ∃ v0 v1, vs = [v0, v1] := by
    have := hv.1
    match vs, this with
    | [a, b], _ => exact ⟨a, b, rfl⟩
  have r0 : RV w S E v0 (.own 1000000) := hv.2 0 (by simp) (by simp)
  have r1 : RV w S E v1 (.fz n cs) := hv.2 1 (by simp) (by simp)
  cases r0 with
  | own _ _ hE =>
  cases r1 with
  | fz _ ps _ hpl hp =>
  have hblk := hO.blk 1000000 (.rows e k l.length (l.map enc)) rfl
  rw [hE] at hblk
  obtain ⟨hn, ⟨hx, hnil⟩ | ⟨β, cap, vs, hcm, hx, hh, hvl, hcap, hsz, hr⟩⟩ := hblk
  · -- no element
    have hl : l = [] := by simpa using hnil
    subst hl
    subst hx
    refine (AnyF.slices_SortFunc_none L none 0 (.func (.func n) #[] ps.toArray) w).mono fun e' w' ⟨he, hw⟩ => ?_
    subst hw
    refine ⟨_, S, E, he, .tup [] [] rfl fun j h1 => by simp at h1, Keep.refl _ _, hS, fun b hb => .inl hb, ?_, fun β hl => .inl ?_, fun _ _ => rfl⟩
    · simpa using hO
    · simpa using hl
  · have hl0 : l ≠ [] ∨ l = [] := by by_cases h : l = [] <;> simp [h]
    simp only [List.length_map] at hx hcap
    subst hx
    by_cases hl : l = []
    · subst hl
      refine (AnyF.slices_SortFunc_none L (some ⟨β, 0, none⟩) cap (.func (.func n) #[] ps.toArray) w).mono fun e' w' ⟨he, hw⟩ => ?_
      subst hw
      refine ⟨_, S, E, he, .tup [] [] rfl fun j h1 => by simp at h1, Keep.refl _ _, hS, fun b hb => .inl hb, ?_, fun β hl => .inl ?_, fun _ _ => rfl⟩
      · simpa using hO
      · simpa using hl
    obtain ⟨x0, hx0⟩ := List.exists_mem_of_ne_nil l hl
    haveI : Inhabited {x // x ∈ l} := ⟨⟨x0, hx0⟩⟩
    let enc' : {x // x ∈ l} → List Value := fun x => encV x.1
    let cf : {x // x ∈ l} → {x // x ∈ l} → Int := fun x y => (g x.1 y.1).getD 0
    let d : Array {x // x ∈ l} := l.attach.toArray
    have hds : d.size = l.length := by simp [d]
    have hlt : ∀ x y, ltOf cf x y = ltM g x.1 y.1 := fun x y => rfl
    have hO' : SWO (ltOf cf) := ⟨fun x => hC.irrefl _ x.2, fun x y z => hC.trans _ x.2 _ y.2 _ z.2, fun x y z => hC.ntrans _ x.2 _ y.2 _ z.2⟩
    have hβS : ¬ S β := (hO.own 1000000 (.rows e k l.length (l.map enc)) β rfl (by rw [hE]; rfl)).1
    have hβw : β < w.heap.size := (hO.own 1000000 (.rows e k l.length (l.map enc)) β rfl (by rw [hE]; rfl)).2
    have eg : ∀ args w, (callFunc n args).run P w = .ok (.enter n args) w := (hg x0 x0).1
    have hdget : ∀ i (hi : i < l.length), (d[i]!).1 = l[i] := fun i hi => by
      rw [getElem!_pos d i (by omega)]; simp [d]
    have hcmp : CmpLays P n ps.toArray enc' k cf β 0 d.size w := by
      intro m os dk hdk x y
      obtain ⟨c, hc⟩ := hC.ans _ x.2 _ y.2
      have hW := sw_keep enc' k w β m dk os (fun b => b = β) rfl
      have hSW : ∀ b, S b → (sortWorldK enc' k w β 0 m dk os).heap[b]? = w.heap[b]? := fun b hb => sw_other enc' k w β m dk os b (hS b hb) (fun e => hβS (e ▸ hb))
      have argA : ∀ z : {x // x ∈ l}, RV (sortWorldK enc' k w β 0 m dk os) S E (.agg (enc' z).toArray) (A z.1) := fun z => by
        rw [hA, henc]
        refine .agg _ _ (by simp [enc']) fun j h1 h2 => ?_
        simp only [List.getElem_map]
        exact .t (.v _)
      have hcall := (hg x.1 y.1).2 c hc (sortWorldK enc' k w β 0 m dk os) S E ([.agg (enc' x).toArray, .agg (enc' y).toArray] ++ ps) ((hgl.mono fun b (e : b = β) => ⟨1000000, _, rfl, by rw [hE, e]; rfl⟩).keep hW).any (fun b hb => Nat.lt_of_lt_of_le (hS b hb) hW.size) (by
        refine RVL.append (l := [A x.1, A y.1]) ⟨rfl, fun j h1 h2 => ?_⟩ ⟨by simpa using hpl, fun j h1 h2 => ?_⟩
        · match j, h1, h2 with
          | 0, _, _ => exact argA x
          | 1, _, _ => exact argA y
        · simp only [List.getElem_map]
          exact ((hp j h1 (by simpa using h2)).rv (E := E)).mono (fun _ x => x) hSW (fun _ _ => rfl))
      have e1 : (([.agg (enc' x).toArray, .agg (enc' y).toArray] : List Value) ++ ps).toArray = #[.agg (enc' x).toArray, .agg (enc' y).toArray] ++ ps.toArray := by simp
      rw [e1] at hcall
      refine hcall.mono fun e' w' ⟨v, S', he, hv', hkeep, _, _⟩ => ?_
      subst he
      have : v = .int .i64 c := by
        cases hv' with | t h => exact RTv h
      subst this
      exact ⟨by simp [cf, hc], hkeep.grown⟩
    have hcell : ∀ i (hi : i < l.length) j (hj : j < k), ∃ hb : i * k + j < vs.length, vs[i * k + j] = (encV l[i])[j]'(by rw [hk]; exact hj) := fun i hi j hj => by
      have h2 : i * k + j < vs.length := by
        have : (i + 1) * k ≤ cap * k := Nat.mul_le_mul_right _ (by omega)
        rw [Nat.succ_mul] at this; omega
      refine ⟨h2, ?_⟩
      have hlen : j < ((l.map enc)[i]'(by simpa using hi)).length := by simp [henc, hk]; exact hj
      have := hr i j (by simpa using hi) hlen h2
      have e2 : ((l.map enc)[i]'(by simpa using hi))[j]'hlen = .v ((encV l[i])[j]'(by rw [hk]; exact hj)) := by simp [henc]
      rw [e2] at this
      exact RTv this
    have hH : HoldsK enc' k w β 0 d := by
      intro t ht
      rw [size_flatK, hds] at ht
      have hk0 : 0 < k := by rcases Nat.eq_zero_or_pos k with h | h; · subst h; simp at ht
                             · exact h
      have hi : t / k < l.length := Nat.div_lt_of_lt_mul (by rw [Nat.mul_comm]; exact ht)
      have hj : t % k < k := Nat.mod_lt _ hk0
      obtain ⟨hb, hc⟩ := hcell _ hi _ hj
      have et : t / k * k + t % k = t := by rw [Nat.mul_comm]; exact Nat.div_add_mod t k
      refine ⟨?_, by simp [World.frozen?, hh]⟩
      rw [cell_of_row w β (0 + t) _ e _ hh, get_flatK _ _ _ t (by rw [hds]; exact ht)]
      have h2 : (enc' d[t / k]!)[t % k]! = vs[t / k * k + t % k] := by
        rw [hc, getElem!_pos _ _ (by simp only [enc']; rw [hk]; exact hj)]
        simp only [enc', hdget _ hi]
      rw [h2, Nat.zero_add]
      simp only [id_eq, List.getElem?_toArray]
      rw [List.getElem?_eq_getElem (by omega)]
      congr 2
      exact et.symm
    have hcon := AnyQ.slices_SortFunc_total L k aE zE enc' (fun x => hk _) (fun x => h1 _) cf hO' n ps.toArray β 0 cap d w eg hcmp hH hβw (by rw [hds]; exact hC.len) (fun x y a b => Subtype.ext (hC.tot _ x.2 _ y.2 a b))
    rw [hds] at hcon
    have hmap := mergeSort_val (g := g) l
    have hdl : d.toList = l.attach := by simp [d]
    rw [hdl] at hcon
    refine hcon.mono fun e' w' ⟨he, m, os, hw⟩ => ?_
    have hcong : (l.attach.mergeSort fun x y => !ltOf cf y x) = l.attach.mergeSort fun x y => !ltM g y.1 x.1 := rfl
    rw [hcong] at hw
    generalize (l.attach.mergeSort fun x y => !ltM g y.1 x.1) = q at hw hmap
    have hrl : (l.mergeSort fun x y => !ltM g y x).length = l.length := List.length_mergeSort l
    generalize (l.mergeSort fun x y => !ltM g y x) = r at hmap hrl ⊢
    have hql : q.length = r.length := by rw [← hmap]; simp
    have hlent : lentOf [(1000000, Blk.rows e k l.length (l.map enc))] E β := ⟨1000000, _, rfl, by rw [hE]; rfl⟩
    subst hw
    have hqget : ∀ i (hi : i < r.length), (q.toArray[i]!).1 = r[i] := fun i hi => by
      rw [getElem!_pos q.toArray i (by simpa using (by omega : i < q.length))]
      subst hmap
      simp
    refine ⟨.tuple #[], S, E, he, .tup [] [] rfl fun j h1 => by simp at h1, sw_keep enc' k w β m q.toArray os _ hlent, fun b hb => ?_, fun b hb => .inl hb, ⟨fun id b hl => ?_, fun id b β' hl hβ' => ?_, fun id id' b b' β' hl hl' _ _ => ?_⟩, fun β' ⟨id, b, hl, hβ'⟩ => .inl ?_, fun _ _ => rfl⟩
    · rw [sw_size]; exact Nat.lt_of_lt_of_le (hS b hb) (Nat.le_add_right _ _)
    · have : id = 1000000 ∧ b = .rows e k r.length (r.map enc) := by
        simp only [look] at hl
        by_cases hid : 1000000 = id
        · subst hid; simp at hl; exact ⟨rfl, hl.symm⟩
        · simp [beq_ne hid] at hl
      obtain ⟨rfl, rfl⟩ := this
      rw [hE]
      refine ⟨by simp, .inr ⟨β, cap, (putCells id 0 (flatK enc' k q.toArray) vs.toArray).toList, hcm, by simp [hrl], by rw [sw_row enc' k w β m q.toArray os hh], by simp [putCells, hvl], by simpa [hrl] using hcap, ?_, ?_⟩⟩
      · intro x hx
        obtain ⟨y, _, rfl⟩ := List.mem_map.1 hx
        simp [henc, hk]
      · intro i j hi hj hb
        have hi' : i < r.length := by simpa using hi
        have hj' : j < k := by simpa [henc, hk] using hj
        have hk0 : 0 < k := by omega
        have ht : i * k + j < r.length * k := by
          have : (i + 1) * k ≤ r.length * k := Nat.mul_le_mul_right _ (by omega)
          rw [Nat.succ_mul] at this; omega
        have hdiv : (i * k + j) / k = i := by rw [Nat.mul_comm, Nat.mul_add_div hk0, Nat.div_eq_of_lt hj', Nat.add_zero]
        have hmod : (i * k + j) % k = j := by rw [Nat.mul_comm, Nat.mul_add_mod, Nat.mod_eq_of_lt hj']
        have e1 : (putCells id 0 (flatK enc' k q.toArray) vs.toArray).toList[i * k + j] = (encV r[i])[j]'(by rw [hk]; exact hj') := by
          simp only [Array.getElem_toList]
          simp only [putCells, Array.getElem_mapIdx, Nat.zero_le, true_and, Nat.zero_add, Nat.sub_zero, size_flatK, List.size_toArray, id_eq]
          rw [if_pos (by rw [hql]; exact ht), get_flatK _ _ _ _ (by simp only [List.size_toArray]; rw [hql]; exact ht), hdiv, hmod, getElem!_pos _ _ (by simp only [enc']; rw [hk]; exact hj')]
          simp only [enc', hqget i hi']
        rw [e1]
        have e2 : ((r.map enc)[i]'hi)[j]'hj = .v ((encV r[i])[j]'(by rw [hk]; exact hj')) := by simp [henc]
        rw [e2]
        exact .v _
    · have : id = 1000000 := by
        simp only [look] at hl
        by_cases hid : 1000000 = id
        · exact hid.symm
        · simp [beq_ne hid] at hl
      subst this
      have : β' = β := by rw [hE] at hβ'; simpa [blkOf] using hβ'.symm
      subst this
      exact ⟨hβS, by rw [sw_size]; omega⟩
    · simp only [look] at hl hl'
      by_cases hid : 1000000 = id
      · by_cases hid' : 1000000 = id'
        · exact hid.symm.trans hid'
        · simp [beq_ne hid'] at hl'
      · simp [beq_ne hid] at hl
    · have : id = 1000000 := by
        simp only [look] at hl
        by_cases hid : 1000000 = id
        · exact hid.symm
        · simp [beq_ne hid] at hl
      subst this
      exact ⟨1000000, _, rfl, hβ'⟩
end Go.Pv
namespace Go.Pv
open Go.RowKit
section
variable {X : Cx} {ops : Array Oper} {fe fuel : Nat} {le l l' : List Bool} {σ' : St} {o : Oper} {α : Type}
end
end Go.Pv
namespace Go.Pv
def bitAnd (k : IntKind) (x y : Int) : Int := k.wrap (BitVec.ofInt k.bits x &&& BitVec.ofInt k.bits y).toNat
def bitOr (k : IntKind) (x y : Int) : Int := k.wrap (BitVec.ofInt k.bits x ||| BitVec.ofInt k.bits y).toNat
def bitXor (k : IntKind) (x y : Int) : Int := k.wrap (BitVec.ofInt k.bits x ^^^ BitVec.ofInt k.bits y).toNat
def bitAndNot (k : IntKind) (x y : Int) : Int := k.wrap (BitVec.ofInt k.bits x &&& ~~~(BitVec.ofInt k.bits y)).toNat
def bitShl (k : IntKind) (x y : Int) : Int := k.wrap (x * 2 ^ (min y.toNat k.bits))
def bitShr (k : IntKind) (x y : Int) : Int := x.fdiv (2 ^ (min y.toNat k.bits))
/-- A list with other elements at some places. -/
abbrev lset {α : Type} (l : List α) (m : List (Nat × α)) : List α := m.foldl (fun l p => l.set p.1 p.2) l
/-- parts of rows: in bounds? -/
def chkM (lo hi : Int) (n : Nat) : Option Unit := if 0 ≤ lo ∧ lo ≤ hi ∧ hi ≤ n then some () else none
/-- A list with other elements from a place on. -/
def copyAt {α : Type} (l : List α) (lo : Nat) (r : List α) : List α := l.take lo ++ r ++ l.drop (lo + r.length)
abbrev copyVM {α : Type} (l : List α) (lo hi lo2 hi2 : Int) : List α := copyAt l lo.toNat (((l.drop lo2.toNat).take (hi2.toNat - lo2.toNat)).take (hi.toNat - lo.toNat))
abbrev clearVM {α : Type} (l : List α) (lo hi : Int) (z : α) : List α := copyAt l lo.toNat (List.replicate (hi.toNat - lo.toNat) z)
/-- shifts by what may be negative; math/bits -/
def shlM (k : IntKind) (x y : Int) : Option Int := if y < 0 then none else some (bitShl k x y)
def shrM (k : IntKind) (x y : Int) : Option Int := if y < 0 then none else some (bitShr k x y)
def len64M (x : Int) : Option Int := if 0 ≤ x ∧ x ≤ 18446744073709551615 then some (Lib.bitLen x.toNat : Int) else none
def mul64M (x y : Int) : Option (Int × Int) := if (0 ≤ x ∧ x ≤ 18446744073709551615) ∧ (0 ≤ y ∧ y ≤ 18446744073709551615) then some (x * y / 18446744073709551616, x * y % 18446744073709551616) else none
/-- zeros behind nil: what is there then -/
def zerosM {α : Type} (n : Int) (z : α) : Option (List α) := if 0 < n ∧ n ≤ 1073741824 then some (List.replicate n.toNat z) else none
/-- slices.Sort at int: what l holds then. -/
noncomputable def sortIM (l : List Int) : Option (List Int) := if l.length < 4611686018427387904 then some (l.mergeSort fun x y => decide (x ≤ y)) else none
/-- A list without what equals the one ahead of it; p: the one ahead. -/
def compG (p : Int) : List Int → List Int
  | [] => []
  | y :: l => bif y == p then compG y l else y :: compG y l
def compL : List Int → List Int
  | [] => []
  | x :: l => x :: compG x l
/-- slices.Compact at int. -/
def compactM (l : List Int) : Option (List Int) := if l.length ≤ 9223372036854775807 then some (compL l) else none
theorem sortIM_ok {l : List Int} (h : l.length < 4611686018427387904) : sortIM l = some (l.mergeSort fun x y => decide (x ≤ y)) := by
  unfold sortIM; rw [if_pos h]
theorem compactM_ok {l : List Int} (h : l.length ≤ 9223372036854775807) : compactM l = some (compL l) := by
  unfold compactM; rw [if_pos h]
theorem compG_snoc (x : Int) : ∀ (l : List Int) (p : Int), compG p (l ++ [x]) = compG p l ++ (if x = l.getLastD p then [] else [x])
  | [], p => by
    show (bif x == p then [] else [x]) = [] ++ (if x = p then [] else [x])
    by_cases h : x = p
    · rw [if_pos h, show (x == p) = true by simpa using h]; rfl
    · rw [if_neg h, show (x == p) = false by simpa using h]; rfl
  | y :: l, p => by
    simp only [List.cons_append, compG, List.getLastD_cons]
    rw [compG_snoc x l y]
    cases y == p <;> rfl
theorem compL_snoc (x : Int) : ∀ (l : List Int) (h : l ≠ []), compL (l ++ [x]) = compL l ++ (if x = l.getLast h then [] else [x])
  | [], h => (h rfl).elim
  | y :: l, _ => by
    have e : (y :: l).getLast (List.cons_ne_nil y l) = l.getLastD y := by
      cases l with
      | nil => rfl
      | cons z l => rw [List.getLast_cons (List.cons_ne_nil z l)]; rfl
    simp only [List.cons_append, compL]
    rw [compG_snoc, e]
end Go.Pv
namespace Go.Pv
open Go.RowKit Go.Shelf Go.Proofs
theorem RVL.get1 {w : World} {S : Nat → Prop} {E : Nat → Value} {vs : List Value} {a : Value} (h : RVL w S E vs [.t (.v a)]) : vs = [a] := by
  match vs, h with
  | [x], h => have e : x = a := RV.tv (h.2 0 (by simp) (by simp)); rw [e]
  | [], h => exact absurd h.1 (by simp)
  | _ :: _ :: _, h => exact absurd h.1 (by simp)
theorem RVL.get2 {w : World} {S : Nat → Prop} {E : Nat → Value} {vs : List Value} {a b : Value} (h : RVL w S E vs [.t (.v a), .t (.v b)]) : vs = [a, b] := by
  match vs, h with
  | [x, y], h => have e : x = a := RV.tv (h.2 0 (by simp) (by simp)); have f : y = b := RV.tv (h.2 1 (by simp) (by simp)); rw [e, f]
  | [], h => exact absurd h.1 (by simp)
  | [_], h => exact absurd h.1 (by simp)
  | _ :: _ :: _ :: _, h => exact absurd h.1 (by simp)
theorem len64_tie {P : Program} {ρ : Ren} (L : Lays.n129 P ρ) (hc : ∀ vs w, (callFunc (ρ.f 129) vs).run P w = .ok (.enter (ρ.f 129) vs) w) (x : Int) :
    TieF P (ρ.f 129) [.t (tK .u64 x)] (len64M x) (fun r => .t (tI r)) := by
  refine ⟨hc, fun r hr w S E vs hgl hS hv => ?_⟩
  obtain rfl := hv.get1
  unfold len64M at hr
  by_cases h : 0 ≤ x ∧ x ≤ 18446744073709551615
  · rw [if_pos h] at hr; cases hr
    refine (Any.bits_Len64 L x w h.1 h.2).mono fun e w' ⟨he, hw⟩ => ?_
    subst hw
    exact ⟨_, S, he, .t (.v _), .refl _ _, hS, fun b hb => .inl hb⟩
  · rw [if_neg h] at hr; cases hr
theorem mul64_tie {P : Program} {ρ : Ren} (L : Lays.n264 P ρ) (hc : ∀ vs w, (callFunc (ρ.f 264) vs).run P w = .ok (.enter (ρ.f 264) vs) w) (x y : Int) :
    TieF P (ρ.f 264) [.t (tK .u64 x), .t (tK .u64 y)] (mul64M x y) (fun r => .tup [.t (tK .u64 r.1), .t (tK .u64 r.2)]) := by
  refine ⟨hc, fun r hr w S E vs hgl hS hv => ?_⟩
  obtain rfl := hv.get2
  unfold mul64M at hr
  by_cases h : (0 ≤ x ∧ x ≤ 18446744073709551615) ∧ (0 ≤ y ∧ y ≤ 18446744073709551615)
  · rw [if_pos h] at hr; cases hr
    obtain ⟨a, rfl⟩ : ∃ a : Nat, x = a := ⟨x.toNat, by omega⟩
    obtain ⟨b, rfl⟩ : ∃ b : Nat, y = b := ⟨y.toNat, by omega⟩
    refine (Any.bits_Mul64 L a b (by omega) (by omega) w).mono fun e w' ⟨he, hw⟩ => ?_
    subst hw
    refine ⟨_, S, he, .tup [_, _] _ rfl fun j h1 h2 => ?_, .refl _ _, hS, fun b hb => .inl hb⟩
    match j, h1 with
    | 0, _ => exact .t (.v _)
    | 1, _ => exact .t (.v _)
  · rw [if_neg h] at hr; cases hr
section
variable {ρ : Type} {X : Cx} {ks : List K} {tm tmMin : List (Nat × T)} {hp : List (Nat × Blk)} {Q : ρ → Exit → St → Prop} {all : Array Oper} {o : Oper} {rest : List Oper}
theorem TieO.shl {ty yt d : Nat} {x y : Operand} {ik jk : IntKind} {i j : Int} {k : Int → Option ρ} (ho : o.op = .binOp .shl ty x y yt) (hd : o.dst = some d) (hdn : Nat.blt d X.nt = true) (hg : guardT all.toList tm o.guard = some true)
    (hx : val tm x = some (.t (.v (.int ik i)))) (hy : val tm y = some (.t (.v (.int jk j)))) (h : ∀ q, TieO X all rest ks ⟨(d, .t (.v (.int ik q))) :: tm, hp⟩ (k q) Q) :
    TieO X all (o :: rest) ks ⟨tm, hp⟩ ((shlM ik i j).bind k) Q :=
  TieO.one hd hdn hg (fun q => .t (.v (.int ik q))) (fun q S E a w hm hk => by
    unfold shlM at hm
    split at hm
    · cases hm
    · rename_i hj
      cases hm
      refine ⟨_, ?_, .t (.v _)⟩
      simp only [execOp, ho, Sem.run_bind, (hk.val hx).tv, (hk.val hy).tv, eqGuard_run .shl ty x y (.int ik i) (.int jk j) (by simp) (by simp), Result.andThen_ok]
      simp [binOp, Op.shift, hj, bitShl]) (fun q _ => h q)
theorem TieO.shr {ty yt d : Nat} {x y : Operand} {ik jk : IntKind} {i j : Int} {k : Int → Option ρ} (ho : o.op = .binOp .shr ty x y yt) (hd : o.dst = some d) (hdn : Nat.blt d X.nt = true) (hg : guardT all.toList tm o.guard = some true)
    (hx : val tm x = some (.t (.v (.int ik i)))) (hy : val tm y = some (.t (.v (.int jk j)))) (h : ∀ q, TieO X all rest ks ⟨(d, .t (.v (.int ik q))) :: tm, hp⟩ (k q) Q) :
    TieO X all (o :: rest) ks ⟨tm, hp⟩ ((shrM ik i j).bind k) Q :=
  TieO.one hd hdn hg (fun q => .t (.v (.int ik q))) (fun q S E a w hm hk => by
    unfold shrM at hm
    split at hm
    · cases hm
    · rename_i hj
      cases hm
      refine ⟨_, ?_, .t (.v _)⟩
      simp only [execOp, ho, Sem.run_bind, (hk.val hx).tv, (hk.val hy).tv, eqGuard_run .shr ty x y (.int ik i) (.int jk j) (by simp) (by simp), Result.andThen_ok]
      simp [binOp, Op.shift, hj, bitShr]) (fun q _ => h q)
theorem StepQ.op1 {V : T} (hg : guardT all.toList tmMin o.guard = some true)
    (hrun : ∀ tm, more tmMin tm → ∀ (a : Act) w S E, Ok X.w0 X.L X.nt ⟨tm, hp⟩ S E a w → ∃ v, (execOp a.eval o).run X.P w = .ok (.value v) w ∧ RV w S E v V) : StepQ X all o tmMin hp V := by
  intro tm hm a w S E hk K Q' hK
  obtain ⟨v, h1, h2⟩ := hrun tm hm a w S E hk
  rw [guardT_ok hk (guardT_more hm hg), if_pos rfl]
  unfold Oper.wp
  rw [h1]
  exact hK _ _ _ _ hk h2
theorem StepQ.rem {ty yt : Nat} {x y : Operand} {ik : IntKind} {i j q : Int} (hq : remM i j = some q) (ho : o.op = .binOp .rem ty x y yt) (hg : guardT all.toList tmMin o.guard = some true)
    (hx : val tmMin x = some (.t (.v (.int ik i)))) (hy : val tmMin y = some (.t (.v (.int ik j)))) : StepQ X all o tmMin hp (.t (.v (.int ik q))) :=
  .op1 hg fun tm hm a w S E hk => ⟨.int ik q, by
    unfold remM at hq
    split at hq
    · cases hq
    · rename_i hj
      cases hq
      simp only [execOp, ho, Sem.run_bind, (hk.val (val_more hm hx)).tv, (hk.val (val_more hm hy)).tv, eqGuard_run .rem ty x y (.int ik i) (.int ik j) (by simp) (by simp), Result.andThen_ok]
      simp [binOp, Op.intDiv, hj], .t (.v _)⟩
theorem StepQ.shl {ty yt : Nat} {x y : Operand} {ik jk : IntKind} {i j q : Int} (hq : shlM ik i j = some q) (ho : o.op = .binOp .shl ty x y yt) (hg : guardT all.toList tmMin o.guard = some true)
    (hx : val tmMin x = some (.t (.v (.int ik i)))) (hy : val tmMin y = some (.t (.v (.int jk j)))) : StepQ X all o tmMin hp (.t (.v (.int ik q))) :=
  .op1 hg fun tm hm a w S E hk => ⟨.int ik q, by
    unfold shlM at hq
    split at hq
    · cases hq
    · rename_i hj
      cases hq
      simp only [execOp, ho, Sem.run_bind, (hk.val (val_more hm hx)).tv, (hk.val (val_more hm hy)).tv, eqGuard_run .shl ty x y (.int ik i) (.int jk j) (by simp) (by simp), Result.andThen_ok]
      simp [binOp, Op.shift, hj, bitShl], .t (.v _)⟩
theorem StepQ.shr {ty yt : Nat} {x y : Operand} {ik jk : IntKind} {i j q : Int} (hq : shrM ik i j = some q) (ho : o.op = .binOp .shr ty x y yt) (hg : guardT all.toList tmMin o.guard = some true)
    (hx : val tmMin x = some (.t (.v (.int ik i)))) (hy : val tmMin y = some (.t (.v (.int jk j)))) : StepQ X all o tmMin hp (.t (.v (.int ik q))) :=
  .op1 hg fun tm hm a w S E hk => ⟨.int ik q, by
    unfold shrM at hq
    split at hq
    · cases hq
    · rename_i hj
      cases hq
      simp only [execOp, ho, Sem.run_bind, (hk.val (val_more hm hx)).tv, (hk.val (val_more hm hy)).tv, eqGuard_run .shr ty x y (.int ik i) (.int jk j) (by simp) (by simp), Result.andThen_ok]
      simp [binOp, Op.shift, hj, bitShr], .t (.v _)⟩
end
end Go.Pv
namespace Go.Pv
open Go.RowKit
theorem chk_le {lo hi : Int} {n : Nat} {y : Unit} (h : chkM lo hi n = some y) : lo.toNat + (hi.toNat - lo.toNat) ≤ n := by
  unfold chkM at h
  split at h
  · omega
  · cases h
theorem copyAt_length {α : Type} {l r : List α} {lo : Nat} (h : lo + r.length ≤ l.length) : (copyAt l lo r).length = l.length := by
  unfold copyAt; simp; omega
theorem copyAt_get {α : Type} {l r : List α} {lo : Nat} (h : lo + r.length ≤ l.length) (i : Nat) : (copyAt l lo r)[i]? = if i < lo then l[i]? else if i < lo + r.length then r[i - lo]? else l[i]? := by
  unfold copyAt
  by_cases h1 : i < lo
  · rw [if_pos h1, List.append_assoc, List.getElem?_append_left (by rw [List.length_take]; omega), List.getElem?_take, if_pos h1]
  · rw [if_neg h1]
    by_cases h2 : i < lo + r.length
    · rw [if_pos h2, List.append_assoc, List.getElem?_append_right (by rw [List.length_take]; omega), List.length_take, Nat.min_eq_left (by omega), List.getElem?_append_left (by omega)]
    · rw [if_neg h2, List.getElem?_append_right (by rw [List.length_append, List.length_take]; omega), List.length_append, List.length_take, Nat.min_eq_left (by omega), List.getElem?_drop]
      congr 1; omega
section
variable {P : Program} {w0 : World} {L : Lim} {nt : Nat} {tm : List (Nat × T)} {hp : List (Nat × Blk)} {S : Nat → Prop} {E : Nat → Value} {a : Act} {w : World}
theorem Ok.putAt (h : Ok w0 L nt ⟨tm, hp⟩ S E a w) {id e sz n m cap β lo : Nat} {rs r2 : List (List Tree)} {news : List Value} (hb : look hp id = some (.rows e sz n rs)) (hE : E id = .slice (some ⟨β, 0, none⟩) m cap)
    (hlo : lo + r2.length ≤ rs.length) (hnl : news.length = r2.length * sz) (hone : ∀ u ∈ news, u.oneCell' = true) (h2 : ∀ r ∈ r2, r.length = sz)
    (hnr : ∀ i j (hi : i < r2.length) (hj : j < (r2[i]).length) (hb : i * sz + j < news.length), RT w S (news[i * sz + j]) ((r2[i])[j])) :
    ∃ w', (storeCells ⟨β, lo * sz, none⟩ news).run P w = .ok () w' ∧ Ok w0 L nt ⟨tm, hput hp id (.rows e sz n (copyAt rs lo r2))⟩ S E a w' := by
  obtain ⟨hn, hrow⟩ := h.hp id _ hb
  have hcl := copyAt_length hlo
  rcases hrow with ⟨hE', _⟩ | ⟨β', cap', cs, hcm, hE', hh, hcl2, hcc, hsz, hcr⟩
  · rw [hE'] at hE; cases hE
  · rw [hE'] at hE
    have hβ : β' = β := by injection hE with h1; injection h1 with h1; injection h1
    subst hβ
    have hle1 : (lo + r2.length) * sz ≤ cap' * sz := Nat.mul_le_mul_right _ (by omega)
    rw [Nat.add_mul] at hle1
    have hst := run_storeCells_at (P := P) β' (lo * sz) e news 0 cs.toArray w hh (by simp; rw [hnl, hcl2]; exact hle1) hone
    simp only [Nat.add_zero] at hst
    refine ⟨_, hst, h.setRow hb (by rw [hE']; rfl) hh fun hS hnew => ⟨by rw [hcl]; exact hn, .inr ⟨β', cap', cs.take (lo * sz) ++ news ++ cs.drop (lo * sz + news.length), hcm, by rw [hcl]; exact hE', hnew, ?_, by rw [hcl]; exact hcc, ?_, ?_⟩⟩⟩
    · simp only [List.length_append, List.length_take, List.length_drop]; omega
    · intro r hr
      unfold copyAt at hr
      rcases List.mem_append.1 hr with hr | hr
      · rcases List.mem_append.1 hr with hr | hr
        · exact hsz r (List.mem_of_mem_take hr)
        · exact h2 r hr
      · exact hsz r (List.mem_of_mem_drop hr)
    · intro i j hi hj hb'
      have hi2 : i < rs.length := by rw [← hcl]; exact hi
      have hg := copyAt_get hlo i
      rw [List.getElem?_eq_getElem hi] at hg
      have hcat : ∀ k, (cs.take (lo * sz) ++ news ++ cs.drop (lo * sz + news.length))[k]? = if k < lo * sz then cs[k]? else if k < lo * sz + news.length then news[k - lo * sz]? else cs[k]? := fun k => copyAt_get (l := cs) (r := news) (lo := lo * sz) (by omega) k
      by_cases h1 : i < lo
      · rw [if_pos h1, List.getElem?_eq_getElem hi2] at hg
        have eg := Option.some.inj hg
        have hj1 : j < (rs[i]).length := by rw [← eg]; exact hj
        have hjs : j < sz := by rw [← hsz _ (List.getElem_mem hi2)]; exact hj1
        have hlt : i * sz + j < lo * sz := by
          have : (i + 1) * sz ≤ lo * sz := Nat.mul_le_mul_right _ h1
          rw [Nat.succ_mul] at this; omega
        have hb2 : i * sz + j < cs.length := by omega
        have ec : (cs.take (lo * sz) ++ news ++ cs.drop (lo * sz + news.length))[i * sz + j] = cs[i * sz + j] := by
          apply Option.some.inj
          rw [← List.getElem?_eq_getElem, hcat, if_pos hlt, List.getElem?_eq_getElem hb2]
        simp only [eg]
        rw [ec]
        exact (hcr i j hi2 hj1 hb2).mono (fun _ x => x) hS
      · rw [if_neg h1] at hg
        by_cases h3 : i < lo + r2.length
        · rw [if_pos h3, List.getElem?_eq_getElem (by omega)] at hg
          have eg := Option.some.inj hg
          have hj1 : j < (r2[i - lo]'(by omega)).length := by rw [← eg]; exact hj
          have hjs : j < sz := by rw [← h2 _ (List.getElem_mem (by omega : i - lo < r2.length))]; exact hj1
          have e1 : i * sz = lo * sz + (i - lo) * sz := by rw [← Nat.add_mul]; congr 1; omega
          have hlt : (i - lo) * sz + j < news.length := by
            have : (i - lo + 1) * sz ≤ r2.length * sz := Nat.mul_le_mul_right _ (by omega)
            rw [Nat.succ_mul] at this; omega
          have ec : (cs.take (lo * sz) ++ news ++ cs.drop (lo * sz + news.length))[i * sz + j] = news[(i - lo) * sz + j] := by
            apply Option.some.inj
            rw [← List.getElem?_eq_getElem, hcat, if_neg (by omega), if_pos (by omega), ← List.getElem?_eq_getElem hlt]
            congr 1; omega
          simp only [eg]
          rw [ec]
          exact (hnr (i - lo) j (by omega) hj1 hlt).mono (fun _ x => x) hS
        · rw [if_neg h3, List.getElem?_eq_getElem hi2] at hg
          have eg := Option.some.inj hg
          have hj1 : j < (rs[i]).length := by rw [← eg]; exact hj
          have hle : (lo + r2.length) * sz ≤ i * sz := Nat.mul_le_mul_right _ (by omega)
          rw [Nat.add_mul] at hle
          have hjs : j < sz := by rw [← hsz _ (List.getElem_mem hi2)]; exact hj1
          have hb2 : i * sz + j < cs.length := by
            have : (i + 1) * sz ≤ cap' * sz := Nat.mul_le_mul_right _ (by omega)
            rw [Nat.succ_mul] at this; omega
          have ec : (cs.take (lo * sz) ++ news ++ cs.drop (lo * sz + news.length))[i * sz + j] = cs[i * sz + j] := by
            apply Option.some.inj
            rw [← List.getElem?_eq_getElem, hcat, if_neg (by omega), if_neg (by omega), List.getElem?_eq_getElem hb2]
          simp only [eg]
          rw [ec]
          exact (hcr i j hi2 hj1 hb2).mono (fun _ x => x) hS
theorem hput_same {hp : List (Nat × Blk)} {id : Nat} {b : Blk} : ∀ {hp : List (Nat × Blk)}, look hp id = some b → ∀ k, look (hput hp id b) k = look hp k := fun {hp} h k => by
  rw [look_hput]
  by_cases e : id = k
  · subst e; simp [h]
  · simp [e]
theorem Ok.hputSame (h : Ok w0 L nt ⟨tm, hp⟩ S E a w) {id : Nat} {b : Blk} (hb : look hp id = some b) : Ok w0 L nt ⟨tm, hput hp id b⟩ S E a w := { h with
  hp := fun k c hk => h.hp k c (by simp only at hk; rw [hput_same (hp := hp) hb] at hk; exact hk)
  own := fun k c β hk => h.own k c β (by simp only at hk; rw [hput_same (hp := hp) hb] at hk; exact hk)
  dist := fun k k' c c' β hk hk' => h.dist k k' c c' β (by simp only at hk; rw [hput_same (hp := hp) hb] at hk; exact hk) (by simp only at hk'; rw [hput_same (hp := hp) hb] at hk'; exact hk') }
end
section
variable {ρ α : Type} {X : Cx} {ks : List K} {tm tmMin : List (Nat × T)} {hp : List (Nat × Blk)} {m : Option ρ} {Q : ρ → Exit → St → Prop} {all : Array Oper} {o : Oper} {rest : List Oper}
/-- What slicing rows of the call's own gives. -/
theorem view_run {w0 : World} {L : Lim} {nt : Nat} {S : Nat → Prop} {E : Nat → Value} {a : Act} {w : World} {tm0 : List (Nat × T)} (hk : Ok w0 L nt ⟨tm0, hp⟩ S E a w) {tab : Tab} {P : Program} (htab : TabOk P tab) {t e e' n s0 id sz : Nat} {z0 : List Value} {te : TI} {x : Operand} {lo hi : Option Operand} {l : List α} {i j : Int} {enc : α → List Tree}
    (ho : o.op = .slice t x lo hi none) (hx : val tm0 x = some (.own id)) (hb : look hp id = some (.rows e sz n (l.map enc))) (hty : look tab t = some ⟨s0, .slice e', z0⟩) (hte : look tab e' = some te) (hsz : te.size = sz)
    (hlo : optI tm0 0 lo = some i) (hhi : optI tm0 l.length hi = some j) (hc : chkM i j l.length = some ()) :
    ∃ v, (execOp a.eval o).run P w = .ok (.value v) w ∧ RV w S E v (.vw id i.toNat (j.toNat - i.toNat) sz) := by
  unfold chkM at hc
  split at hc <;> try (cases hc; done)
  rename_i hbd0
  obtain ⟨h0, h1, h2⟩ := hbd0
  obtain ⟨q, dd, hi', hs, hu, hdd, _⟩ := htab t _ hty
  simp only [TD.ok] at hdd
  subst hdd
  have hs' := (htab e' _ hte).run_size w
  have hxv : a.eval x = E id := by
    have hv := hk.val hx
    generalize a.eval x = sv at hv
    cases hv with | own _ _ hE => exact hE.symm
  obtain ⟨hn, hrow⟩ := hk.hp id _ hb
  have hn' : n = l.length := by simpa using hn
  subst hn'
  rcases hrow with ⟨hE, hr0⟩ | ⟨β, cap, cs, hcm, hE, hh, hcl, hcc, hszr, hcr⟩
  · have hl0 : l = [] := by simpa using hr0
    subst hl0
    have hj0 : j = 0 := by simp at h2; omega
    have hi0 : i = 0 := by omega
    subst hj0 hi0
    have hbd := run_bounds (P := P) (w := w) (n := 0) (c := 0) (optI_run hk hlo) (optI_run hk hhi) (Int.le_refl 0) (Int.le_refl 0) (Int.le_refl 0)
    have hbd' : (Instr.sliceBounds true 0 0 (lo.map a.eval) (hi.map a.eval) none).run P w = .ok (0, 0, 0) w := hbd
    refine ⟨.slice none 0 0, ?_, .vw id _ _ sz 0 none (.inl rfl)⟩
    simp only [execOp, ho, Instr.sliceAt, Sem.run_bind, run_underlying hu, Result.andThen_ok, Instr.slice, hxv, hE, Option.map_none, hbd', hs', Sem.run_pure]
    rfl
  · have hcc' : l.length ≤ cap := by simpa using hcc
    have hbd := run_bounds (P := P) (w := w) (n := l.length) (c := cap) (optI_run hk hlo) (optI_run hk hhi) h0 h1 (by omega)
    simp only [List.length_map] at hE
    refine ⟨_, by
      simp only [execOp, ho, Instr.sliceAt, Sem.run_bind, run_underlying hu, Result.andThen_ok, Instr.slice, hxv, hE, Option.map_none, hbd, hs', Sem.run_pure]
      rfl, ?_⟩
    refine .vw id _ _ sz _ _ ?_
    by_cases hz : j.toNat - i.toNat = 0
    · exact .inl hz
    · refine .inr ⟨β, _, cap, hE, ?_⟩
      have hne : ¬ cap = i.toNat := by omega
      simp only [hne, if_false, Option.map_some, addr_add, Nat.zero_add, hsz]
theorem TieO.viewO {t e e' d n s0 id sz : Nat} {z0 : List Value} {te : TI} {x : Operand} {lo hi : Option Operand} {l : List α} {i j : Int} {enc : α → List Tree} {k : Unit → Option ρ}
    (ho : o.op = .slice t x lo hi none) (hd : o.dst = some d) (hdn : Nat.blt d X.nt = true) (hg : guardT all.toList tm o.guard = some true) (hx : val tm x = some (.own id)) (hb : look hp id = some (.rows e sz n (l.map enc)))
    (hty : look X.tab t = some ⟨s0, .slice e', z0⟩) (hte : look X.tab e' = some te) (hsz : te.size = sz) (hlo : optI tm 0 lo = some i) (hhi : optI tm l.length hi = some j)
    (h : ∀ y, chkM i j l.length = some y → TieO X all rest ks ⟨(d, .vw id i.toNat (j.toNat - i.toNat) sz) :: tm, hp⟩ (k y) Q) : TieO X all (o :: rest) ks ⟨tm, hp⟩ ((chkM i j l.length).bind k) Q :=
  TieO.one hd hdn hg (fun _ => .vw id i.toNat (j.toNat - i.toNat) sz) (fun y S E a w hm hk => by
    cases y
    exact view_run hk X.htab ho hx hb hty hte hsz hlo hhi hm) h
/-- What a part of rows of the call's own is as a source. -/
theorem src_vw {w0 : World} {L : Lim} {nt : Nat} {S : Nat → Prop} {E : Nat → Value} {a : Act} {w : World} {tm0 : List (Nat × T)} (hk : Ok w0 L nt ⟨tm0, hp⟩ S E a w) {id e sz n lo q : Nat} {rs : List (List Tree)} {v : Value} (hb : look hp id = some (.rows e sz n rs)) (hv : RV w S E v (.vw id lo q sz)) (hle : lo + q ≤ rs.length)
    (hone : ∀ r ∈ rs, ∀ t ∈ r, oneTree t = true) : Src w S v q sz ((rs.drop lo).take q) := by
  refine ⟨by rw [List.length_take, List.length_drop]; omega, ?_⟩
  cases hv with
  | vw _ _ _ _ c ad h =>
    refine ⟨ad, c, rfl, fun h0 => ?_⟩
    rcases h with h | ⟨β, m, cap, hE, ha⟩
    · omega
    · obtain ⟨hn, hrow⟩ := hk.hp id _ hb
      rcases hrow with ⟨hE', _⟩ | ⟨β', cap', cs, hcm, hE', hh, hcl2, hcc, hsz, hcr⟩
      · rw [hE'] at hE; cases hE
      · rw [hE'] at hE
        have hβ : β' = β := by injection hE with h1; injection h1 with h1; injection h1
        subst hβ
        have hle1 : (lo + q) * sz ≤ cap' * sz := Nat.mul_le_mul_right _ (by omega)
        rw [Nat.add_mul] at hle1
        have hlen : ((cs.drop (lo * sz)).take (q * sz)).length = q * sz := by rw [List.length_take, List.length_drop]; omega
        have cell : ∀ k (hk1 : k < q * sz), ∃ (h1 : lo + k / sz < rs.length) (h2 : k % sz < (rs[lo + k / sz]).length) (h3 : lo * sz + k < cs.length), RT w S (cs[lo * sz + k]) ((rs[lo + k / sz])[k % sz]) := fun k hk1 => by
          have hs0 : 0 < sz := pos_of_mul hk1
          have h1 : k / sz < q := Nat.div_lt_of_lt_mul (by rw [Nat.mul_comm]; exact hk1)
          have h2 : k % sz < (rs[lo + k / sz]'(by omega)).length := by rw [hsz _ (List.getElem_mem _)]; exact Nat.mod_lt _ hs0
          have e1 : (lo + k / sz) * sz + k % sz = lo * sz + k := by have := Nat.div_add_mod k sz; rw [Nat.mul_comm] at this; rw [Nat.add_mul]; omega
          refine ⟨by omega, h2, by omega, ?_⟩
          have := hcr (lo + k / sz) (k % sz) (by omega) h2 (by omega)
          simp only [e1] at this
          exact this
        refine ⟨⟨β', lo * sz, none⟩, (cs.drop (lo * sz)).take (q * sz), ha, hlen, fun j u hu => ?_, fun u hu => ?_, fun i j hi hj hb2 => ?_⟩
        · rw [List.getElem?_take] at hu
          split at hu
          · rw [List.getElem?_drop] at hu
            rw [addr_add, cell_of_row w β' _ _ e _ hh]; simpa using hu
          · cases hu
        · obtain ⟨k, hk1, rfl⟩ := List.mem_iff_getElem.1 hu
          have hk2 : k < q * sz := by rw [hlen] at hk1; exact hk1
          obtain ⟨h1, h2, h3, h4⟩ := cell k hk2
          rw [List.getElem_take, List.getElem_drop]
          exact h4.one (hone _ (List.getElem_mem h1) _ (List.getElem_mem h2))
        · have hi2 : i < q := by rw [List.length_take, List.length_drop] at hi; omega
          have e1 : ((rs.drop lo).take q)[i] = rs[lo + i]'(by omega) := by rw [List.getElem_take, List.getElem_drop]
          have hj1 : j < (rs[lo + i]'(by omega)).length := by rw [← e1]; exact hj
          have e2 : (lo + i) * sz + j = lo * sz + (i * sz + j) := by rw [Nat.add_mul]; omega
          have hlt : lo * sz + (i * sz + j) < cs.length := by rw [hlen] at hb2; omega
          have := hcr (lo + i) j (by omega) hj1 (by rw [e2]; exact hlt)
          simp only [e2] at this
          simp only [e1]
          rw [List.getElem_take, List.getElem_drop]
          exact this
/-- copy within rows of the call's own. -/
theorem TieO.copyV {t t2 e e' n s0 id lo q lo2 q2 : Nat} {z0 : List Value} {te : TI} {s x : Operand} {l : List α} {enc : α → List Tree} {σ₁ : St} {hc hc2 : Prop}
    (h1 : hc) (h2 : hc2) (hle : hc → lo + q ≤ l.length) (hle2 : hc2 → lo2 + q2 ≤ l.length)
    (ho : o.op = .call ⟨.builtin .copy, #[s, x], #[t, t2]⟩) (hg : guardT all.toList tm o.guard = some true)
    (hty : look X.tab t = some ⟨s0, .slice e', z0⟩) (hte : look X.tab e' = some te) (henc : ∀ y, (enc y).length = te.size) (hone : ∀ y, (enc y).all oneTree = true)
    (hs : val tm s = some (.vw id lo q te.size)) (hx : val tm x = some (.vw id lo2 q2 te.size)) (hb : look hp id = some (.rows e te.size n (l.map enc)))
    (hput : putT X.nt o.dst (.t (.v (.int .i64 (min q2 q : Nat)))) ⟨tm, hput hp id (.rows e te.size (copyAt l lo (((l.drop lo2).take q2).take q)).length ((copyAt l lo (((l.drop lo2).take q2).take q)).map enc))⟩ = some σ₁)
    (h : TieO X all rest ks σ₁ m Q) : TieO X all (o :: rest) ks ⟨tm, hp⟩ m Q := fun y hy a w ⟨S, E, hk⟩ => by
  have hle := hle h1
  have hle2 := hle2 h2
  obtain ⟨dd, hu, ho2⟩ : ∃ d, X.P.underlying t = some d ∧ TD.ok X.P (.slice e') d := by
    obtain ⟨i, d, _, _, hu, hdd, _⟩ := X.htab t _ hty
    exact ⟨d, hu, hdd⟩
  simp only [TD.ok] at ho2
  subst ho2
  obtain ⟨i0, d0, hi0, hs0, _⟩ := X.htab e' _ hte
  have hn : n = l.length := by have := (hk.hp id _ hb).1; simpa using this
  subst hn
  have hsrc := src_vw hk hb (hk.val hx) (by simpa using hle2) (all_one hone l)
  obtain ⟨_, ad2, c2, hxe, hsrc⟩ := hsrc
  have hdst := hk.val hs
  have hrl : ((l.drop lo2).take q2).length = q2 := by rw [List.length_take, List.length_drop]; omega
  have e0 : ((l.map enc).drop lo2).take q2 = ((l.drop lo2).take q2).map enc := by simp [List.map_take, List.map_drop]
  have hcl : (copyAt l lo (((l.drop lo2).take q2).take q)).length = l.length := copyAt_length (by rw [List.length_take, hrl]; omega)
  rw [hcl] at hput
  have e1 : (copyAt l lo (((l.drop lo2).take q2).take q)).map enc = copyAt (l.map enc) lo ((((l.drop lo2).take q2).take q).map enc) := by simp [copyAt, List.map_take, List.map_drop]
  rw [e1] at hput
  generalize hse : a.eval s = sv at hdst
  have fin : ∀ w', (Builtin.copy_ #[t, t2] o.type #[sv, .slice ad2 q2 c2]).run X.P w = .ok (.int .i64 (min q2 q : Nat)) w' →
      Ok X.w0 X.L X.nt ⟨tm, Go.Pv.hput hp id (.rows e te.size l.length (copyAt (l.map enc) lo ((((l.drop lo2).take q2).take q).map enc)))⟩ S E a w' → wpList X.P all (after X.P ks (X.post (Q y))) (o :: rest) a w := fun w' hr hok => by
    refine wpList_step fun K hK => ?_
    rw [guardT_ok hk hg, if_pos rfl]
    unfold Oper.wp
    have hexec : (execOp a.eval o).run X.P w = .ok (.value (.int .i64 (min q2 q : Nat))) w' := by
      unfold execOp
      simp only [ho, resolve, invoke, builtin, Sem.run_bind, Sem.run_pure, Result.andThen_ok, List.map_toArray, List.map_cons, List.map_nil, hse, hxe, hr]
    rw [hexec]
    exact hK _ _ (h y hy _ _ ⟨S, E, putT_ok hok (.t (.v _)) hput⟩)
  cases hdst with
  | vw _ _ _ _ c ad hvw =>
    have hmin : Nat.min q2 q = min q2 q := rfl
    by_cases hz : min q2 q = 0
    · -- nothing to copy
      have hf : (Builtin.firstCells i0.size 0 (.slice ad2 q2 c2)).run X.P w = .ok #[] w := by cases ad2 <;> simp [Builtin.firstCells, loadCells, loadCellsFrom]
      have hnil : ((l.drop lo2).take q2).take q = [] := List.eq_nil_of_length_eq_zero (by rw [List.length_take, hrl, Nat.min_comm]; exact hz)
      refine fin w ?_ ?_
      · cases ad <;> simp [Builtin.copy_, run_underlying hu, Builtin.lenOf, sizeOf, typeInfo, hi0, hf, goInt, hmin, hz, storeCells]
      · rw [hnil]
        have : copyAt (l.map enc) lo (List.map enc []) = l.map enc := by simp [copyAt]
        rw [this]
        exact hk.hputSame hb
    · have hq0 : 0 < q2 := by omega
      obtain ⟨ad2', all2, rfl, hal, hac, hon, har⟩ := hsrc hq0
      rcases hvw with hvw | ⟨β, m', cap, hE, rfl⟩
      · omega
      · have hle3 : min q2 q * te.size ≤ q2 * te.size := Nat.mul_le_mul_right _ (Nat.min_le_left _ _)
        have hload : (Builtin.firstCells i0.size (min q2 q) (.slice (some ad2') q2 c2)).run X.P w = .ok (all2.take (min q2 q * te.size)).toArray w := by
          have := run_loadCells_list (P := X.P) w ad2' (all2.take (min q2 q * te.size)) (fun j u hu => by
            rw [List.getElem?_take] at hu
            split at hu
            · exact hac j u hu
            · cases hu)
          rw [List.length_take, hal, Nat.min_eq_left hle3] at this
          simp [Builtin.firstCells, hs0, this]
        have hr2l : ((((l.drop lo2).take q2).take q).map enc).length = min q2 q := by rw [List.length_map, List.length_take, hrl, Nat.min_comm]
        obtain ⟨w', hst, hok⟩ := hk.putAt (P := X.P) (lo := lo) (r2 := (((l.drop lo2).take q2).take q).map enc) (news := all2.take (min q2 q * te.size)) hb hE (by rw [hr2l]; simp; omega) (by rw [List.length_take, hal, hr2l]; exact Nat.min_eq_left hle3) (fun u hu => hon u (List.mem_of_mem_take hu))
          (fun r hr => by obtain ⟨z, _, rfl⟩ := List.mem_map.1 hr; exact henc z)
          (fun i j hi hj hbb => by
            rw [hr2l] at hi
            have hi2 : i < (((l.map enc).drop lo2).take q2).length := by rw [e0, List.length_map, hrl]; omega
            have eg : ((((l.drop lo2).take q2).take q).map enc)[i]'(by rw [hr2l]; exact hi) = (((l.map enc).drop lo2).take q2)[i] := by
              simp [List.getElem_take, List.getElem_drop]
            have hj2 : j < ((((l.map enc).drop lo2).take q2)[i]).length := by rw [← eg]; exact hj
            have hb3 : i * te.size + j < all2.length := by rw [List.length_take] at hbb; omega
            have := har i j hi2 hj2 hb3
            simp only [eg]
            rw [List.getElem_take]
            exact this)
        refine fin w' ?_ hok
        simp [Builtin.copy_, run_underlying hu, Builtin.lenOf, sizeOf, typeInfo, hi0, hmin, hload, goInt, hst]
theorem TieO.clearV {t e e' n s0 id lo q : Nat} {z0 : List Value} {te : TI} {x : Operand} {l : List α} {enc : α → List Tree} {σ₁ : St} {hc : Prop} (z : α)
    (h1 : hc) (hle : hc → lo + q ≤ l.length)
    (ho : o.op = .call ⟨.builtin .clear, #[x], #[t]⟩) (hg : guardT all.toList tm o.guard = some true)
    (hty : look X.tab t = some ⟨s0, .slice e', z0⟩) (hte : look X.tab e' = some te) (hz : te.zero.length = te.size) (hpos : Nat.blt 0 te.size = true) (hones : te.zero.all Value.oneCell' = true) (henc : enc z = te.zero.map fun v => nilTree (.v v))
    (hx : val tm x = some (.vw id lo q te.size)) (hb : look hp id = some (.rows e te.size n (l.map enc)))
    (hput : putT X.nt o.dst (.tup []) ⟨tm, hput hp id (.rows e te.size (copyAt l lo (List.replicate q z)).length ((copyAt l lo (List.replicate q z)).map enc))⟩ = some σ₁)
    (h : TieO X all rest ks σ₁ m Q) : TieO X all (o :: rest) ks ⟨tm, hp⟩ m Q := fun y hy a w ⟨S, E, hk⟩ => by
  have hle := hle h1
  obtain ⟨dd, hu, ho2⟩ : ∃ d, X.P.underlying t = some d ∧ TD.ok X.P (.slice e') d := by
    obtain ⟨i, d, _, _, hu, hdd, _⟩ := X.htab t _ hty
    exact ⟨d, hu, hdd⟩
  simp only [TD.ok] at ho2
  subst ho2
  have hn : n = l.length := by have := (hk.hp id _ hb).1; simpa using this
  subst hn
  have hdst := hk.val hx
  have hcl : (copyAt l lo (List.replicate q z)).length = l.length := copyAt_length (by rw [List.length_replicate]; exact hle)
  rw [hcl] at hput
  have e1 : (copyAt l lo (List.replicate q z)).map enc = copyAt (l.map enc) lo ((List.replicate q z).map enc) := by simp [copyAt, List.map_take, List.map_drop]
  rw [e1] at hput
  generalize hse : a.eval x = sv at hdst
  have fin : ∀ w', (Builtin.clear_ #[t] o.type #[sv]).run X.P w = .ok (.tuple #[]) w' →
      Ok X.w0 X.L X.nt ⟨tm, Go.Pv.hput hp id (.rows e te.size l.length (copyAt (l.map enc) lo ((List.replicate q z).map enc)))⟩ S E a w' → wpList X.P all (after X.P ks (X.post (Q y))) (o :: rest) a w := fun w' hr hok => by
    refine wpList_step fun K hK => ?_
    rw [guardT_ok hk hg, if_pos rfl]
    unfold Oper.wp
    have hexec : (execOp a.eval o).run X.P w = .ok (.value (.tuple #[])) w' := by
      unfold execOp
      simp only [ho, resolve, invoke, builtin, Sem.run_bind, Sem.run_pure, Result.andThen_ok, List.map_toArray, List.map_cons, List.map_nil, hse, hr]
    rw [hexec]
    exact hK _ _ (h y hy _ _ ⟨S, E, putT_ok hok (.tup [] [] rfl fun j h1 => by simp at h1) hput⟩)
  cases hdst with
  | vw _ _ _ _ c ad hvw =>
    by_cases hq : q = 0
    · subst hq
      refine fin w ?_ ?_
      · cases ad <;> simp [Builtin.clear_, run_underlying hu]
      · have : copyAt (l.map enc) lo (List.map enc (List.replicate 0 z)) = l.map enc := by simp [copyAt]
        rw [this]
        exact hk.hputSame hb
    · rcases hvw with hvw | ⟨β, m', cap, hE, rfl⟩
      · exact absurd hvw hq
      · obtain ⟨zv, hzr, hzc⟩ := (X.htab e' _ hte).run_zero w
        have hzl : zv.cells.size = te.size := by rw [← hz, ← hzc]; simp
        have hnews : (Builtin.zeroCells zv.cells q).toList = zeros q te.zero := by
          unfold Builtin.zeroCells
          rw [zeros_eq q zv.cells (by rw [hzl]; exact Nat.lt_of_lt_of_le Nat.zero_lt_one (Nat.le_of_ble_eq_true hpos)), hzc]
        have hlen : (zeros q te.zero).length = q * te.size := by rw [zeros_length, hz]
        have hp0 : 0 < te.zero.length := by rw [hz]; exact Nat.le_of_ble_eq_true hpos
        obtain ⟨w', hst, hok⟩ := hk.putAt (P := X.P) (lo := lo) (r2 := (List.replicate q z).map enc) (news := zeros q te.zero) hb hE (by simp; omega) (by rw [hlen]; simp)
          (fun u hu => by
            obtain ⟨k, hk1, rfl⟩ := List.mem_iff_getElem.1 hu
            have hk2 : k < q * te.zero.length := by rw [zeros_length] at hk1; exact hk1
            have hg := zeros_get te.zero hp0 q k hk2
            rw [List.getElem?_eq_getElem hk1] at hg
            have := List.mem_of_getElem? hg.symm
            exact List.all_eq_true.1 hones _ this)
          (fun r hr => by
            obtain ⟨y, hy, rfl⟩ := List.mem_map.1 hr
            rw [List.eq_of_mem_replicate hy, henc, List.length_map, hz])
          (fun i j hi hj hbb => by
            have hi2 : i < q := by simpa using hi
            have eg : ((List.replicate q z).map enc)[i] = te.zero.map fun v => nilTree (.v v) := by simp [henc]
            have hj2 : j < te.size := by rw [eg, List.length_map, hz] at hj; exact hj
            have hk2 : i * te.size + j < q * te.zero.length := by rw [hz]; rw [hlen] at hbb; exact hbb
            have hg := zeros_get te.zero hp0 q (i * te.size + j) hk2
            rw [List.getElem?_eq_getElem hbb] at hg
            have hmod : (i * te.size + j) % te.zero.length = j := by rw [hz, Nat.mul_comm, Nat.mul_add_mod, Nat.mod_eq_of_lt hj2]
            rw [hmod, List.getElem?_eq_getElem (by rw [hz]; exact hj2)] at hg
            have e2 := Option.some.inj hg
            simp only [eg]
            rw [e2, List.getElem_map]
            exact nilTree_ok (.v _))
        refine fin w' ?_ hok
        obtain ⟨q', rfl⟩ : ∃ k, q = k + 1 := ⟨q - 1, by omega⟩
        simp only [Builtin.clear_, run_underlying hu, Sem.run_bind, Result.andThen_ok, List.getElem?_toArray, List.getElem?_cons_zero, hzr, hnews, hst, Sem.run_pure]
end
section
variable {X : Cx} {ops : Array Oper} {fe fuel : Nat} {le l l' : List Bool} {σ' : St} {o : Oper}
theorem TieA.nilP {d id off : Nat} {x : Operand} {tm : List (Nat × T)} {hp : List (Nat × Blk)} (i : Nat) (l' : List Bool) (ho : ops[i]? = some o) (hl : l.set i true = l') (hop : o.op = .nilCheck x) (hd : o.dst = some d) (hdn : Nat.blt d X.nt = true) (hg : o.guard = none)
    (hs : Region.noSelect ops = true) (hf : Region.free .any ops l.toArray i = true) (hr : (Region.ready .any ops l.toArray).contains i = true) (hx : val tm x = some (.ptr id off)) (h : TieA X ops fe le fuel l' ⟨(d, .ptr id off) :: tm, hp⟩ σ') :
    TieA X ops fe le (fuel + 1) l ⟨tm, hp⟩ σ' := TieA.take1 i l' ho hl hd hdn hg hs hf hr (fun S E a w hk => by
  obtain ⟨β, hpv, hE⟩ := (hk.val hx).ptr_inv
  exact ⟨_, fun w' => by simp [execOp, hop, hpv], .ptr id _ β hE⟩) h
end
section
variable {ρ : Type} {X : Cx} {ks : List K} {σ : St} {m : Option ρ} {Q : ρ → Exit → St → Prop}
theorem after_goto {P : Program} {Q : Exit → Act → World → Prop} {l : Nat} {a : Act} {w : World} : ∀ (ks : List K), after P ks Q (.goto l) a w → Q (.goto l) a w
  | [], h => h
  | .c _ :: ks, h => after_goto ks h
  | .e _ :: ks, h => after_goto ks h
/-- A scope whose labels nobody goes to. -/
theorem TieS.scope {x : Code} (hQ : ∀ r l σ, ¬ Q r (.goto l) σ) (h : TieS X (.c x :: ks) σ m Q) : TieS X (.c (.scope x) :: ks) σ m Q := fun r hr a w hw => by
  refine wp_scope_straight (wp_mono (h r hr a w hw) ?_)
  intro e a w he
  cases e with
  | goto l => obtain ⟨σ, _, hq⟩ := after_goto ks he; exact hQ r l σ hq
  | _ => exact he
theorem TieS.label {l : Nat} (h : TieS X ks σ m Q) : TieS X (.c (.label l) :: ks) σ m Q := fun r hr a w hw => wp_label (h r hr a w hw)
end
end Go.Pv
namespace Go.Pv
open Go.RowKit
/-- The bits of a number, lowest first. -/
def bm : Nat → Nat → List Bool
  | 0, _ => []
  | n + 1, k => Nat.beq (k % 2) 1 :: bm n (k / 2)
/-- Rows that hold the trees of a list. -/
abbrev Blk.rs {α : Type} (e sz : Nat) (l : List α) (enc : α → List Tree) : Blk := .rows e sz l.length (l.map enc)
section
variable {X : Cx} {ops : Array Oper} {fe fuel : Nat} {le l : List Bool} {σ σ₁ σ₂ σ' : St} {o : Oper}
theorem AllA.consE {i : Nat} {rs : List Nat} (l' : List Bool) (ho : ops[i]? = some o) (hl : l.set i true = l') (h₁ : TieO X ops [o] [] σ (some ()) (fun _ e σ'' => e = .normal ∧ σ'' = σ₁)) (h₂ : TieA X ops fe le fuel l' σ₁ σ') (h₃ : AllA X ops fe le fuel l σ σ' rs) : AllA X ops fe le fuel l σ σ' (i :: rs) := fun j hj Q hp hQ a w hw => by
  rcases List.mem_cons.1 hj with rfl | hj
  · have h := h₁ () rfl a w hw
    unfold wpOp
    simp only [ho]
    have next : ∀ a w, wpList X.P ops (after X.P [] (X.post fun e σ'' => e = .normal ∧ σ'' = σ₁)) [] a w → wpAny X.P .any ops Q fuel (l.toArray.setIfInBounds j true) a w := fun a w ⟨σ'', hs, _, e⟩ => by
      rw [List.setIfInBounds_toArray, hl]
      subst e; exact h₂ Q hp hQ a w hs
    unfold wpList at h
    split at h
    · rename_i hg
      rw [if_pos hg]
      rcases h with h | ⟨h1, h2⟩
      · refine .inl ?_
        revert h
        unfold Oper.wp
        generalize (execOp a.eval o).run X.P w = r
        intro h
        cases r with
        | ok n w' =>
          cases n <;> simp only [Oper.upon] at h ⊢
          all_goals first
            | exact next _ _ h
            | exact Calls.mono h (fun e w'' he => by cases e <;> first | exact next _ _ he | (obtain ⟨_, _, _, _, he, _⟩ := he; cases he) | (obtain ⟨_, _, he, _⟩ := he; cases he))
            | exact Rows.mono h (fun _ _ he => next _ _ he)
            | (obtain ⟨_, _, he, _⟩ := h; cases he)
            | exact h
        | halt x w' => cases x <;> simp only [Oper.upon] at h ⊢ <;> first | exact h | (obtain ⟨_, _, he, _⟩ := h; cases he)
      · obtain ⟨_, _, _, _, he, _⟩ := h2; cases he
    · rename_i hg
      rw [if_neg hg]
      exact next _ _ h
  · exact h₃ j hj Q hp hQ a w hw
theorem AllA.run {i : Nat} {rs : List Nat} (l' : List Bool) (ho : ops[i]? = some o) (hl : l.set i true = l') (he : runOps X.tab X.nt ops.toList 1 [o] σ = ([], σ₁)) (h₂ : TieA X ops fe le fuel l' σ₁ σ') (h₃ : AllA X ops fe le fuel l σ σ' rs) : AllA X ops fe le fuel l σ σ' (i :: rs) :=
  AllA.consE l' ho hl (TieO.run 1 he (.nil (.leaf ⟨rfl, rfl⟩))) h₂ h₃
/-- An operation that may be taken at once. -/
def okA (nt : Nat) (ops : Array Oper) (l : List Bool) (i d : Nat) (o : Oper) : Bool := Nat.blt d nt && o.guard.isNone && Region.noSelect ops && Region.free .any ops l.toArray i && (Region.ready .any ops l.toArray).contains i
theorem okA_of {nt i d : Nat} (h : okA nt ops l i d o = true) : Nat.blt d nt = true ∧ o.guard = none ∧ Region.noSelect ops = true ∧ Region.free .any ops l.toArray i = true ∧ (Region.ready .any ops l.toArray).contains i = true := by
  unfold okA at h
  simp only [Bool.and_eq_true, Option.isNone_iff_eq_none] at h
  exact ⟨h.1.1.1.1, h.1.1.1.2, h.1.1.2, h.1.2, h.2⟩
end
end Go.Pv

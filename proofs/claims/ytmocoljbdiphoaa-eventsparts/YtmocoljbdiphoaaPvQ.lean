/- The value machine, part Q: what the arguments of a row hold, as trees; and from a contract to a row. -/
import Derived.Test.YtmocoljbdiphoaaPvP
import Derived.ProofKit
import Derived.OpenShut
import Derived.WalkKit
import Derived.Below
import Derived.Carry
namespace Go.Pv
open Go.RowKit Go.WideShapes Go.ChangeShapes

def RTL (w : World) (S : Nat → Prop) (cs : List Value) (ts : List Tree) : Prop := cs.length = ts.length ∧ ∀ j (h1 : j < cs.length) (h2 : j < ts.length), RT w S (cs[j]) (ts[j])

def old (w : World) : Nat → Prop := fun b => b < w.heap.size

/-- Whatever the machine reads as a datum of type t is a value of the Lean type α that meets wf. -/
def Reads (P : Program) (t : Nat) {α : Type} (enc : α → List Tree) (wf : α → Prop) : Prop :=
  ∀ (H : Type) (e : TypeId × Value → H) (w : World) (fuel : Nat) (cs : List Value) (x : DataW H × List MemPlace), DataW.trod e P w 0 (fun _ => true) true fuel t cs = some x →
    ∃ y : α, wf y ∧ RTL w (old w) cs (enc y)

section
variable {P : Program} {t : Nat}

theorem RTL.one {w : World} {S : Nat → Prop} {v : Value} {y : Tree} (h : RT w S v y) : RTL w S [v] [y] :=
  ⟨rfl, fun j h1 h2 => by have : j = 0 := (by simp at h1; omega); subst this; exact h⟩

theorem reads_int {k : IntKind} {enc : Int → List Tree} (ht : P.underlying t = some (.int k)) (henc : ∀ n, enc n = [.v (.int k n)]) : Reads P t enc (fun n => (Lit.int k n).wf = true) := by
  intro H e w fuel cs x h
  obtain ⟨n, rfl, _, hw⟩ := DataW.trod_int ht h
  exact ⟨n, hw, by rw [henc]; exact .one (.v _)⟩

theorem reads_bool {enc : Bool → List Tree} (ht : P.underlying t = some .bool) (henc : ∀ n, enc n = [.v (.bool n)]) : Reads P t enc (fun _ => True) := by
  intro H e w fuel cs x h
  obtain ⟨n, rfl, _⟩ := DataW.trod_bool ht h
  exact ⟨n, trivial, by rw [henc]; exact .one (.v _)⟩

def wfL {α : Type} (wf : α → Prop) (l : List α) : Prop := l.length ≤ 9223372036854775807 ∧ ∀ y ∈ l, wf y

theorem reads_slice {el : Nat} {α : Type} {enc : α → List Tree} {wf : α → Prop} {sz : Nat} (ht : P.underlying t = some (.slice el)) (hr : Reads P el enc wf) (hsz : P.cellsOf el = sz) (hpos : 0 < sz) (henc : ∀ y, (enc y).length = sz) :
    Reads P t (encS enc) (wfL wf) := by
  intro H e w fuel cs x h
  rcases DataW.trod_slice ht h with ⟨rfl, _⟩ | ⟨a, len, cap, elems, rest, n, _, rfl, _, _, hl, hm, hlen, hel, _, _⟩
  · exact ⟨[], ⟨by simp, by simp⟩, .one (.slE _ _)⟩
  · rw [hsz] at hel
    have each : ∀ i, i < len → ∃ (y : α) (cs : List Value), wf y ∧ RTL w (old w) cs (enc y) ∧ ∀ j, j < sz → w.cell? ((a.add (i * sz)).add j) = cs[j]? := by
      intro i hi
      have h1 := hel i hi
      rw [List.getElem?_eq_getElem (by omega), Option.bind_eq_some_iff] at h1
      obtain ⟨cs', hcs, hy⟩ := h1
      obtain ⟨y, hw, hrt⟩ := hr H e w n cs' _ hy
      exact ⟨y, cs', hw, hrt, (World.cells?_some hcs).2.2⟩
    by_cases h0 : len = 0
    · subst h0
      exact ⟨[], ⟨by simp, by simp⟩, .one (.slE _ _)⟩
    · let f : Nat → α := fun i => if h : i < len then (each i h).choose else (each 0 (by omega)).choose
      let l := (List.range len).map f
      have hf : ∀ i, i < len → wf (f i) ∧ ∃ cs : List Value, RTL w (old w) cs (enc (f i)) ∧ ∀ j, j < sz → w.cell? ((a.add (i * sz)).add j) = cs[j]? := by
        intro i hi
        have hfi : f i = (each i hi).choose := by simp [f, hi]
        rw [hfi]
        obtain ⟨cs, h1, h2, h3⟩ := (each i hi).choose_spec
        exact ⟨h1, cs, h2, h3⟩
      have hll : l.length = len := by simp [l]
      have hspot : a.spot = none := by
        obtain ⟨_, cs, h2, h3⟩ := hf 0 (by omega)
        have h4 := h3 0 hpos
        have hcl : 0 < cs.length := by rw [h2.1, henc]; exact hpos
        rw [List.getElem?_eq_getElem hcl] at h4
        have ea : (a.add (0 * sz)).add 0 = a := by simp [Addr.add]
        rw [ea] at h4
        unfold World.cell? at h4
        split at h4
        · split at h4
          · cases h4
          · rename_i hs; simpa using hs
        · cases h4
      obtain ⟨b, o, sp⟩ := a
      simp only at hspot
      subst hspot
      have hcell : ∀ i j, i < len → j < sz → ∃ v, w.cell? ⟨b, o + i * sz + j, none⟩ = some v ∧ ∀ (hj : j < (enc (f i)).length), RT w (old w) v ((enc (f i))[j]) := by
        intro i j hi hj
        obtain ⟨_, cs, h2, h3⟩ := hf i hi
        have hcl : j < cs.length := by rw [h2.1, henc]; exact hj
        have h4 := h3 j hj
        rw [addr_add, addr_add, List.getElem?_eq_getElem hcl] at h4
        exact ⟨_, h4, fun hj' => h2.2 j hcl hj'⟩
      let vs : Nat → Nat → Value := fun i j => (w.cell? ⟨b, o + i * sz + j, none⟩).getD undef
      refine ⟨l, ⟨by rw [hll]; unfold maxLen at hm; omega, fun y hy => ?_⟩, .one ?_⟩
      · obtain ⟨i, hi, rfl⟩ := List.mem_map.1 hy
        exact (hf i (List.mem_range.1 hi)).1
      · have hb : old w b := by
          obtain ⟨v, hv, _⟩ := hcell 0 0 (by omega) hpos
          have := World.block_lt_of_cell? w _ hv
          simpa [old] using this
        have hml : (l.map enc).length = len := by simp [hll]
        have key := RT.sl (w := w) (S := old w) b o cap sz (l.map enc) vs (by rw [hml]; exact hl) hb (fun r hr => by obtain ⟨y, _, rfl⟩ := List.mem_map.1 hr; exact henc y)
          (fun i j hi hj => by
            rw [hml] at hi
            obtain ⟨v, hv, _⟩ := hcell i j hi hj
            simp [vs, hv])
          (fun i j hi hj => by
            rw [hml] at hi
            have e1 : (l.map enc)[i]'(by rw [hml]; exact hi) = enc (f i) := by simp [l]
            have hj' : j < sz := by rw [e1, henc] at hj; exact hj
            obtain ⟨v, hv, hrt⟩ := hcell i j hi hj'
            have e2 : vs i j = v := by simp [vs, hv]
            rw [e2]
            have := hrt (by rw [henc]; exact hj')
            simpa only [e1] using this)
        rw [hml] at key
        have e3 : tS enc l = .sl len (l.map enc) := by simp [tS, hll]
        rw [e3]
        exact key

theorem rtl_nil {w : World} {S : Nat → Prop} {cs : List Value} {o : Nat} (h : cs.length = o) : RTL w S (cs.drop o) [] := by
  rw [List.drop_eq_nil_of_le (by omega)]
  exact ⟨rfl, fun j h1 => by simp at h1⟩

theorem rtl_cons {w : World} {S : Nat → Prop} {cs : List Value} {o o' n : Nat} {ts rest : List Tree} (h : RTL w S ((cs.drop o).take n) ts) (ho : o' = o + n) (k : RTL w S (cs.drop o') rest) : RTL w S (cs.drop o) (ts ++ rest) := by
  subst ho
  have e : cs.drop o = (cs.drop o).take n ++ cs.drop (o + n) := by rw [← List.drop_drop, List.take_append_drop]
  rw [e]
  refine ⟨by simp only [List.length_append, h.1, k.1], fun j h1 h2 => ?_⟩
  by_cases hj : j < ts.length
  · rw [List.getElem_append_left (by rw [h.1]; exact hj), List.getElem_append_left hj]
    exact h.2 j (by rw [h.1]; exact hj) hj
  · have hj' : ¬ j < ((cs.drop o).take n).length := by rw [h.1]; exact hj
    rw [List.getElem_append_right (by omega), List.getElem_append_right (by omega)]
    simp only [h.1]
    exact k.2 (j - ts.length) (by simp only [List.length_append] at h1; have := h.1; omega) (by simp only [List.length_append] at h2; omega)

/-- One field. -/
theorem field_of {H : Type} {e : TypeId × Value → H} {w : World} {n : Nat} {cs : List Value} {xs : List (DataW H × List MemPlace)} {fs : Array Field} (hlen : xs.length = fs.size)
    (hf : ∀ (i : Nat) (f : Field), fs[i]? = some f → DataW.trod e P w 0 (fun _ => true) true n f.type ((cs.drop f.offset).take (P.cellsOf f.type)) = xs[i]?) (i : Nat) {f : Field} (hi : fs[i]? = some f)
    {α : Type} {enc : α → List Tree} {wf : α → Prop} (hr : Reads P f.type enc wf) : ∃ y : α, wf y ∧ RTL w (old w) ((cs.drop f.offset).take (P.cellsOf f.type)) (enc y) := by
  have hlt : i < xs.length := by rw [hlen]; exact (Array.getElem?_eq_some_iff.1 hi).1
  have := hf i f hi
  rw [List.getElem?_eq_getElem hlt] at this
  exact hr H e w n _ _ this

theorem elem_of {H : Type} {e : TypeId × Value → H} {w : World} {m n el : Nat} {cs : List Value} {xs : List (DataW H × List MemPlace)} (hlen : xs.length = n)
    (hf : ∀ (i : Nat), i < n → DataW.trod e P w 0 (fun _ => true) true m el ((cs.drop (i * P.cellsOf el)).take (P.cellsOf el)) = xs[i]?) (i : Nat) (hi : i < n)
    {α : Type} {enc : α → List Tree} {wf : α → Prop} (hr : Reads P el enc wf) : ∃ y : α, wf y ∧ RTL w (old w) ((cs.drop (i * P.cellsOf el)).take (P.cellsOf el)) (enc y) := by
  have := hf i hi
  rw [List.getElem?_eq_getElem (by omega)] at this
  exact hr H e w m _ _ this

/-- An argument, as a slot's content. -/
def ArgOk (P : Program) (t : Nat) {α : Type} (A : α → T) (wf : α → Prop) : Prop :=
  ∀ (H : Type) (e : TypeId × Value → H) (w : World) (base : Nat) (v : Value) (d : DataW H) (p : List MemPlace), Value.okWide P w .any base t v → DataW.Trod e P w 0 (fun _ => true) true t v d p →
    ∃ y : α, wf y ∧ ∀ E, RV w (old w) E v (A y)

theorem arg_one {α : Type} {enc : α → List Tree} {wf : α → Prop} {A : α → T} {tr : α → Tree} (hr : Reads P t enc wf) (hc : ∀ w base v, Value.okWide P w .any base t v → v.cells.toList = [v]) (henc : ∀ y, enc y = [tr y]) (hA : ∀ y, A y = .t (tr y)) : ArgOk P t A wf := by
  intro H e w base v d p hv ⟨fuel, h⟩
  rw [hc w base v hv] at h
  obtain ⟨y, hw, hl, hrt⟩ := hr H e w fuel _ _ h
  refine ⟨y, hw, fun E => ?_⟩
  rw [hA]
  have := hrt 0 (by simp) (by rw [henc]; simp)
  simp only [henc, List.getElem_cons_zero] at this
  exact .t this

theorem arg_int {k : IntKind} {enc : Int → List Tree} {A : Int → T} (ht : P.underlying t = some (.int k)) (hr : Reads P t enc (fun n => (Lit.int k n).wf = true)) (henc : ∀ y, enc y = [.v (.int k y)]) (hA : ∀ y, A y = .t (.v (.int k y))) :
    ArgOk P t A (fun n => (Lit.int k n).wf = true) := arg_one hr (fun w base v hv => by obtain ⟨n, rfl⟩ := okWide_int ht hv; rfl) henc hA

theorem arg_bool {enc : Bool → List Tree} {A : Bool → T} (ht : P.underlying t = some .bool) (hr : Reads P t enc (fun _ => True)) (henc : ∀ y, enc y = [.v (.bool y)]) (hA : ∀ y, A y = .t (.v (.bool y))) :
    ArgOk P t A (fun _ => True) := arg_one hr (fun w base v hv => by obtain ⟨n, rfl⟩ := okWide_bool ht hv; rfl) henc hA

theorem arg_slice {el : Nat} {α : Type} {enc : α → List Tree} {wf : α → Prop} {A : List α → T} (ht : P.underlying t = some (.slice el)) (hr : Reads P t (encS enc) (wfL wf)) (hA : ∀ y, A y = .t (tS enc y)) :
    ArgOk P t A (wfL wf) := arg_one hr (fun w base v hv => by obtain ⟨a, n, c, rfl⟩ := okWide_slice ht hv; rfl) (fun _ => rfl) hA

theorem arg_struct {fs : Array Field} {α : Type} {enc : α → List Tree} {wf : α → Prop} {A : α → T} (ht : P.underlying t = some (.struct fs)) (hr : Reads P t enc wf) (hA : ∀ y, A y = .agg ((enc y).map .t)) : ArgOk P t A wf := by
  intro H e w base v d p hv ⟨fuel, h⟩
  obtain ⟨cs, rfl, _⟩ := okWide_struct ht hv
  obtain ⟨y, hw, hl, hrt⟩ := hr H e w fuel _ _ h
  refine ⟨y, hw, fun E => ?_⟩
  rw [hA]
  have := RV.agg (w := w) (S := old w) (E := E) cs.toList ((enc y).map .t) (by simpa [Value.cells] using hl) (fun j h1 h2 => by
    simp only [List.getElem_map]
    exact .t (hrt j h1 (by simpa using h2)))
  simpa using this

/-- From a contract: a call that returns true and leaves alone what was there. -/
theorem TieF.calls {n : Nat} {args : List T} {m : Option Bool} (h : TieF P n args m (fun r => .t (.v (.bool r)))) (hm : m = some true) {w : World} {vs : List Value} (hv : RVL w (old w) (fun _ => undef) vs args) :
    Calls P n vs.toArray w fun e w' => e = .returned (.bool true) ∧ Below w.heap.size w w' :=
  (h.2 true hm w (old w) _ vs (fun _ hb => hb) hv).mono fun e w' ⟨v, S', he, hv, hk, _, _⟩ => by
    have := hv.tv
    subst this
    exact ⟨he, hk.os, hk.tape, hk.output, hk.size, fun k hk' => hk.block k hk' (fun x => x)⟩

theorem rvl_nil {w : World} {S : Nat → Prop} {E : Nat → Value} : RVL w S E [] [] := ⟨rfl, fun j h => by simp at h⟩
theorem rvl_cons {w : World} {S : Nat → Prop} {E : Nat → Value} {v : Value} {t : T} {vs : List Value} {l : List T} (h : RV w S E v t) (k : RVL w S E vs l) : RVL w S E (v :: vs) (t :: l) := by
  refine ⟨by simp [k.1], fun j a b => ?_⟩
  cases j with
  | zero => exact h
  | succ j => exact k.2 j (by simpa using a) (by simpa using b)
end
end Go.Pv

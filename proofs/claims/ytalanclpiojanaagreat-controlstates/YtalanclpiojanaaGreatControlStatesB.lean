/- This file joins: The value machine, part Q: what the arguments of a row hold, as trees; and from a contract to a row. The value machine, part R: equality of structs; loops over lists and numbers as recursions. The value machine, part S: more loops as recursions; searching. Plain Lean. The value machine, part T: what an append to a row of the call's own does to the machine. The value machine, part U: a row of the call's own under a new value: appends. The value machine, part V: append, as a rule. The value machine, part W: the rule of append. The value machine, part Y: append under a name; a nil that becomes a row of the call's own. The value machine, part Z: elements of the call's own rows, read and written. The value machine, part Za: rules for elements of the call's own rows. The value machine, part X: names turned into others; blocks that somebody owns; contracts of functions that are lent blocks and hand back new ones. The value machine, part Xa: calls that are lent blocks and hand back new ones; states under other names. The value machine, part Xb: such contracts from bodies; nil slices that become rows of the call's own; boxes that stay as they are. The value machine, part Xc: rows that are made, copied, cut. The value machine, part Xd: elements of the call's own rows, read and written under names. The value machine, part Xe: names and nil slices in the midst of operations; what is known ahead; regions that draw their order and change rows on the way. Part Xi: what library functions compute, plain. -/
import Derived.Test.YtalanclpiojanaaGreatControlStatesA
import Derived.ProofKit
import Derived.OpenShut
import Derived.WalkKit
import Derived.Below
import Derived.Carry
import Derived.Laws.StructEq
import Derived.Laws.MakeOwn
import Derived.Orders
import Derived.Lib.BitFns
set_option linter.unusedSimpArgs false
set_option linter.unusedVariables false
namespace Go.Pv
open Go.RowKit Go.WideShapes Go.ChangeShapes

def RTL (w : World) (S : Nat → Prop) (cs : List Value) (ts : List Tree) : Prop := cs.length = ts.length ∧ ∀ j (h1 : j < cs.length) (h2 : j < ts.length), RT w S (cs[j]) (ts[j])

def old (w : World) : Nat → Prop := fun b => b < w.heap.size

/-- Whatever the machine reads as a datum of type t is a value of the Lean type α that meets wf. -/
def Reads (P : Program) (t : Nat) {α : Type} (enc : α → List Tree) (wf : α → Prop) : Prop :=
  ∀ (H : Type) (e : TypeId × Value → H) (w : World) (fuel : Nat) (cs : List Value) (x : DataW H × List MemPlace), DataW.trod e P w 0 (fun _ => true) true fuel t cs = some x →
    ∃ y : α, wf y ∧ RTL w (old w) cs (enc y)

section
variable {P : Program} {t : Nat}

theorem RTL.one {w : World} {S : Nat → Prop} {v : Value} {y : Tree} (h : RT w S v y) : RTL w S [v] [y] :=
  ⟨rfl, fun j h1 h2 => by have : j = 0 := (by simp at h1; omega); subst this; exact h⟩

theorem reads_int {k : IntKind} {enc : Int → List Tree} (ht : P.underlying t = some (.int k)) (henc : ∀ n, enc n = [.v (.int k n)]) : Reads P t enc (fun n => (Lit.int k n).wf = true) := by
  intro H e w fuel cs x h
  obtain ⟨n, rfl, _, hw⟩ := DataW.trod_int ht h
  exact ⟨n, hw, by rw [henc]; exact .one (.v _)⟩

theorem reads_bool {enc : Bool → List Tree} (ht : P.underlying t = some .bool) (henc : ∀ n, enc n = [.v (.bool n)]) : Reads P t enc (fun _ => True) := by
  intro H e w fuel cs x h
  obtain ⟨n, rfl, _⟩ := DataW.trod_bool ht h
  exact ⟨n, trivial, by rw [henc]; exact .one (.v _)⟩

def wfL {α : Type} (wf : α → Prop) (l : List α) : Prop := l.length ≤ 9223372036854775807 ∧ ∀ y ∈ l, wf y

theorem reads_slice {el : Nat} {α : Type} {enc : α → List Tree} {wf : α → Prop} {sz : Nat} (ht : P.underlying t = some (.slice el)) (hr : Reads P el enc wf) (hsz : P.cellsOf el = sz) (hpos : 0 < sz) (henc : ∀ y, (enc y).length = sz) :
    Reads P t (encS enc) (wfL wf) := by
  intro H e w fuel cs x h
  rcases DataW.trod_slice ht h with ⟨rfl, _⟩ | ⟨a, len, cap, elems, rest, n, _, rfl, _, _, hl, hm, hlen, hel, _, _⟩
  · exact ⟨[], ⟨by simp, by simp⟩, .one (.slE _ _)⟩
  · rw [hsz] at hel
    have each : ∀ i, i < len → ∃ (y : α) (cs : List Value), wf y ∧ RTL w (old w) cs (enc y) ∧ ∀ j, j < sz → w.cell? ((a.add (i * sz)).add j) = cs[j]? := by
      intro i hi
      have h1 := hel i hi
      rw [List.getElem?_eq_getElem (by omega), Option.bind_eq_some_iff] at h1
      obtain ⟨cs', hcs, hy⟩ := h1
      obtain ⟨y, hw, hrt⟩ := hr H e w n cs' _ hy
      exact ⟨y, cs', hw, hrt, (World.cells?_some hcs).2.2⟩
    by_cases h0 : len = 0
    · subst h0
      exact ⟨[], ⟨by simp, by simp⟩, .one (.slE _ _)⟩
    · let f : Nat → α := fun i => if h : i < len then (each i h).choose else (each 0 (by omega)).choose
      let l := (List.range len).map f
      have hf : ∀ i, i < len → wf (f i) ∧ ∃ cs : List Value, RTL w (old w) cs (enc (f i)) ∧ ∀ j, j < sz → w.cell? ((a.add (i * sz)).add j) = cs[j]? := by
        intro i hi
        have hfi : f i = (each i hi).choose := by simp [f, hi]
        rw [hfi]
        obtain ⟨cs, h1, h2, h3⟩ := (each i hi).choose_spec
        exact ⟨h1, cs, h2, h3⟩
      have hll : l.length = len := by simp [l]
      have hspot : a.spot = none := by
        obtain ⟨_, cs, h2, h3⟩ := hf 0 (by omega)
        have h4 := h3 0 hpos
        have hcl : 0 < cs.length := by rw [h2.1, henc]; exact hpos
        rw [List.getElem?_eq_getElem hcl] at h4
        have ea : (a.add (0 * sz)).add 0 = a := by simp [Addr.add]
        rw [ea] at h4
        unfold World.cell? at h4
        split at h4
        · split at h4
          · cases h4
          · rename_i hs; simpa using hs
        · cases h4
      obtain ⟨b, o, sp⟩ := a
      simp only at hspot
      subst hspot
      have hcell : ∀ i j, i < len → j < sz → ∃ v, w.cell? ⟨b, o + i * sz + j, none⟩ = some v ∧ ∀ (hj : j < (enc (f i)).length), RT w (old w) v ((enc (f i))[j]) := by
        intro i j hi hj
        obtain ⟨_, cs, h2, h3⟩ := hf i hi
        have hcl : j < cs.length := by rw [h2.1, henc]; exact hj
        have h4 := h3 j hj
        rw [addr_add, addr_add, List.getElem?_eq_getElem hcl] at h4
        exact ⟨_, h4, fun hj' => h2.2 j hcl hj'⟩
      let vs : Nat → Nat → Value := fun i j => (w.cell? ⟨b, o + i * sz + j, none⟩).getD undef
      refine ⟨l, ⟨by rw [hll]; unfold maxLen at hm; omega, fun y hy => ?_⟩, .one ?_⟩
      · obtain ⟨i, hi, rfl⟩ := List.mem_map.1 hy
        exact (hf i (List.mem_range.1 hi)).1
      · have hb : old w b := by
          obtain ⟨v, hv, _⟩ := hcell 0 0 (by omega) hpos
          have := World.block_lt_of_cell? w _ hv
          simpa [old] using this
        have hml : (l.map enc).length = len := by simp [hll]
        have key := RT.sl (w := w) (S := old w) b o cap sz (l.map enc) vs (by rw [hml]; exact hl) hb (fun r hr => by obtain ⟨y, _, rfl⟩ := List.mem_map.1 hr; exact henc y)
          (fun i j hi hj => by
            rw [hml] at hi
            obtain ⟨v, hv, _⟩ := hcell i j hi hj
            simp [vs, hv])
          (fun i j hi hj => by
            rw [hml] at hi
            have e1 : (l.map enc)[i]'(by rw [hml]; exact hi) = enc (f i) := by simp [l]
            have hj' : j < sz := by rw [e1, henc] at hj; exact hj
            obtain ⟨v, hv, hrt⟩ := hcell i j hi hj'
            have e2 : vs i j = v := by simp [vs, hv]
            rw [e2]
            have := hrt (by rw [henc]; exact hj')
            simpa only [e1] using this)
        rw [hml] at key
        have e3 : tS enc l = .sl len (l.map enc) := by simp [tS, hll]
        rw [e3]
        exact key

theorem rtl_nil {w : World} {S : Nat → Prop} {cs : List Value} {o : Nat} (h : cs.length = o) : RTL w S (cs.drop o) [] := by
  rw [List.drop_eq_nil_of_le (by omega)]
  exact ⟨rfl, fun j h1 => by simp at h1⟩

theorem rtl_cons {w : World} {S : Nat → Prop} {cs : List Value} {o o' n : Nat} {ts rest : List Tree} (h : RTL w S ((cs.drop o).take n) ts) (ho : o' = o + n) (k : RTL w S (cs.drop o') rest) : RTL w S (cs.drop o) (ts ++ rest) := by
  subst ho
  have e : cs.drop o = (cs.drop o).take n ++ cs.drop (o + n) := by rw [← List.drop_drop, List.take_append_drop]
  rw [e]
  refine ⟨by simp only [List.length_append, h.1, k.1], fun j h1 h2 => ?_⟩
  by_cases hj : j < ts.length
  · rw [List.getElem_append_left (by rw [h.1]; exact hj), List.getElem_append_left hj]
    exact h.2 j (by rw [h.1]; exact hj) hj
  · have hj' : ¬ j < ((cs.drop o).take n).length := by rw [h.1]; exact hj
    rw [List.getElem_append_right (by omega), List.getElem_append_right (by omega)]
    simp only [h.1]
    exact k.2 (j - ts.length) (by simp only [List.length_append] at h1; have := h.1; omega) (by simp only [List.length_append] at h2; omega)

/-- One field. -/
theorem field_of {H : Type} {e : TypeId × Value → H} {w : World} {n : Nat} {cs : List Value} {xs : List (DataW H × List MemPlace)} {fs : Array Field} (hlen : xs.length = fs.size)
    (hf : ∀ (i : Nat) (f : Field), fs[i]? = some f → DataW.trod e P w 0 (fun _ => true) true n f.type ((cs.drop f.offset).take (P.cellsOf f.type)) = xs[i]?) (i : Nat) {f : Field} (hi : fs[i]? = some f)
    {α : Type} {enc : α → List Tree} {wf : α → Prop} (hr : Reads P f.type enc wf) : ∃ y : α, wf y ∧ RTL w (old w) ((cs.drop f.offset).take (P.cellsOf f.type)) (enc y) := by
  have hlt : i < xs.length := by rw [hlen]; exact (Array.getElem?_eq_some_iff.1 hi).1
  have := hf i f hi
  rw [List.getElem?_eq_getElem hlt] at this
  exact hr H e w n _ _ this

theorem elem_of {H : Type} {e : TypeId × Value → H} {w : World} {m n el : Nat} {cs : List Value} {xs : List (DataW H × List MemPlace)} (hlen : xs.length = n)
    (hf : ∀ (i : Nat), i < n → DataW.trod e P w 0 (fun _ => true) true m el ((cs.drop (i * P.cellsOf el)).take (P.cellsOf el)) = xs[i]?) (i : Nat) (hi : i < n)
    {α : Type} {enc : α → List Tree} {wf : α → Prop} (hr : Reads P el enc wf) : ∃ y : α, wf y ∧ RTL w (old w) ((cs.drop (i * P.cellsOf el)).take (P.cellsOf el)) (enc y) := by
  have := hf i hi
  rw [List.getElem?_eq_getElem (by omega)] at this
  exact hr H e w m _ _ this

/-- An argument, as a slot's content. -/
def ArgOk (P : Program) (t : Nat) {α : Type} (A : α → T) (wf : α → Prop) : Prop :=
  ∀ (H : Type) (e : TypeId × Value → H) (w : World) (base : Nat) (v : Value) (d : DataW H) (p : List MemPlace), Value.okWide P w .any base t v → DataW.Trod e P w 0 (fun _ => true) true t v d p →
    ∃ y : α, wf y ∧ ∀ E, RV w (old w) E v (A y)

theorem arg_one {α : Type} {enc : α → List Tree} {wf : α → Prop} {A : α → T} {tr : α → Tree} (hr : Reads P t enc wf) (hc : ∀ w base v, Value.okWide P w .any base t v → v.cells.toList = [v]) (henc : ∀ y, enc y = [tr y]) (hA : ∀ y, A y = .t (tr y)) : ArgOk P t A wf := by
  intro H e w base v d p hv ⟨fuel, h⟩
  rw [hc w base v hv] at h
  obtain ⟨y, hw, hl, hrt⟩ := hr H e w fuel _ _ h
  refine ⟨y, hw, fun E => ?_⟩
  rw [hA]
  have := hrt 0 (by simp) (by rw [henc]; simp)
  simp only [henc, List.getElem_cons_zero] at this
  exact .t this

theorem arg_int {k : IntKind} {enc : Int → List Tree} {A : Int → T} (ht : P.underlying t = some (.int k)) (hr : Reads P t enc (fun n => (Lit.int k n).wf = true)) (henc : ∀ y, enc y = [.v (.int k y)]) (hA : ∀ y, A y = .t (.v (.int k y))) :
    ArgOk P t A (fun n => (Lit.int k n).wf = true) := arg_one hr (fun w base v hv => by obtain ⟨n, rfl⟩ := okWide_int ht hv; rfl) henc hA

theorem arg_bool {enc : Bool → List Tree} {A : Bool → T} (ht : P.underlying t = some .bool) (hr : Reads P t enc (fun _ => True)) (henc : ∀ y, enc y = [.v (.bool y)]) (hA : ∀ y, A y = .t (.v (.bool y))) :
    ArgOk P t A (fun _ => True) := arg_one hr (fun w base v hv => by obtain ⟨n, rfl⟩ := okWide_bool ht hv; rfl) henc hA

theorem arg_slice {el : Nat} {α : Type} {enc : α → List Tree} {wf : α → Prop} {A : List α → T} (ht : P.underlying t = some (.slice el)) (hr : Reads P t (encS enc) (wfL wf)) (hA : ∀ y, A y = .t (tS enc y)) :
    ArgOk P t A (wfL wf) := arg_one hr (fun w base v hv => by obtain ⟨a, n, c, rfl⟩ := okWide_slice ht hv; rfl) (fun _ => rfl) hA

theorem arg_struct {fs : Array Field} {α : Type} {enc : α → List Tree} {wf : α → Prop} {A : α → T} (ht : P.underlying t = some (.struct fs)) (hr : Reads P t enc wf) (hA : ∀ y, A y = .agg ((enc y).map .t)) : ArgOk P t A wf := by
  intro H e w base v d p hv ⟨fuel, h⟩
  obtain ⟨cs, rfl, _⟩ := okWide_struct ht hv
  obtain ⟨y, hw, hl, hrt⟩ := hr H e w fuel _ _ h
  refine ⟨y, hw, fun E => ?_⟩
  rw [hA]
  have := RV.agg (w := w) (S := old w) (E := E) cs.toList ((enc y).map .t) (by simpa [Value.cells] using hl) (fun j h1 h2 => by
    simp only [List.getElem_map]
    exact .t (hrt j h1 (by simpa using h2)))
  simpa using this

/-- From a contract: a call that returns true and leaves alone what was there. -/
theorem TieF.calls {n : Nat} {args : List T} {m : Option Bool} (h : TieF P n args m (fun r => .t (.v (.bool r)))) (hm : m = some true) {w : World} {vs : List Value} (hv : RVL w (old w) (fun _ => undef) vs args) :
    Calls P n vs.toArray w fun e w' => e = .returned (.bool true) ∧ Below w.heap.size w w' :=
  (h.2 true hm w (old w) _ vs (fun _ hb => hb) hv).mono fun e w' ⟨v, S', he, hv, hk, _, _⟩ => by
    have := hv.tv
    subst this
    exact ⟨he, hk.os, hk.tape, hk.output, hk.size, fun k hk' => hk.block k hk' (fun x => x)⟩

theorem rvl_nil {w : World} {S : Nat → Prop} {E : Nat → Value} : RVL w S E [] [] := ⟨rfl, fun j h => by simp at h⟩
theorem rvl_cons {w : World} {S : Nat → Prop} {E : Nat → Value} {v : Value} {t : T} {vs : List Value} {l : List T} (h : RV w S E v t) (k : RVL w S E vs l) : RVL w S E (v :: vs) (t :: l) := by
  refine ⟨by simp [k.1], fun j a b => ?_⟩
  cases j with
  | zero => exact h
  | succ j => exact k.2 j (by simpa using a) (by simpa using b)
end
end Go.Pv
namespace Go.Pv
open Go.RowKit

def tvs (vs : List Value) : List T := vs.map fun v => .t (.v v)

def EqOk (P : Program) (ty : Nat) (vs us : List Value) (b : Bool) : Prop :=
  (∀ w, (Op.equalIn 10000 ty (.agg vs.toArray) (.agg us.toArray)).run P w = .ok b w) ∧ P.eqGuardType P.depth ty = false

theorem agg_tvs {w : World} {S : Nat → Prop} {E : Nat → Value} {v : Value} {vs : List Value} (h : RV w S E v (.agg (tvs vs))) : v = .agg vs.toArray := by
  cases h with
  | agg cs _ hl hr =>
    congr 2
    refine List.ext_getElem (by simpa [tvs] using hl) fun j h1 h2 => ?_
    have := hr j h1 (by simpa [tvs] using h2)
    simp only [tvs, List.getElem_map] at this
    exact this.tv

section
variable {ρ τ α : Type} {X : Cx} {ks : List K} {tm : List (Nat × T)} {hp : List (Nat × Blk)} {m : Option ρ} {Q : ρ → Exit → St → Prop} {all : Array Oper} {o : Oper} {rest : List Oper} {V : T}

theorem eq_run {ty yt : Nat} {x y : Operand} {vs us : List Value} {b : Bool} {a : Act} {w : World} (he : EqOk X.P ty vs us b) (hx : a.eval x = .agg vs.toArray) (hy : a.eval y = .agg us.toArray) :
    (o.op = .binOp .eql ty x y yt → (execOp a.eval o).run X.P w = .ok (.value (.bool b)) w) ∧ (o.op = .binOp .neq ty x y yt → (execOp a.eval o).run X.P w = .ok (.value (.bool (!b))) w) := by
  constructor <;> intro ho
  · simp only [execOp, ho, hx, hy, Sem.run_bind, run_eqGuard_agg w .eql ty x y _ _ he.2, Result.andThen_ok, run_eql_struct, he.1 w]; rfl
  · simp only [execOp, ho, hx, hy, Sem.run_bind, run_eqGuard_agg w .neq ty x y _ _ he.2, Result.andThen_ok, run_neq_struct, he.1 w]; rfl

theorem TieO.eqS {ty yt d : Nat} {x y : Operand} (vs us : List Value) {b : Bool} (he : EqOk X.P ty vs us b) (ho : o.op = .binOp .eql ty x y yt) (hd : o.dst = some d) (hdn : Nat.blt d X.nt = true) (hg : guardT all.toList tm o.guard = some true)
    (hx : val tm x = some (.agg (tvs vs))) (hy : val tm y = some (.agg (tvs us))) (h : TieO X all rest ks ⟨(d, .t (.v (.bool b))) :: tm, hp⟩ m Q) : TieO X all (o :: rest) ks ⟨tm, hp⟩ m Q :=
  TieO.one (m₁ := some b) (k := fun _ => m) hd hdn hg (fun b => .t (.v (.bool b))) (fun y' S E a w hm hk => by
    cases hm
    exact ⟨_, (eq_run he (agg_tvs (hk.val hx)) (agg_tvs (hk.val hy))).1 ho, .t (.v _)⟩) (fun y' hm => by cases hm; exact h)

theorem TieO.neS {ty yt d : Nat} {x y : Operand} (vs us : List Value) {b : Bool} (he : EqOk X.P ty vs us b) (ho : o.op = .binOp .neq ty x y yt) (hd : o.dst = some d) (hdn : Nat.blt d X.nt = true) (hg : guardT all.toList tm o.guard = some true)
    (hx : val tm x = some (.agg (tvs vs))) (hy : val tm y = some (.agg (tvs us))) (h : TieO X all rest ks ⟨(d, .t (.v (.bool (!b)))) :: tm, hp⟩ m Q) : TieO X all (o :: rest) ks ⟨tm, hp⟩ m Q :=
  TieO.one (m₁ := some (!b)) (k := fun _ => m) hd hdn hg (fun b => .t (.v (.bool b))) (fun y' S E a w hm hk => by
    cases hm
    exact ⟨_, (eq_run he (agg_tvs (hk.val hx)) (agg_tvs (hk.val hy))).2 ho, .t (.v _)⟩) (fun y' hm => by cases hm; exact h)

theorem StepQ.eqS {tmMin : List (Nat × T)} {ty yt : Nat} {x y : Operand} (vs us : List Value) {b : Bool} (he : EqOk X.P ty vs us b) (ho : o.op = .binOp .eql ty x y yt) (hg : guardT all.toList tmMin o.guard = some true)
    (hx : val tmMin x = some (.agg (tvs vs))) (hy : val tmMin y = some (.agg (tvs us))) : StepQ X all o tmMin hp (.t (.v (.bool b))) := by
  intro tm hm a w S E hk K Q' hK
  rw [guardT_ok hk (guardT_more hm hg), if_pos rfl]
  unfold Oper.wp
  rw [(eq_run (w := w) he (agg_tvs (hk.val (val_more hm hx))) (agg_tvs (hk.val (val_more hm hy)))).1 ho]
  exact hK _ _ _ _ hk (.t (.v _))

theorem StepQ.neS {tmMin : List (Nat × T)} {ty yt : Nat} {x y : Operand} (vs us : List Value) {b : Bool} (he : EqOk X.P ty vs us b) (ho : o.op = .binOp .neq ty x y yt) (hg : guardT all.toList tmMin o.guard = some true)
    (hx : val tmMin x = some (.agg (tvs vs))) (hy : val tmMin y = some (.agg (tvs us))) : StepQ X all o tmMin hp (.t (.v (.bool (!b)))) := by
  intro tm hm a w S E hk K Q' hK
  rw [guardT_ok hk (guardT_more hm hg), if_pos rfl]
  unfold Oper.wp
  rw [(eq_run (w := w) he (agg_tvs (hk.val (val_more hm hx))) (agg_tvs (hk.val (val_more hm hy)))).2 ho]
  exact hK _ _ _ _ hk (.t (.v _))
end

section
variable {P : Program} {w : World}
theorem eqf_nil {d : Nat} {xs ys : Array Value} : (Op.eqFields d xs ys []).run P w = .ok true w := rfl
theorem eqf_cons {d : Nat} {f : Field} {fs : List Field} {xs ys : Array Value} {a b : Value} {c r : Bool} (hn : f.name ≠ "_") (h1 : (part f.type xs f.offset).run P w = .ok a w) (h2 : (part f.type ys f.offset).run P w = .ok b w)
    (h3 : (Op.equalIn d f.type a b).run P w = .ok c w) (h4 : (Op.eqFields d xs ys fs).run P w = .ok r w) : (Op.eqFields d xs ys (f :: fs)).run P w = .ok (c && r) w := by
  cases c <;> simp [Op.eqFields, hn, h1, h2, h3, h4]
theorem part_one {t : Nat} {ti : TI} {cs : Array Value} {off : Nat} {v : Value} (hti : TIok P t ti) (hag : ti.desc.isAgg = false) (h : cs[off]? = some v) : (part t cs off).run P w = .ok v w := by
  simp [part, hti.run_agg, hag, h]
theorem part_agg {t : Nat} {ti : TI} {cs : Array Value} {off : Nat} {r : Array Value} (hti : TIok P t ti) (hag : ti.desc.isAgg = true) (h : cs.extract off (off + ti.size) = r) : (part t cs off).run P w = .ok (.agg r) w := by
  simp [part, hti.run_agg, hag, hti.run_size, h]
theorem eq_struct {d t : Nat} {xs ys : Array Value} {fs : List Field} {b : Bool} (hf : P.underlying t = some (.struct (P.fieldsOf t))) (hs : P.stoodInHeld t = false) (hl : (P.fieldsOf t).toList = fs) (h : (Op.eqFields d xs ys fs).run P w = .ok b w) :
    (Op.equalIn (d + 1) t (.agg xs) (.agg ys)).run P w = .ok b w := by
  rw [run_equalIn_struct w d t xs ys hf hs, hl, h]
end

/-! ### loops as recursions (plain Lean) -/

theorem w64_of {n : Int} (h1 : -9223372036854775808 ≤ n) (h2 : n ≤ 9223372036854775807) : w64 n = n := by
  unfold w64 IntKind.wrap
  simp only [IntKind.bits, IntKind.signed]
  simp only [show (2 : Int) ^ 64 = 18446744073709551616 from rfl, show (2 : Int) ^ (64 - 1) = 9223372036854775808 from rfl, Bool.true_and, decide_eq_true_eq]
  split <;> omega

def stepsN {S R : Type} (f : Int → S → Option (Fl S R)) : Nat → Int → S → Option (S ⊕ R)
  | 0, _, s => some (.inl s)
  | k + 1, i, s => (f i s).bind fun x => match x with
    | .next s' => stepsN f k (i + 1) s'
    | .brk s' => some (.inl s')
    | .ret r => some (.inr r)

def stepsL {α S R : Type} (f : Int → α → S → Option (Fl S R)) : List α → Int → S → Option (S ⊕ R)
  | [], _, s => some (.inl s)
  | y :: l, i, s => (f i y s).bind fun x => match x with
    | .next s' => stepsL f l (i + 1) s'
    | .brk s' => some (.inl s')
    | .ret r => some (.inr r)

theorem loopM_next {S B : Type} {mb : S → Option (S ⊕ B)} {s s' : S} (h : mb s = some (.inl s')) : loopM mb s = loopM mb s' := by rw [loopM_eq, h]; rfl
theorem loopM_out {S B : Type} {mb : S → Option (S ⊕ B)} {s : S} {b : B} (h : mb s = some (.inr b)) : loopM mb s = some b := by rw [loopM_eq, h]; rfl

theorem rangeN_steps {S R : Type} (n : Nat) (hn : n ≤ 9223372036854775807) (f : Int → S → Option (Fl S R)) (s : S) : rangeN (n : Int) f s = stepsN f n 0 s := by
  have key : ∀ (k : Nat) (i : Nat) (s : S), i + k = n → loopM (rangeBN (n : Int) f) ((i : Int), s) = stepsN f k i s := by
    intro k
    induction k with
    | zero =>
      intro i s hi
      have : ¬ ((i : Int) < (n : Int)) := by omega
      exact loopM_out (by simp [rangeBN, this])
    | succ k ih =>
      intro i s hi
      have hlt : (i : Int) < (n : Int) := by omega
      rw [loopM_eq]
      simp only [rangeBN, hlt, decide_true, cond_true, stepsN]
      cases hf : f i s with
      | none => rfl
      | some x =>
        simp only [Option.bind_some]
        cases x with
        | next s' =>
          simp only [rangeK, Option.bind_some]
          have := ih (i + 1) s' (by omega)
          rw [w64_of (by omega) (by omega)]
          push_cast at this
          exact this
        | brk s' => simp [rangeK]
        | ret r => simp [rangeK]
  have := key n 0 s (by omega)
  simpa using this

theorem getI_nat {α : Type} (l : List α) (i : Nat) : getI l (i : Int) = l[i]? := by simp [getI]

theorem rangeM_steps {α S R : Type} (l : List α) (hn : l.length ≤ 9223372036854775807) (f : Int → α → S → Option (Fl S R)) (s : S) : rangeM l f s = stepsL f l 0 s := by
  have key : ∀ (r : List α) (i : Nat) (s : S), l.drop i = r → i ≤ l.length → loopM (rangeB l f) ((i : Int), s) = stepsL f r i s := by
    intro r
    induction r with
    | nil =>
      intro i s hd hi
      have : ¬ ((i : Int) < (l.length : Int)) := by have := List.drop_eq_nil_iff.1 hd; omega
      exact loopM_out (by simp [rangeB, this])
    | cons y r ih =>
      intro i s hd hi
      have hi' : i < l.length := by
        rcases Nat.lt_or_ge i l.length with h | h
        · exact h
        · rw [List.drop_eq_nil_of_le h] at hd; cases hd
      have hlt : (i : Int) < (l.length : Int) := by omega
      have hy : l[i]? = some y := by rw [← List.head?_drop, hd]; rfl
      have hd' : l.drop (i + 1) = r := by rw [← List.drop_drop, hd]; rfl
      rw [loopM_eq]
      simp only [rangeB, hlt, decide_true, cond_true, stepsL, getI_nat, hy, Option.bind_some]
      cases hf : f i y s with
      | none => rfl
      | some x =>
        simp only [Option.bind_some]
        cases x with
        | next s' =>
          simp only [rangeK, Option.bind_some]
          have := ih (i + 1) s' hd' (by omega)
          rw [w64_of (by omega) (by omega)]
          push_cast at this
          exact this
        | brk s' => simp [rangeK]
        | ret r => simp [rangeK]
  have := key l 0 s rfl (Nat.zero_le _)
  simpa using this

/-- A loop that returns at the first element that is not p. -/
theorem stepsL_all {α R : Type} {f : Int → α → Unit → Option (Fl Unit R)} {p : α → Bool} {r : R} : ∀ (l : List α) (i : Int), (∀ i, ∀ y ∈ l, f i y () = some (bif p y then .next () else .ret r)) →
    stepsL f l i () = some (bif l.all p then .inl () else .inr r)
  | [], _, _ => rfl
  | y :: l, i, h => by
    simp only [stepsL, h i y (List.mem_cons_self ..), Option.bind_some, List.all_cons]
    cases hp : p y
    · rfl
    · exact stepsL_all l (i + 1) (fun i y' hy => h i y' (List.mem_cons_of_mem _ hy))

/-- A loop that folds. -/
theorem stepsL_fold {α S R : Type} {f : Int → α → S → Option (Fl S R)} {g : S → α → S} : ∀ (l : List α) (i : Int) (s : S), (∀ i s, ∀ y ∈ l, f i y s = some (.next (g s y))) → stepsL f l i s = some (.inl (l.foldl g s))
  | [], _, _, _ => rfl
  | y :: l, i, s, h => by
    simp only [stepsL, h i s y (List.mem_cons_self ..), Option.bind_some, List.foldl_cons]
    exact stepsL_fold l (i + 1) _ (fun i s y' hy => h i s y' (List.mem_cons_of_mem _ hy))

theorem stepsN_all {R : Type} {f : Int → Unit → Option (Fl Unit R)} {p : Nat → Bool} {r : R} : ∀ (k i : Nat), (∀ j, i ≤ j → j < i + k → f j () = some (bif p j then .next () else .ret r)) →
    stepsN f k i () = some (bif (List.range' i k).all p then .inl () else .inr r)
  | 0, _, _ => rfl
  | k + 1, i, h => by
    simp only [stepsN, h i (Nat.le_refl _) (by omega), Option.bind_some, List.range'_succ, List.all_cons]
    cases hp : p i
    · rfl
    · have := stepsN_all k (i + 1) (fun j h1 h2 => h j (by omega) (by omega))
      push_cast at this
      exact this

/-- A counting loop that leaves at the first number that is not p. -/
theorem loopM_all {S B : Type} {mb : S → Option (S ⊕ B)} (σ : Nat → S) {p : Nat → Bool} {b0 b1 : B} (n : Nat) (hend : mb (σ n) = some (.inr b0)) (h : ∀ k, k < n → mb (σ k) = some (bif p k then .inl (σ (k + 1)) else .inr b1)) :
    loopM mb (σ 0) = some (bif (List.range' 0 n).all p then b0 else b1) := by
  have key : ∀ k i, i + k = n → loopM mb (σ i) = some (bif (List.range' i k).all p then b0 else b1) := by
    intro k
    induction k with
    | zero => intro i hi; have : i = n := by omega
              subst this; exact loopM_out hend
    | succ k ih =>
      intro i hi
      have h1 := h i (by omega)
      rw [List.range'_succ, List.all_cons]
      cases hp : p i
      · rw [hp] at h1; exact loopM_out h1
      · rw [hp] at h1; rw [loopM_next h1, ih (i + 1) (by omega)]; rfl
  exact key n 0 (by omega)

/-- A counting loop that goes through. -/
theorem loopM_count {S B : Type} {mb : S → Option (S ⊕ B)} (σ : Nat → S) {b0 : B} (n : Nat) (hend : mb (σ n) = some (.inr b0)) (h : ∀ k, k < n → mb (σ k) = some (.inl (σ (k + 1)))) : loopM mb (σ 0) = some b0 := by
  have key : ∀ k i, i + k = n → loopM mb (σ i) = some b0 := by
    intro k
    induction k with
    | zero => intro i hi; have : i = n := by omega
              subst this; exact loopM_out hend
    | succ k ih => intro i hi; rw [loopM_next (h i (by omega)), ih (i + 1) (by omega)]
  exact key n 0 (by omega)

/-- A counting loop over a list that folds. -/
theorem loopM_fold {α S S' B : Type} {mb : S' → Option (S' ⊕ B)} (σ : Nat → S → S') {g : S → α → S} {out : S → B} (l : List α) (s0 : S) (hend : ∀ s, mb (σ l.length s) = some (.inr (out s)))
    (h : ∀ k s y, l[k]? = some y → mb (σ k s) = some (.inl (σ (k + 1) (g s y)))) : loopM mb (σ 0 s0) = some (out (l.foldl g s0)) := by
  have key : ∀ (r : List α) (i : Nat) (s : S), l.drop i = r → i ≤ l.length → loopM mb (σ i s) = some (out (r.foldl g s)) := by
    intro r
    induction r with
    | nil =>
      intro i s hd hi
      have : i = l.length := by have := List.drop_eq_nil_iff.1 hd; omega
      subst this
      exact loopM_out (hend s)
    | cons y r ih =>
      intro i s hd hi
      have hi' : i < l.length := by
        rcases Nat.lt_or_ge i l.length with h | h
        · exact h
        · rw [List.drop_eq_nil_of_le h] at hd; cases hd
      have hy : l[i]? = some y := by rw [← List.head?_drop, hd]; rfl
      have hd' : l.drop (i + 1) = r := by rw [← List.drop_drop, hd]; rfl
      rw [loopM_next (h i s y hy), ih (i + 1) _ hd' (by omega)]
      rfl
  exact key l 0 s0 rfl (Nat.zero_le _)

/-- A counting loop over a list that leaves at the first element that is not p. -/
theorem loopM_allL {α S B : Type} {mb : S → Option (S ⊕ B)} (σ : Nat → S) {p : α → Bool} {b0 b1 : B} (l : List α) (hend : mb (σ l.length) = some (.inr b0)) (h : ∀ k y, l[k]? = some y → mb (σ k) = some (bif p y then .inl (σ (k + 1)) else .inr b1)) :
    loopM mb (σ 0) = some (bif l.all p then b0 else b1) := by
  have key : ∀ (r : List α) (i : Nat), l.drop i = r → i ≤ l.length → loopM mb (σ i) = some (bif r.all p then b0 else b1) := by
    intro r
    induction r with
    | nil =>
      intro i hd hi
      have : i = l.length := by have := List.drop_eq_nil_iff.1 hd; omega
      subst this
      exact loopM_out hend
    | cons y r ih =>
      intro i hd hi
      have hi' : i < l.length := by
        rcases Nat.lt_or_ge i l.length with h | h
        · exact h
        · rw [List.drop_eq_nil_of_le h] at hd; cases hd
      have hy : l[i]? = some y := by rw [← List.head?_drop, hd]; rfl
      have hd' : l.drop (i + 1) = r := by rw [← List.drop_drop, hd]; rfl
      have h1 := h i y hy
      rw [List.all_cons]
      cases hp : p y
      · rw [hp] at h1; exact loopM_out h1
      · rw [hp] at h1; rw [loopM_next h1, ih (i + 1) hd' (by omega)]; rfl
  exact key l 0 rfl (Nat.zero_le _)

theorem bif_some {α : Type} (b : Bool) (x y : α) : (bif b then some x else some y) = some (bif b then x else y) := by cases b <;> rfl
theorem bif_not {α : Type} (b : Bool) (x y : α) : (bif !b then x else y) = bif b then y else x := by cases b <;> rfl
end Go.Pv
namespace Go.Pv
open Go.RowKit

/-- A loop over the numbers below a list's length that begins with that element. -/
theorem rangeN_list {α S R : Type} (l : List α) (hn : l.length ≤ 9223372036854775807) (g : Int → α → S → Option (Fl S R)) (s : S) :
    rangeN (l.length : Int) (fun i s => (getI l i).bind fun x => g i x s) s = stepsL g l 0 s := by
  rw [rangeN_steps _ hn]
  have key : ∀ (r : List α) (i : Nat) (s : S), l.drop i = r → stepsN (fun i s => (getI l i).bind fun x => g i x s) r.length (i : Int) s = stepsL g r (i : Int) s := by
    intro r
    induction r with
    | nil => intro i s _; rfl
    | cons y r ih =>
      intro i s hd
      have hy : l[i]? = some y := by rw [← List.head?_drop, hd]; rfl
      have hd' : l.drop (i + 1) = r := by rw [← List.drop_drop, hd]; rfl
      simp only [List.length_cons, stepsN, stepsL, getI_nat, hy, Option.bind_some]
      cases hg : g i y s with
      | none => rfl
      | some x =>
        cases x with
        | next s' =>
          have := ih (i + 1) s' hd'
          push_cast at this
          simpa using this
        | brk s' => rfl
        | ret r' => rfl
  have := key l 0 s rfl
  simpa using this

/-- A search by index. -/
theorem stepsL_index {α : Type} {f : Int → α → Unit → Option (Fl Unit Int)} {p : α → Bool} : ∀ (l : List α) (i : Int), 0 ≤ i → (∀ i, ∀ y ∈ l, f i y () = some (bif p y then .ret i else .next ())) →
    ∃ r, stepsL f l i () = some r ∧ (match r with | .inl _ => l.any p = false | .inr j => 0 ≤ j ∧ l.any p = true)
  | [], _, _, _ => ⟨.inl (), rfl, rfl⟩
  | y :: l, i, hi, h => by
    simp only [stepsL, h i y (List.mem_cons_self ..), Option.bind_some, List.any_cons]
    cases hp : p y
    · obtain ⟨r, h1, h2⟩ := stepsL_index l (i + 1) (by omega) (fun i y' hy => h i y' (List.mem_cons_of_mem _ hy))
      refine ⟨r, h1, ?_⟩
      cases r <;> simpa using h2
    · exact ⟨.inr i, rfl, hi, rfl⟩

theorem index_any {α : Type} (l : List α) (hn : l.length ≤ 9223372036854775807) (f : α → Option Bool) (p : α → Bool) (h : ∀ y ∈ l, f y = some (p y)) :
    (Option.bind (Option.bind (rangeN (l.length : Int) (fun (i : Int) (_ : Unit) => Option.bind (getI l i) fun x => Option.bind (f x) fun v => bif v then (some (Fl.ret i)) else (some (Fl.next ()))) ()) fun (t : Unit ⊕ Int) => match t with | .inl _ => (some (-1)) | .inr r2 => some r2) fun v => some (decide (v ≥ 0))) = some (l.any p) := by
  rw [rangeN_list l hn (fun (i : Int) x (_ : Unit) => Option.bind (f x) fun v => bif v then (some (Fl.ret i)) else (some (Fl.next ())))]
  obtain ⟨r, h1, h2⟩ := stepsL_index (f := fun (i : Int) x (_ : Unit) => Option.bind (f x) fun v => bif v then (some (Fl.ret i)) else (some (Fl.next ()))) (p := p) l 0 (Int.le_refl 0) (fun i y hy => by
    simp only [h y hy, Option.bind_some]; cases p y <;> rfl)
  rw [h1]
  cases r with
  | inl u => simp only [Option.bind_some]; simp at h2; simp; intro x hx; simpa using h2 x hx
  | inr j => simp only [Option.bind_some]; rw [h2.2]; simp [h2.1]
end Go.Pv
namespace Go.Pv
open Go.RowKit

/-- A value that is a whole row of its own: the first n elements are xs. -/
def OwnV (w : World) (v : Value) (e sz n : Nat) (xs : List Value) : Prop :=
  (v = .slice none 0 0 ∧ n = 0 ∧ xs = []) ∨
  ∃ (g cap : Nat) (cur : List Value), v = .slice (some ⟨g, 0, none⟩) n cap ∧ w.heap[g]? = some (.cells cur.toArray e (0, 0)) ∧ n ≤ cap ∧ cap ≤ maxLen ∧ cur.length = cap * sz ∧ cur.take (n * sz) = xs

theorem run_append_none {P : Program} {w : World} {t ty e : Nat} {ti : TI} {v x : Value} {n c : Nat} {xs : List Value} {a : Option Addr} (ht : P.underlying t = some (.slice e)) (hte : TIok P e ti) (hv : OwnV w v e ti.size n xs) (hx : x = .slice a 0 c) :
    (Builtin.append_ #[t, t] ty #[v, x]).run P w = .ok v w := by
  obtain ⟨i, d, hi, hs, _⟩ := hte
  subst hx
  have hf : (Builtin.firstCells i.size 0 (.slice a 0 c)).run P w = .ok #[] w := by
    cases a <;> simp [Builtin.firstCells, loadCells, loadCellsFrom]
  rcases hv with ⟨rfl, rfl, rfl⟩ | ⟨g, cap, cur, rfl, hg, hn, _⟩
  · simp [Builtin.append_, run_underlying ht, sizeOf, typeInfo, hi, Builtin.lenOf, hf]
  · simp [Builtin.append_, run_underlying ht, sizeOf, typeInfo, hi, Builtin.lenOf, hf, hn, storeCells]

theorem run_append_some {P : Program} {w : World} {t ty e : Nat} {ti : TI} {v : Value} {n m c : Nat} {xs news : List Value} {a : Addr} (ht : P.underlying t = some (.slice e)) (hte : TIok P e ti) (hz : ti.zero.length = ti.size) (hv : OwnV w v e ti.size n xs)
    (hl : news.length = m * ti.size) (hnews : ∀ j u, news[j]? = some u → w.cell? (a.add j) = some u) (h1 : ∀ u ∈ news, u.oneCell' = true) (h0 : 0 < m) (hmax : n + m ≤ 1073741824) :
    ∃ v' w', (Builtin.append_ #[t, t] ty #[v, .slice (some a) m c]).run P w = .ok v' w' ∧ Keep (fun b => blkOf v = some b) w w' ∧ OwnV w' v' e ti.size (n + m) (xs ++ news) ∧
      (∀ b, blkOf v' = some b → b < w'.heap.size ∧ (blkOf v = some b ∨ w.heap.size ≤ b)) := by
  obtain ⟨i, d, hi, hs, _, _, ⟨z, hzz, hzc⟩, hby⟩ := hte
  rw [← hs] at hv hl hz ⊢
  have hzs : z.cells.size = i.size := by rw [← hz, ← hzc]; simp
  have hbytes : (n + m) * i.bytes ≤ 140737488355328 := by
    have := Nat.mul_le_mul hmax hby
    omega
  have grown : ∀ (old : Nat), old < n + m → xs.length = n * i.size →
      OwnV (w.drew.alloc (.cells (xs.toArray ++ news.toArray ++ Builtin.zeroCells z.cells (grownCap w (n + m) old e - (n + m))) e)) (.slice (some ⟨w.heap.size, 0, none⟩) (n + m) (grownCap w (n + m) old e)) e i.size (n + m) (xs ++ news) := by
    intro old ho hxl
    have hge := grownCap_ge w (n + m) old e
    have hcm : grownCap w (n + m) old e ≤ maxLen := grownCap_le_maxLen w (n + m) old e (by simp only [maxLen]; omega)
    have hlen : (xs ++ news).length = (n + m) * i.size := by rw [List.length_append, hxl, hl, Nat.add_mul]
    refine .inr ⟨w.heap.size, _, (xs ++ news) ++ (Builtin.zeroCells z.cells (grownCap w (n + m) old e - (n + m))).toList, rfl, ?_, hge, hcm, ?_, ?_⟩
    · have : ((xs ++ news) ++ (Builtin.zeroCells z.cells (grownCap w (n + m) old e - (n + m))).toList).toArray = xs.toArray ++ news.toArray ++ Builtin.zeroCells z.cells (grownCap w (n + m) old e - (n + m)) := by simp
      rw [this]
      exact heap_alloc_new w.drew _
    · rw [List.length_append, hlen, Array.length_toList, size_zeroCells, hzs, ← Nat.add_mul]
      congr 1
      omega
    · rw [← hlen]
      exact List.take_left
  have kept : ∀ o, Keep (fun b => blkOf v = some b) w (w.drew.alloc o) := fun o => ⟨rfl, rfl, rfl, by simp, fun k hk _ => Below.heap_alloc w.drew _ _ hk, Nat.le_succ _⟩
  rcases hv with ⟨rfl, rfl, rfl⟩ | ⟨g, cap, cur, rfl, hg, hn, hcm, hcs, htake⟩
  · have hr := run_append_nil (P := P) w t ty e i z ht hi hzz a m c news hl hnews h0 (by omega) (by have hb := hbytes; simp only [Nat.zero_add] at hb; omega)
    have hgr := grown 0 (by omega) (by simp)
    simp only [Nat.zero_add, List.nil_append, Array.empty_append] at hgr ⊢
    exact ⟨_, _, hr, kept _, hgr, fun b hb => by cases hb; simp⟩
  · have hxl : xs.length = n * i.size := by
      rw [← htake, List.length_take, hcs]
      exact Nat.min_eq_left (Nat.mul_le_mul_right _ hn)
    by_cases hroom : n + m ≤ cap
    · have hfit : n * i.size + news.length ≤ cur.toArray.size := by rw [hl, List.size_toArray, hcs, ← Nat.add_mul]; exact Nat.mul_le_mul_right _ hroom
      have hr := run_append_room (P := P) w t ty e i ht hi g n cap cur.toArray hg a m c news hl hnews h1 hroom hfit
      refine ⟨_, _, hr, ⟨rfl, rfl, rfl, by simp, fun k _ hk => setRow_other w g k _ (fun e => hk (by simp [blkOf, e])), Nat.le_refl _⟩, .inr ⟨g, cap, _, rfl, setRow_heap w g cur.toArray _ e _ hg, hroom, hcm, ?_, ?_⟩, fun b hb => ?_⟩
      · simp only [List.length_append, List.length_take, List.length_drop]
        rw [hl, hcs]
        have h2 : n * i.size + m * i.size ≤ cap * i.size := by rw [← Nat.add_mul]; exact Nat.mul_le_mul_right _ hroom
        have h3 : n * i.size ≤ cap * i.size := Nat.mul_le_mul_right _ hn
        omega
      · rw [htake]
        have hlen : (xs ++ news).length = (n + m) * i.size := by rw [List.length_append, hxl, hl, Nat.add_mul]
        rw [← hlen]
        exact List.take_left
      · cases hb
        refine ⟨?_, .inl rfl⟩
        have := (Array.getElem?_eq_some_iff.1 hg).1
        simpa using this
    · have holds : ∀ j u, xs[j]? = some u → w.cell? ((⟨g, 0, none⟩ : Addr).add j) = some u := by
        intro j u hu
        have hadd : (⟨g, 0, none⟩ : Addr).add j = ⟨g, j, none⟩ := by rw [addr_add]; simp
        rw [hadd, cell_of_row w g j _ e (0, 0) hg]
        rw [← htake, List.getElem?_take] at hu
        split at hu
        · simpa using hu
        · cases hu
      have hr := run_append_grow (P := P) w t ty e i z ht hi hzz ⟨g, 0, none⟩ n cap xs hxl holds a m c news hl hnews (by omega) (by omega) (growslice_fits (by omega) hbytes)
      exact ⟨_, _, hr, kept _, grown cap (by omega) hxl, fun b hb => by cases hb; simp⟩
end Go.Pv
namespace Go.Pv
open Go.RowKit

section
variable {w0 : World} {L : Lim} {nt : Nat} {tm : List (Nat × T)} {hp : List (Nat × Blk)} {S : Nat → Prop} {E : Nat → Value} {a : Act} {w w' : World}

/-- The block of v is turned, or left for a new one; the rest of the state stands. -/
theorem Ok.regrow (h : Ok w0 L nt ⟨tm, hp⟩ S E a w) {id : Nat} {v v' : Value} {b : Blk} (hbig : Nat.blt id big = true) (hf : freshT id tm = true) (hb : freshB id hp = true)
    (hv : ∀ β, blkOf v = some β → ¬ S β ∧ β < w.heap.size ∧ (w0.heap.size ≤ β ∨ L.lent β)) (hd : ∀ i blk β, look hp i = some blk → blkOf v = some β → blkOf (E i) = some β → False)
    (hk : Keep (fun x => blkOf v = some x) w w') (hv' : ∀ β, blkOf v' = some β → β < w'.heap.size ∧ (blkOf v = some β ∨ w.heap.size ≤ β))
    (hok : ∀ E', BlkOk w' S E' v' b) : ∃ E', E' id = v' ∧ Ok w0 L nt ⟨tm, (id, b) :: hp⟩ S E' a w' := by
  let E' : Nat → Value := fun i => if i = id then v' else E i
  have hE : ∀ i, i ≠ id → E' i = E i := fun i hi => by simp [E', hi]
  have hid : E' id = v' := by simp [E']
  have hS : ∀ x, S x → w'.heap[x]? = w.heap[x]? := fun x hx => hk.block x (h.stab x hx) (fun e => (hv x e).1 hx)
  have hsz := h.keep.size
  refine ⟨E', hid, { keep := h.keep.trans hk (fun x hx => (hv x hx).2.2.symm), stab := fun x hx => Nat.lt_of_lt_of_le (h.stab x hx) hk.size, base := h.base, size := h.size, defers := h.defers, tm := ?_, hp := ?_, own := ?_, dist := ?_, pin := fun i hi => by rw [hE i (fun e => by have : id < big := Nat.le_of_ble_eq_true hbig; omega)]; exact h.pin i hi }⟩
  · exact fun k t ht => (h.tm k t ht).mono (fun _ x => x) hS fun i hi => hE i fun e => by
      have := freshT_look hf k t ht; subst e; rw [this] at hi; cases hi
  · intro i blk hl
    simp only [look] at hl
    by_cases he : id = i
    · subst he
      simp only [Nat.beq_refl, cond_true, Option.some.injEq] at hl
      subst hl; rw [hid]; exact hok E'
    · simp only [beq_ne he, cond_false] at hl
      rw [hE i (fun e => he e.symm)]
      exact (h.hp i blk hl).mono (fun _ x => x) hS (fun β hβ => hk.block β (h.own i blk β hl hβ).2.1 (fun e => hd i blk β hl e hβ)) fun j hj => hE j fun e => by
        have := (freshB_look hb i blk hl).2; subst e; rw [this] at hj; cases hj
  · intro i blk β hl hβ
    simp only [look] at hl
    by_cases he : id = i
    · subst he
      rw [hid] at hβ
      obtain ⟨h1, h2⟩ := hv' β hβ
      rcases h2 with h2 | h2
      · exact ⟨(hv β h2).1, h1, (hv β h2).2.2⟩
      · exact ⟨fun hs => by have := h.stab β hs; omega, h1, .inl (by omega)⟩
    · simp only [beq_ne he, cond_false] at hl
      rw [hE i (fun e => he e.symm)] at hβ
      have := h.own i blk β hl hβ
      exact ⟨this.1, Nat.lt_of_lt_of_le this.2.1 hk.size, this.2.2⟩
  · intro i i' blk blk' β hl hl' hβ hβ'
    simp only [look] at hl hl'
    have clash : ∀ j bj, look hp j = some bj → blkOf v' = some β → blkOf (E j) = some β → False := fun j bj hj h1 h2 => by
      rcases (hv' β h1).2 with h3 | h3
      · exact hd j bj β hj h3 h2
      · have := (h.own j bj β hj h2).2.1; omega
    by_cases he : id = i <;> by_cases he' : id = i'
    · exact he.symm.trans he'
    · subst he
      simp only [beq_ne he', cond_false] at hl'
      rw [hid] at hβ
      rw [hE i' (fun e => he' e.symm)] at hβ'
      exact (clash i' blk' hl' hβ hβ').elim
    · subst he'
      simp only [beq_ne he, cond_false] at hl
      rw [hid] at hβ'
      rw [hE i (fun e => he e.symm)] at hβ
      exact (clash i blk hl hβ' hβ).elim
    · simp only [beq_ne he, beq_ne he', cond_false] at hl hl'
      rw [hE i (fun e => he e.symm)] at hβ
      rw [hE i' (fun e => he' e.symm)] at hβ'
      exact h.dist i i' blk blk' β hl hl' hβ hβ'

theorem pos_of_mul {j a s : Nat} (h : j < a * s) : 0 < s := by
  rcases Nat.eq_zero_or_pos s with h1 | h1
  · subst h1; simp at h
  · exact h1

def oneTree : Tree → Bool
  | .v x => x.oneCell'
  | .sl _ _ => true

theorem RT.one {v : Value} {t : Tree} (h : RT w S v t) (ht : oneTree t = true) : v.oneCell' = true := by
  cases h <;> first | exact ht | rfl

/-- The row that a frozen slice or one of the call's own is: its cells, one after another. -/
theorem rows_cells {v : Value} {m sz : Nat} {rs : List (List Tree)} (h : RT w S v (.sl m rs)) (hsz : ∀ r ∈ rs, r.length = sz) (hone : ∀ r ∈ rs, ∀ t ∈ r, oneTree t = true) :
    m = rs.length ∧ ∃ (ad : Option Addr) (c : Nat), v = .slice ad m c ∧ (0 < m → ∃ (x : Addr) (news : List Value), ad = some x ∧ news.length = m * sz ∧ (∀ j u, news[j]? = some u → w.cell? (x.add j) = some u) ∧ (∀ u ∈ news, u.oneCell' = true) ∧
      ∀ i j (hi : i < rs.length) (hj : j < (rs[i]).length) (hb : i * sz + j < news.length), RT w S (news[i * sz + j]) ((rs[i])[j])) := by
  cases h with
  | slE a c => exact ⟨rfl, a, c, rfl, fun h => absurd h (by omega)⟩
  | sl b o c sz' rows vs _ hb hsz' hc hr =>
    refine ⟨rfl, _, c, rfl, fun h0 => ⟨_, (List.range (rs.length * sz)).map (fun k => vs (k / sz) (k % sz)), rfl, by simp, ?_, ?_, ?_⟩⟩
    all_goals
      have hne : sz' = sz := by rw [← hsz' (rs[0]) (List.getElem_mem h0), hsz (rs[0]) (List.getElem_mem h0)]
      subst hne
    · intro j u hu
      rw [List.getElem?_map] at hu
      obtain ⟨k, hk, rfl⟩ := Option.map_eq_some_iff.1 hu
      obtain ⟨hj, rfl⟩ := List.getElem?_eq_some_iff.1 hk
      simp only [List.length_range] at hj
      simp only [List.getElem_range]
      have hs0 : 0 < sz' := pos_of_mul hj
      have h1 : j / sz' < rs.length := Nat.div_lt_of_lt_mul (by rw [Nat.mul_comm]; exact hj)
      have h2 : j % sz' < sz' := Nat.mod_lt _ hs0
      have := hc (j / sz') (j % sz') h1 h2
      rw [addr_add]
      have e : o + j / sz' * sz' + j % sz' = o + j := by have := Nat.div_add_mod j sz'; rw [Nat.mul_comm] at this; omega
      rw [e] at this
      exact this
    · intro u hu
      obtain ⟨k, hk, rfl⟩ := List.mem_map.1 hu
      have hj := List.mem_range.1 hk
      have hs0 : 0 < sz' := pos_of_mul hj
      have h1 : k / sz' < rs.length := Nat.div_lt_of_lt_mul (by rw [Nat.mul_comm]; exact hj)
      have h2 : k % sz' < (rs[k / sz']).length := by rw [hsz _ (List.getElem_mem h1)]; exact Nat.mod_lt _ hs0
      exact (hr (k / sz') (k % sz') h1 h2).one (hone _ (List.getElem_mem h1) _ (List.getElem_mem h2))
    · intro i j hi hj hb'
      simp only [List.getElem_map, List.getElem_range]
      have hj' : j < sz' := by rw [← hsz _ (List.getElem_mem hi)]; exact hj
      have e1 : (i * sz' + j) / sz' = i := by rw [Nat.mul_comm, Nat.mul_add_div (by omega), Nat.div_eq_of_lt hj', Nat.add_zero]
      have e2 : (i * sz' + j) % sz' = j := by rw [Nat.mul_comm, Nat.mul_add_mod, Nat.mod_eq_of_lt hj']
      rw [e1, e2]
      exact hr i j hi hj
end
end Go.Pv
namespace Go.Pv
open Go.RowKit

/-- A slice value whose elements are the rows rs. -/
def Src (w : World) (S : Nat → Prop) (v : Value) (m sz : Nat) (rs : List (List Tree)) : Prop :=
  m = rs.length ∧ ∃ (ad : Option Addr) (c : Nat), v = .slice ad m c ∧ (0 < m → ∃ (x : Addr) (news : List Value), ad = some x ∧ news.length = m * sz ∧ (∀ j u, news[j]? = some u → w.cell? (x.add j) = some u) ∧ (∀ u ∈ news, u.oneCell' = true) ∧
      ∀ i j (hi : i < rs.length) (hj : j < (rs[i]).length) (hb : i * sz + j < news.length), RT w S (news[i * sz + j]) ((rs[i])[j]))

section
variable {P : Program} {w0 : World} {L : Lim} {nt : Nat} {tm : List (Nat × T)} {hp : List (Nat × Blk)} {S : Nat → Prop} {E : Nat → Value} {a : Act} {w : World}

theorem src_blk {v : Value} {e sz m : Nat} {rs : List (List Tree)} (h : BlkOk w S E v (.rows e sz m rs)) (hone : ∀ r ∈ rs, ∀ t ∈ r, oneTree t = true) : Src w S v m sz rs := by
  obtain ⟨hn, hx⟩ := h
  subst hn
  refine ⟨rfl, ?_⟩
  rcases hx with ⟨rfl, hr⟩ | ⟨β, cap, vs, hm, rfl, hh, hl, hc, hsz, hr⟩
  · subst hr; exact ⟨_, _, rfl, fun h => absurd h (by simp)⟩
  · refine ⟨_, _, rfl, fun h0 => ⟨_, vs.take (rs.length * sz), rfl, ?_, ?_, ?_, ?_⟩⟩
    · rw [List.length_take, hl]; exact Nat.min_eq_left (Nat.mul_le_mul_right _ hc)
    · intro j u hu
      rw [List.getElem?_take] at hu
      split at hu
      · rw [addr_add, cell_of_row w β _ _ e _ hh]; simpa using hu
      · cases hu
    · intro u hu
      obtain ⟨k, hk, rfl⟩ := List.mem_iff_getElem.1 hu
      have hk' : k < rs.length * sz := by have := hk; simp only [List.length_take] at this; omega
      have hs0 : 0 < sz := pos_of_mul hk'
      have h1 : k / sz < rs.length := Nat.div_lt_of_lt_mul (by rw [Nat.mul_comm]; exact hk')
      have h2 : k % sz < (rs[k / sz]).length := by rw [hsz _ (List.getElem_mem h1)]; exact Nat.mod_lt _ hs0
      have e1 : k / sz * sz + k % sz = k := by have := Nat.div_add_mod k sz; rw [Nat.mul_comm] at this; exact this
      have hkv : k < vs.length := by simp only [List.length_take] at hk; omega
      have := hr (k / sz) (k % sz) h1 h2 (by rw [e1]; exact hkv)
      simp only [e1] at this
      rw [List.getElem_take]
      exact this.one (hone _ (List.getElem_mem h1) _ (List.getElem_mem h2))
    · intro i j hi hj hb
      rw [List.getElem_take]
      exact hr i j hi hj _

theorem getElem_of_take {α : Type} {l r : List α} {k i : Nat} (h : l.take k = r) (hi : i < r.length) (hl : i < l.length) : l[i] = r[i] := by
  subst h; rw [List.getElem_take]

theorem Ok.append (h : Ok w0 L nt ⟨tm, hp⟩ S E a w) {id e n m t ty : Nat} {ti : TI} {v x : Value} {rs r2 : List (List Tree)} (hbig : Nat.blt id big = true) (hf : freshT id tm = true) (hb : freshB id hp = true)
    (hv : ∀ β, blkOf v = some β → ¬ S β ∧ β < w.heap.size ∧ (w0.heap.size ≤ β ∨ L.lent β)) (hd : ∀ i blk β, look hp i = some blk → blkOf v = some β → blkOf (E i) = some β → False)
    (hbv : BlkOk w S E v (.rows e ti.size n rs)) (ht : P.underlying t = some (.slice e)) (hte : TIok P e ti) (hz : ti.zero.length = ti.size)
    (hx : Src w S x m ti.size r2) (h2 : ∀ r ∈ r2, r.length = ti.size) (hmax : n + m ≤ 1073741824) :
    ∃ v' w' E', (Builtin.append_ #[t, t] ty #[v, x]).run P w = .ok v' w' ∧ E' id = v' ∧ Ok w0 L nt ⟨tm, (id, .rows e ti.size (n + m) (rs ++ r2)) :: hp⟩ S E' a w' := by
  obtain ⟨hm, ad, c, rfl, hsrc⟩ := hx
  obtain ⟨hn, hrow⟩ := hbv
  have hown : ∃ xs : List Value, OwnV w v e ti.size n xs ∧ xs.length = n * ti.size ∧ (∀ r ∈ rs, r.length = ti.size) ∧ ∀ i j (hi : i < rs.length) (hj : j < (rs[i]).length) (hb : i * ti.size + j < xs.length), RT w S (xs[i * ti.size + j]) ((rs[i])[j]) := by
    rcases hrow with ⟨rfl, hr⟩ | ⟨β, cap, vs, hcm, rfl, hh, hl, hc, hsz, hr⟩
    · subst hr; subst hn; exact ⟨[], .inl ⟨rfl, rfl, rfl⟩, by simp, by simp, fun i j hi => by simp at hi⟩
    · subst hn
      refine ⟨vs.take (rs.length * ti.size), .inr ⟨β, cap, vs, rfl, hh, hc, hcm, hl, rfl⟩, ?_, hsz, fun i j hi hj hb => ?_⟩
      · rw [List.length_take, hl]; exact Nat.min_eq_left (Nat.mul_le_mul_right _ hc)
      · rw [List.getElem_take]; exact hr i j hi hj _
  obtain ⟨xs, hov, hxl, hrl, hrx⟩ := hown
  rcases Nat.eq_zero_or_pos m with h0 | h0
  · subst h0
    have hr2 : r2 = [] := List.eq_nil_of_length_eq_zero hm.symm
    subst hr2
    have hr := run_append_none (ty := ty) ht hte hov (x := .slice ad 0 c) rfl
    obtain ⟨E', hE, hk⟩ := h.regrow hbig hf hb hv hd (Keep.refl _ w) (v' := v) (b := .rows e ti.size (n + 0) (rs ++ [])) (fun β hβ => ⟨(hv β hβ).2.1, .inl hβ⟩) (fun E' => by
      rw [List.append_nil, Nat.add_zero]; exact ⟨hn, hrow⟩)
    exact ⟨v, w, E', hr, hE, hk⟩
  · obtain ⟨y, news, rfl, hnl, hnews, hone, hrn⟩ := hsrc h0
    obtain ⟨v', w', hr, hk, hov', hbl⟩ := run_append_some (ty := ty) ht hte hz hov hnl hnews hone h0 hmax
    have hS : ∀ b, S b → w'.heap[b]? = w.heap[b]? := fun b hb => hk.block b (h.stab b hb) (fun e => (hv b e).1 hb)
    obtain ⟨E', hE, hok⟩ := h.regrow hbig hf hb hv hd hk (v' := v') (b := .rows e ti.size (n + m) (rs ++ r2)) hbl (fun E' => by
      refine ⟨by rw [List.length_append, hn, hm], ?_⟩
      rcases hov' with ⟨_, hz0, _⟩ | ⟨g, cap, cur, rfl, hg, hnc, hcm, hcl, htk⟩
      · omega
      · refine .inr ⟨g, cap, cur, hcm, by rw [List.length_append, ← hn, ← hm], hg, hcl, by rw [List.length_append, ← hn, ← hm]; exact hnc, ?_, ?_⟩
        · intro r hr
          rcases List.mem_append.1 hr with hr | hr
          · exact hrl r hr
          · exact h2 r hr
        · intro i j hi hj hb'
          by_cases hin : i < rs.length
          · have hj1 : j < (rs[i]).length := by rw [List.getElem_append_left hin] at hj; exact hj
            have hjs : j < ti.size := by rw [← hrl _ (List.getElem_mem hin)]; exact hj1
            have hlt : i * ti.size + j < xs.length := by
              rw [hxl, hn]
              have : (i + 1) * ti.size ≤ rs.length * ti.size := Nat.mul_le_mul_right _ hin
              rw [Nat.succ_mul] at this; omega
            have e1 : cur[i * ti.size + j] = xs[i * ti.size + j] := by
              rw [getElem_of_take htk (by rw [List.length_append]; omega) hb', List.getElem_append_left hlt]
            have e2 : (rs ++ r2)[i] = rs[i] := List.getElem_append_left hin
            rw [e1]
            simp only [e2]
            exact (hrx i j hin hj1 hlt).mono (fun _ x => x) hS
          · have hi2 : i - rs.length < r2.length := by rw [List.length_append] at hi; omega
            have e2 : (rs ++ r2)[i] = r2[i - rs.length] := List.getElem_append_right (by omega)
            have hj1 : j < (r2[i - rs.length]).length := by rw [e2] at hj; exact hj
            have hjs : j < ti.size := by rw [← h2 _ (List.getElem_mem hi2)]; exact hj1
            have hlt : (i - rs.length) * ti.size + j < news.length := by
              rw [hnl, hm]
              have : (i - rs.length + 1) * ti.size ≤ r2.length * ti.size := Nat.mul_le_mul_right _ hi2
              rw [Nat.succ_mul] at this; omega
            have esum : i * ti.size = rs.length * ti.size + (i - rs.length) * ti.size := by rw [← Nat.add_mul]; congr 1; omega
            have e3 : i * ti.size + j - xs.length = (i - rs.length) * ti.size + j := by rw [hxl, hn, esum]; omega
            have e1 : cur[i * ti.size + j] = news[(i - rs.length) * ti.size + j] := by
              rw [getElem_of_take htk (by rw [List.length_append, hxl, hn, esum]; omega) hb', List.getElem_append_right (by rw [hxl, hn, esum]; omega)]
              simp only [e3]
            rw [e1]
            simp only [e2]
            exact (hrn (i - rs.length) j hi2 hj1 hlt).mono (fun _ x => x) hS)
    exact ⟨v', w', E', hr, hE, hok⟩
end
end Go.Pv
namespace Go.Pv
open Go.RowKit

section
variable {ρ α : Type} {X : Cx} {ks : List K} {tm tm' : List (Nat × T)} {hp hp' : List (Nat × Blk)} {Q : ρ → Exit → St → Prop} {all : Array Oper} {o : Oper} {rest : List Oper}

theorem all_one {enc : α → List Tree} (hone : ∀ y, (enc y).all oneTree = true) (l : List α) : ∀ r ∈ l.map enc, ∀ t ∈ r, oneTree t = true := by
  intro r hr t ht
  obtain ⟨y, _, rfl⟩ := List.mem_map.1 hr
  exact List.all_eq_true.1 (hone y) t ht

theorem all_len {enc : α → List Tree} {sz : Nat} (h : ∀ y, (enc y).length = sz) (l : List α) : ∀ r ∈ l.map enc, r.length = sz := by
  intro r hr
  obtain ⟨y, _, rfl⟩ := List.mem_map.1 hr
  exact h y

/-- append(s, x...): s a row of the call's own, or nil; x frozen, or a row of the call's own. The row keeps its name; what else names it is dropped. -/
theorem TieO.append {t e e' d id n m s0 : Nat} {z0 : List Value} {te : TI} {s x : Operand} {l r : List α} {enc : α → List Tree} {k : List α → Option ρ}
    (ho : o.op = .call ⟨.builtin .append, #[s, x], #[t, t]⟩) (hd : o.dst = some d) (hdn : Nat.blt d X.nt = true) (hg : guardT all.toList tm o.guard = some true)
    (hty : look X.tab t = some ⟨s0, .slice e, z0⟩) (hte : look X.tab e = some te) (hz : te.zero.length = te.size) (henc : ∀ y, (enc y).length = te.size) (hone : ∀ y, (enc y).all oneTree = true)
    (hs : (val tm s = some (.own id) ∧ look hp id = some (.rows e te.size n (l.map enc))) ∨ (val tm s = some (.t (.v (.slice none 0 0))) ∧ l = []))
    (hx : val tm x = some (.t (.sl m (r.map enc))) ∨ ∃ i2, val tm x = some (.own i2) ∧ look hp i2 = some (.rows e' te.size m (r.map enc)))
    (hsub : Sub ⟨tm', hp'⟩ ⟨tm, hp⟩) (hbig : Nat.blt id big = true) (hft : freshT id tm' = true) (hfb : freshB id hp' = true)
    (h : TieO X all rest ks ⟨(d, .own id) :: tm', (id, .rows e te.size (l ++ r).length ((l ++ r).map enc)) :: hp'⟩ (k (l ++ r)) Q) :
    TieO X all (o :: rest) ks ⟨tm, hp⟩ ((appendM l r).bind k) Q := fun y hy a w ⟨S, E, hk⟩ => by
  unfold appendM at hy
  split at hy
  · rename_i hmax
    simp only [Option.bind_some] at hy
    obtain ⟨dd, _, hu, ho2⟩ : ∃ d, X.P.underlying t = some d ∧ X.P.underlying t = some d ∧ TD.ok X.P (.slice e) d := by
      obtain ⟨i, d, _, _, hu, hdd, _⟩ := X.htab t _ hty
      exact ⟨d, hu, hu, hdd⟩
    simp only [TD.ok] at ho2
    subst ho2
    have hk' : Ok X.w0 X.L X.nt ⟨tm', hp'⟩ S E a w := hk.sub hsub
    have hsrc : Src w S (a.eval x) r.length te.size (r.map enc) := by
      rcases hx with hx | ⟨i2, hx, hb2⟩
      · have hv := hk.val hx
        generalize a.eval x = xv at hv
        cases hv with
        | t hv =>
          have := rows_cells hv (all_len henc r) (all_one hone r)
          have hm : m = r.length := by simpa using this.1
          subst hm
          exact ⟨by simp, this.2⟩
      · have hv := hk.val hx
        have hb := hk.hp i2 _ hb2
        generalize a.eval x = xv at hv
        cases hv with
        | own _ _ hE =>
          subst hE
          have := src_blk hb (all_one hone r)
          have hm : m = r.length := by simpa using this.1
          subst hm
          exact this
    have hfirst : ∃ v, a.eval s = v ∧ BlkOk w S E v (.rows e te.size l.length (l.map enc)) ∧ (∀ β, blkOf v = some β → ¬ S β ∧ β < w.heap.size ∧ (X.w0.heap.size ≤ β ∨ X.L.lent β)) ∧
        (∀ i blk β, look hp' i = some blk → blkOf v = some β → blkOf (E i) = some β → False) := by
      rcases hs with ⟨hs, hb⟩ | ⟨hs, hl⟩
      · have hv := hk.val hs
        have hb1 := hk.hp id _ hb
        have hn : n = l.length := by have := hb1.1; simpa using this
        subst hn
        generalize a.eval s = sv at hv
        cases hv with
        | own _ _ hE =>
          subst hE
          refine ⟨_, rfl, hb1, fun β hβ => hk.own id _ β hb hβ, fun i blk β hi h1 h2 => ?_⟩
          obtain ⟨blk', hi', _⟩ := subB_look hsub.2 i blk hi
          have := hk.dist id i _ blk' β hb hi' h1 h2
          exact (freshB_look hfb i blk hi).1 this.symm
      · have hv := (hk.val hs).tv
        subst hl
        rw [hv]
        exact ⟨_, rfl, ⟨by simp, .inl ⟨rfl, rfl⟩⟩, fun β hβ => by simp [blkOf] at hβ, fun i blk β _ h1 => by simp [blkOf] at h1⟩
    obtain ⟨v, hv, hbv, hown, hdist⟩ := hfirst
    obtain ⟨v', w', E', hr, hE, hok⟩ := hk'.append (ty := o.type) hbig hft hfb hown hdist hbv hu (X.htab e _ hte) hz hsrc (all_len henc r) (by simpa using hmax)
    refine wpList_step fun K hK => ?_
    rw [guardT_ok hk hg, if_pos rfl]
    unfold Oper.wp
    have hexec : (execOp a.eval o).run X.P w = .ok (.value v') w' := by
      unfold execOp
      simp only [ho, resolve, invoke, builtin, Sem.run_bind, Sem.run_pure, Result.andThen_ok, List.map_toArray, List.map_cons, List.map_nil, hv, hr]
    rw [hexec]
    refine hK _ _ (h y hy _ _ ⟨S, E', ?_⟩)
    rw [hd, List.map_append, List.length_append]
    exact hok.put (Nat.le_of_ble_eq_true hdn) (.own id _ hE)
  · simp at hy
end
end Go.Pv
namespace Go.Pv
open Go.RowKit

section
variable {ρ α : Type} {X : Cx} {ks : List K} {tm tm' : List (Nat × T)} {hp hp' : List (Nat × Blk)} {m : Option ρ} {Q : ρ → Exit → St → Prop} {all : Array Oper} {o : Oper} {rest : List Oper}

theorem TieO.appendY {t e e' d id n m s0 : Nat} {z0 : List Value} {te : TI} {s x : Operand} {l r : List α} {enc : α → List Tree} {k : List α → Option ρ}
    (ho : o.op = .call ⟨.builtin .append, #[s, x], #[t, t]⟩) (hd : o.dst = some d) (hdn : Nat.blt d X.nt = true) (hg : guardT all.toList tm o.guard = some true)
    (hty : look X.tab t = some ⟨s0, .slice e, z0⟩) (hte : look X.tab e = some te) (hz : te.zero.length = te.size) (henc : ∀ y, (enc y).length = te.size) (hone : ∀ y, (enc y).all oneTree = true)
    (hs : (val tm s = some (.own id) ∧ look hp id = some (.rows e te.size n (l.map enc))) ∨ (val tm s = some (.t (.v (.slice none 0 0))) ∧ l = []))
    (hx : val tm x = some (.t (.sl m (r.map enc))) ∨ ∃ i2, val tm x = some (.own i2) ∧ look hp i2 = some (.rows e' te.size m (r.map enc)))
    (hsub : Sub ⟨tm', hp'⟩ ⟨tm, hp⟩) (hbig : Nat.blt id big = true) (hft : freshT id tm' = true) (hfb : freshB id hp' = true)
    (h : ∀ y, TieO X all rest ks ⟨(d, .own id) :: tm', (id, .rows e te.size y.length (y.map enc)) :: hp'⟩ (k y) Q) :
    TieO X all (o :: rest) ks ⟨tm, hp⟩ ((appendM l r).bind k) Q :=
  TieO.append ho hd hdn hg hty hte hz henc hone hs hx hsub hbig hft hfb (h (l ++ r))

theorem Sim.nilO {w0 : World} {L : Lim} {nt : Nat} {a : Act} {w : World} {k id e sz : Nat} (hk : look tm k = some (.t (.v (.slice none 0 0)))) (hbig : Nat.blt id big = true) (hft : freshT id tm = true) (hfb : freshB id hp = true)
    (h : Sim w0 L nt ⟨tm, hp⟩ a w) : Sim w0 L nt ⟨(k, .own id) :: tm, (id, .rows e sz 0 []) :: hp⟩ a w := by
  obtain ⟨S, E, h⟩ := h
  obtain ⟨E', hE, hok⟩ := h.regrow (v := .slice none 0 0) (v' := .slice none 0 0) (b := .rows e sz 0 []) hbig hft hfb (fun β hβ => by simp [blkOf] at hβ) (fun i blk β _ h1 => by simp [blkOf] at h1)
    (Keep.refl _ w) (fun β hβ => by simp [blkOf] at hβ) (fun E' => ⟨rfl, .inl ⟨rfl, rfl⟩⟩)
  have hv := (hok.tm k _ hk).tv
  exact ⟨S, E', { hok with
    tm := fun j t' ht => by
      simp only [look] at ht
      by_cases hj : k = j
      · subst hj
        simp only [Nat.beq_refl, cond_true, Option.some.injEq] at ht
        subst ht
        exact .own id _ (by rw [hE]; exact hv.symm)
      · simp only [beq_ne hj, cond_false] at ht
        exact hok.tm j t' ht }⟩

theorem TieX.nilO {e' : Exit} (k id e sz : Nat) (hk : look tm k = some (.t (.v (.slice none 0 0)))) (hbig : Nat.blt id big = true) (hft : freshT id tm = true) (hfb : freshB id hp = true)
    (h : TieX X ks e' ⟨(k, .own id) :: tm, (id, .rows e sz 0 []) :: hp⟩ m Q) : TieX X ks e' ⟨tm, hp⟩ m Q := fun r hr a w hw => h r hr a w (hw.nilO hk hbig hft hfb)
end
end Go.Pv
namespace Go.Pv
open Go.RowKit

def splc {α : Type} (l : List α) (o : Nat) (c : List α) : List α := l.take o ++ c ++ l.drop (o + c.length)

theorem splc_length {α : Type} (l : List α) (o : Nat) (c : List α) (h : o + c.length ≤ l.length) : (splc l o c).length = l.length := by
  simp [splc]; omega

theorem splc_get {α : Type} (l : List α) (o : Nat) (c : List α) (h : o + c.length ≤ l.length) (p : Nat) : (splc l o c)[p]? = if p < o then l[p]? else if p < o + c.length then c[p - o]? else l[p]? := by
  unfold splc
  have e1 : min o l.length = o := by omega
  by_cases h1 : p < o
  · rw [if_pos h1, List.append_assoc, List.getElem?_append_left (by simp; omega), List.getElem?_take, if_pos h1]
  · rw [if_neg h1]
    by_cases h2 : p < o + c.length
    · rw [if_pos h2, List.getElem?_append_left (by simp; omega), List.getElem?_append_right (by simp; omega)]
      simp only [List.length_take, e1]
    · rw [if_neg h2, List.getElem?_append_right (by simp; omega), List.getElem?_drop]
      congr 1
      simp only [List.length_append, List.length_take, e1]
      omega

section
variable {P : Program} {w0 : World} {L : Lim} {nt : Nat} {σ : St} {S : Nat → Prop} {E : Nat → Value} {a : Act} {w : World}

theorem RV.rt {v : Value} {y : Tree} (h : RV w S E v (.t y)) : RT w S v y := by cases h with | t h => exact h

theorem store_own (hok : Ok w0 L nt σ S E a w) {t : Nat} {ti : TI} (hti : TIok P t ti) {id i sz off e n : Nat} {rs : List (List Tree)} {row lt : List Tree} {x : T} {v pv : Value}
    (hb : look σ.hp id = some (.rows e sz n rs)) (hp : RV w S E pv (.pe id i sz off)) (hi : rs[i]? = some row) (hv : RV w S E v x) (hx : cellsT σ.hp x = some (lt.map .t)) (hs : lt.length = ti.size) (hle : off + lt.length ≤ sz) :
    ∃ w', (Instr.storeAt t pv v).run P w = .ok () w' ∧ Ok w0 L nt ⟨σ.tm, hput σ.hp id (.rows e sz n (rs.set i (splc row off lt)))⟩ S E a w' := by
  obtain ⟨vs, hvs, hl, hr, h1⟩ := hok.cells hv hx
  obtain ⟨hn, hrow⟩ := hok.hp id _ hb
  obtain ⟨hil, hirow⟩ := List.getElem?_eq_some_iff.1 hi
  have hvl : vs.length = lt.length := by simpa using hl
  rcases hrow with ⟨_, hr0⟩ | ⟨β, cap, cs, hcm, hE, hh, hcl, hcc, hsz, hcr⟩
  · subst hr0; simp at hil
  · cases hp with
    | pe _ _ _ _ β' n' cap' hE' =>
      rw [hE] at hE'
      cases hE'
      have hrl : row.length = sz := by rw [← hirow]; exact hsz _ (List.getElem_mem hil)
      have hfit : i * sz + off + vs.length ≤ cs.length := by
        have h2 : (i + 1) * sz ≤ cap * sz := Nat.mul_le_mul_right _ (by omega)
        rw [Nat.succ_mul] at h2
        omega
      have hst : (Instr.storeAt t (.pointer (some ⟨β, i * sz + off, none⟩)) v).run P w = .ok () (w.setRow β (splc cs (i * sz + off) vs).toArray) := by
        have := run_storeCells_at (P := P) β (i * sz + off) e vs 0 cs.toArray w hh (by simp; omega) h1
        have hl2 : vs.length = ti.size := by omega
        simp only [Instr.storeAt, Instr.sureAddr, Sem.run_bind, Sem.run_pure, Result.andThen_ok, storeVar, hti.run_size, hvs]
        simpa [splc, hl2] using this
      refine ⟨_, hst, hok.setRow hb (by rw [hE]; rfl) hh fun hS hnew => ⟨by rw [List.length_set]; exact hn, .inr ⟨β, cap, splc cs (i * sz + off) vs, hcm, by rw [List.length_set]; exact hE, hnew, by rw [splc_length _ _ _ hfit]; exact hcl, by rw [List.length_set]; exact hcc, ?_, ?_⟩⟩⟩
      · intro r hr'
        obtain ⟨j, hj, rfl⟩ := List.mem_iff_getElem.1 hr'
        rw [List.length_set] at hj
        rw [List.getElem_set]
        split
        · rw [splc_length _ _ _ (by omega)]; exact hrl
        · exact hsz _ (List.getElem_mem hj)
      · intro i' j hi' hj hb'
        have hi2 : i' < rs.length := by rw [List.length_set] at hi'; exact hi'
        have hg := splc_get cs (i * sz + off) vs hfit (i' * sz + j)
        rw [List.getElem?_eq_getElem hb'] at hg
        have old : ∀ (hne : i' ≠ i ∨ j < off ∨ off + vs.length ≤ j), (i' = i → (splc row off lt)[j]? = row[j]?) → RT (w.setRow β (splc cs (i * sz + off) vs).toArray) S ((splc cs (i * sz + off) vs)[i' * sz + j]) (((rs.set i (splc row off lt))[i']'(by rw [List.length_set]; exact hi2))[j]) := by
          intro hne hsame
          have hjr : ((rs.set i (splc row off lt))[i']'(by rw [List.length_set]; exact hi2)).length = sz := by
            rw [List.getElem_set]
            split
            · rw [splc_length _ _ _ (by omega)]; exact hrl
            · exact hsz _ (List.getElem_mem hi2)
          have hjs : j < sz := by rw [hjr] at hj; exact hj
          have hrange : i' * sz + j < i * sz + off ∨ i * sz + off + vs.length ≤ i' * sz + j := by
            rcases Nat.lt_trichotomy i' i with h2 | h2 | h2
            · left
              have : (i' + 1) * sz ≤ i * sz := Nat.mul_le_mul_right _ h2
              rw [Nat.succ_mul] at this; omega
            · subst h2
              rcases hne with h3 | h3 | h3
              · exact absurd rfl h3
              · left; omega
              · right; omega
            · right
              have : (i + 1) * sz ≤ i' * sz := Nat.mul_le_mul_right _ h2
              rw [Nat.succ_mul] at this; omega
          have e1 : some ((splc cs (i * sz + off) vs)[i' * sz + j]) = cs[i' * sz + j]? := by
            rw [hg]
            rcases hrange with h2 | h2
            · rw [if_pos h2]
            · rw [if_neg (by omega), if_neg (by omega)]
          obtain ⟨hlt, e1⟩ := List.getElem?_eq_some_iff.1 e1.symm
          have hj2 : j < (rs[i']).length := by rw [hsz _ (List.getElem_mem hi2)]; exact hjs
          have e2 : ((rs.set i (splc row off lt))[i']'(by rw [List.length_set]; exact hi2))[j] = (rs[i'])[j] := by
            apply Option.some.inj
            rw [← List.getElem?_eq_getElem, ← List.getElem?_eq_getElem, List.getElem_set]
            split
            · rename_i h3
              subst h3
              rw [hsame rfl, ← hirow]
            · rfl
          rw [← e1, e2]
          exact (hcr i' j hi2 hj2 hlt).mono (fun _ x => x) hS
        by_cases hii : i' = i
        · subst hii
          have hsg := splc_get row off lt (by omega) j
          by_cases c1 : j < off
          · exact old (.inr (.inl c1)) (fun _ => by rw [hsg, if_pos c1])
          · by_cases c2 : j < off + lt.length
            · have hjv : j - off < vs.length := by omega
              have e1 : (splc cs (i' * sz + off) vs)[i' * sz + j] = vs[j - off] := by
                apply Option.some.inj
                rw [hg, if_neg (by omega), if_pos (by omega), show i' * sz + j - (i' * sz + off) = j - off by omega, List.getElem?_eq_getElem hjv]
              have e2 : ((rs.set i' (splc row off lt))[i']'(by rw [List.length_set]; exact hi2))[j] = lt[j - off] := by
                apply Option.some.inj
                rw [← List.getElem?_eq_getElem, List.getElem_set_self, hsg, if_neg c1, if_pos c2, List.getElem?_eq_getElem (by omega)]
              rw [e1, e2]
              have := hr (j - off) hjv (by simp; omega)
              rw [List.getElem_map] at this
              exact this.rt.mono (fun _ x => x) hS
            · exact old (.inr (.inr (by omega))) (fun _ => by rw [hsg, if_neg c1, if_neg c2])
        · exact old (.inl hii) (fun h => absurd h hii)

theorem load_own (hok : Ok w0 L nt σ S E a w) {t : Nat} {ti : TI} (hti : TIok P t ti) {id i sz off e n : Nat} {rs : List (List Tree)} {row : List Tree} {pv : Value} {r : T}
    (hb : look σ.hp id = some (.rows e sz n rs)) (hp : RV w S E pv (.pe id i sz off)) (hi : rs[i]? = some row) (hx : takeT ti.desc.isAgg ti.size (row.map .t) off = some r) :
    ∃ v, (Instr.loadAt t pv).run P w = .ok v w ∧ RV w S E v r := by
  obtain ⟨hn, hrow⟩ := hok.hp id _ hb
  obtain ⟨hil, hirow⟩ := List.getElem?_eq_some_iff.1 hi
  rcases hrow with ⟨_, hr0⟩ | ⟨β, cap, cs, hcm, hE, hh, hcl, hcc, hsz, hcr⟩
  · subst hr0; simp at hil
  · cases hp with
    | pe _ _ _ _ β' n' cap' hE' =>
      rw [hE] at hE'
      cases hE'
      have hrl : row.length = sz := by rw [← hirow]; exact hsz _ (List.getElem_mem hil)
      have hfit : i * sz + sz ≤ cs.length := by
        have h2 : (i + 1) * sz ≤ cap * sz := Nat.mul_le_mul_right _ (by omega)
        rw [Nat.succ_mul] at h2
        omega
      refine load_ok (P := P) (b := β) (o := i * sz) (vs := (cs.drop (i * sz)).take sz) hti (l := row.map .t) ?_ ?_ ?_ hx
      · simp; omega
      · intro j h1
        simp only [List.length_take, List.length_drop] at h1
        rw [cell_of_row w β _ _ e _ hh]
        have : i * sz + j < cs.length := by omega
        simp [this]
      · intro j h1 h2
        simp only [List.length_take, List.length_drop] at h1
        have hj : j < sz := by omega
        have := hcr i j hil (by rw [hsz _ (List.getElem_mem hil)]; exact hj) (by omega)
        simp only [List.getElem_take, List.getElem_drop, List.getElem_map]
        simp only [hirow] at this
        exact .t this
end
end Go.Pv
namespace Go.Pv
open Go.RowKit

section
variable {ρ α : Type} {X : Cx} {ks : List K} {tm : List (Nat × T)} {hp : List (Nat × Blk)} {m : Option ρ} {Q : ρ → Exit → St → Prop} {all : Array Oper} {o : Oper} {rest : List Oper}

theorem TieO.loadO {t d id i sz off e n : Nat} {ti : TI} {p : Operand} {l : List α} {enc : α → List Tree} {y : α} {r : T} (hy : l[i]? = some y)
    (ho : o.op = .load t p) (hd : o.dst = some d) (hdn : Nat.blt d X.nt = true) (hg : guardT all.toList tm o.guard = some true) (hp1 : val tm p = some (.pe id i sz off)) (hb : look hp id = some (.rows e sz n (l.map enc)))
    (hti : look X.tab t = some ti) (hr : takeT ti.desc.isAgg ti.size ((enc y).map .t) off = some r) (h : TieO X all rest ks ⟨(d, r) :: tm, hp⟩ m Q) : TieO X all (o :: rest) ks ⟨tm, hp⟩ m Q := by
  have := TieO.one (X := X) (ks := ks) (tm := tm) (hp := hp) (all := all) (o := o) (rest := rest) (Q := Q) (k := fun _ => m) (m₁ := some ()) hd hdn hg (fun _ => r) (fun _ S E a w _ hk => by
    obtain ⟨v, h1, h2⟩ := load_own (P := X.P) hk (X.htab t _ hti) hb (hk.val hp1) (by rw [List.getElem?_map, hy]; rfl) hr
    refine ⟨v, ?_, h2⟩
    unfold execOp
    simp only [ho, Sem.run_bind, h1, Result.andThen_ok, Sem.run_pure]) (fun _ _ => h)
  simpa using this
/-- A store into an element: y becomes y'. -/
theorem TieO.storeO {t id i sz off e n : Nat} {ti : TI} {p x : Operand} {l : List α} {enc : α → List Tree} {y : α} (y' : α) (lt : List Tree) {vx : T} (hy : l[i]? = some y)
    (ho : o.op = .store t p x) (hd : o.dst = none) (hg : guardT all.toList tm o.guard = some true) (hp1 : val tm p = some (.pe id i sz off)) (hb : look hp id = some (.rows e sz n (l.map enc)))
    (hti : look X.tab t = some ti) (hx : val tm x = some vx) (hc : cellsT hp vx = some (lt.map .t)) (hs : lt.length = ti.size) (hle : Nat.ble (off + lt.length) sz = true) (henc : enc y' = splc (enc y) off lt)
    (h : TieO X all rest ks ⟨tm, hput hp id (.rows e sz (l.set i y').length ((l.set i y').map enc))⟩ m Q) : TieO X all (o :: rest) ks ⟨tm, hp⟩ m Q := fun r hr a w ⟨S, E, hk⟩ => by
  have hrow : (l.map enc)[i]? = some (enc y) := by rw [List.getElem?_map, hy]; rfl
  obtain ⟨w', h1, h2⟩ := store_own (P := X.P) hk (X.htab t _ hti) hb (hk.val hp1) hrow (hk.val hx) hc hs (Nat.le_of_ble_eq_true hle)
  have hn : n = l.length := by have := (hk.hp id _ hb).1; simpa using this
  refine wpList_step fun K hK => ?_
  rw [guardT_ok hk hg, if_pos rfl]
  unfold Oper.wp
  have hexec : (execOp a.eval o).run X.P w = .ok .skip w' := by
    unfold execOp
    simp only [ho, Sem.run_bind, h1, Result.andThen_ok, Sem.run_pure]
  rw [hexec]
  refine hK _ _ (h r hr _ _ ⟨S, E, ?_⟩)
  rw [hd, List.map_set, henc, List.length_set, ← hn]
  exact h2
end
end Go.Pv
namespace Go.Pv
open Go.RowKit

mutual
/-- The same content under other names. -/
def renT (h : List (Nat × Nat)) : T → Option T
  | .t x => some (.t x)
  | .el c => some (.el c)
  | .fz n c => some (.fz n c)
  | .any => some .any
  | .ptr id off => match look h id with | some i => some (.ptr i off) | none => none
  | .own id => match look h id with | some i => some (.own i) | none => none
  | .pe id i sz off => match look h id with | some j => some (.pe j i sz off) | none => none
  | .vw id lo n sz => match look h id with | some j => some (.vw j lo n sz) | none => none
  | .agg l => match renL h l with | some r => some (.agg r) | none => none
  | .tup l => match renL h l with | some r => some (.tup r) | none => none
  | .clo f l => match renL h l with | some r => some (.clo f r) | none => none
def renL (h : List (Nat × Nat)) : List T → Option (List T)
  | [] => some []
  | x :: r => match renT h x, renL h r with | some y, some l => some (y :: l) | _, _ => none
end

def renB (h : List (Nat × Nat)) : Blk → Option Blk
  | .box l => match renL h l with | some r => some (.box r) | none => none
  | .rows e sz n rs => some (.rows e sz n rs)

section
variable {w : World} {S : Nat → Prop} {E E' : Nat → Value} {h : List (Nat × Nat)}

mutual
theorem renT_ok (hE : ∀ i j, look h i = some j → E' j = E i) : ∀ {t u : T} {v : Value}, RV w S E v t → renT h t = some u → RV w S E' v u
  | .t x, u, v, hv, hr => by simp only [renT, Option.some.injEq] at hr; subst hr; exact hv.mono (fun _ x => x) (fun _ _ => rfl) (fun id hid => by simp [names] at hid)
  | .el c, u, v, hv, hr => by simp only [renT, Option.some.injEq] at hr; subst hr; exact hv.mono (fun _ x => x) (fun _ _ => rfl) (fun id hid => by simp [names] at hid)
  | .fz n c, u, v, hv, hr => by simp only [renT, Option.some.injEq] at hr; subst hr; exact hv.mono (fun _ x => x) (fun _ _ => rfl) (fun id hid => by simp [names] at hid)
  | .any, u, v, hv, hr => by simp only [renT, Option.some.injEq] at hr; subst hr; exact .any v
  | .ptr id off, u, v, hv, hr => by
    simp only [renT] at hr
    split at hr <;> try (cases hr; done)
    rename_i i hi
    simp only [Option.some.injEq] at hr; subst hr
    cases hv with | ptr _ _ β hb => exact .ptr i off β (by rw [hE id i hi]; exact hb)
  | .own id, u, v, hv, hr => by
    simp only [renT] at hr
    split at hr <;> try (cases hr; done)
    rename_i i hi
    simp only [Option.some.injEq] at hr; subst hr
    cases hv with | own _ _ hb => exact .own i v (by rw [hE id i hi]; exact hb)
  | .pe id k sz off, u, v, hv, hr => by
    simp only [renT] at hr
    split at hr <;> try (cases hr; done)
    rename_i i hi
    simp only [Option.some.injEq] at hr; subst hr
    cases hv with | pe _ _ _ _ β n cap hb => exact .pe i k sz off β n cap (by rw [hE id i hi]; exact hb)
  | .vw id lo n sz, u, v, hv, hr => by
    simp only [renT] at hr
    split at hr <;> try (cases hr; done)
    rename_i i hi
    simp only [Option.some.injEq] at hr; subst hr
    cases hv with | vw _ _ _ _ c a hb => exact .vw i lo n sz c a (by rw [hE id i hi]; exact hb)
  | .agg l, u, v, hv, hr => by
    simp only [renT] at hr
    split at hr <;> try (cases hr; done)
    rename_i r hl
    simp only [Option.some.injEq] at hr; subst hr
    cases hv with | agg vs _ hlen hrr => have := renL_ok hE ⟨hlen, hrr⟩ hl; exact .agg vs r this.1 this.2
  | .tup l, u, v, hv, hr => by
    simp only [renT] at hr
    split at hr <;> try (cases hr; done)
    rename_i r hl
    simp only [Option.some.injEq] at hr; subst hr
    cases hv with | tup vs _ hlen hrr => have := renL_ok hE ⟨hlen, hrr⟩ hl; exact .tup vs r this.1 this.2
  | .clo f l, u, v, hv, hr => by
    simp only [renT] at hr
    split at hr <;> try (cases hr; done)
    rename_i r hl
    simp only [Option.some.injEq] at hr; subst hr
    cases hv with | clo _ vs _ hlen hrr => have := renL_ok hE ⟨hlen, hrr⟩ hl; exact .clo f vs r this.1 this.2
theorem renL_ok (hE : ∀ i j, look h i = some j → E' j = E i) : ∀ {l r : List T} {vs : List Value}, RVL w S E vs l → renL h l = some r → RVL w S E' vs r
  | [], r, vs, hv, hr => by simp only [renL, Option.some.injEq] at hr; subst hr; exact ⟨hv.1, fun j _ h2 => by simp at h2⟩
  | x :: l, r, vs, hv, hr => by
    simp only [renL] at hr
    split at hr <;> try (cases hr; done)
    rename_i y l' hy hl'
    simp only [Option.some.injEq] at hr; subst hr
    cases vs with
    | nil => have := hv.1; simp at this
    | cons v vs =>
      have h1 := renT_ok hE (t := x) (hv.2 0 (by simp) (by simp)) hy
      have h2 := renL_ok hE (l := l) (vs := vs) ⟨by simpa using hv.1, fun j a b => hv.2 (j + 1) (by simpa using a) (by simpa using b)⟩ hl'
      refine ⟨by simp [h2.1], fun j a b => ?_⟩
      cases j with
      | zero => exact h1
      | succ j => exact h2.2 j (by simpa using a) (by simpa using b)
end

mutual
/-- The other way. -/
theorem unrenT_ok (hE : ∀ i j, look h i = some j → E' j = E i) : ∀ {t u : T} {v : Value}, RV w S E' v u → renT h t = some u → RV w S E v t
  | .t x, u, v, hv, hr => by simp only [renT, Option.some.injEq] at hr; subst hr; exact hv.mono (fun _ x => x) (fun _ _ => rfl) (fun id hid => by simp [names] at hid)
  | .el c, u, v, hv, hr => by simp only [renT, Option.some.injEq] at hr; subst hr; exact hv.mono (fun _ x => x) (fun _ _ => rfl) (fun id hid => by simp [names] at hid)
  | .fz n c, u, v, hv, hr => by simp only [renT, Option.some.injEq] at hr; subst hr; exact hv.mono (fun _ x => x) (fun _ _ => rfl) (fun id hid => by simp [names] at hid)
  | .any, u, v, hv, hr => .any v
  | .ptr id off, u, v, hv, hr => by
    simp only [renT] at hr
    split at hr <;> try (cases hr; done)
    rename_i i hi
    simp only [Option.some.injEq] at hr; subst hr
    cases hv with | ptr _ _ β hb => exact .ptr id off β (by rw [← hE id i hi]; exact hb)
  | .own id, u, v, hv, hr => by
    simp only [renT] at hr
    split at hr <;> try (cases hr; done)
    rename_i i hi
    simp only [Option.some.injEq] at hr; subst hr
    cases hv with | own _ _ hb => exact .own id v (by rw [← hE id i hi]; exact hb)
  | .pe id k sz off, u, v, hv, hr => by
    simp only [renT] at hr
    split at hr <;> try (cases hr; done)
    rename_i i hi
    simp only [Option.some.injEq] at hr; subst hr
    cases hv with | pe _ _ _ _ β n cap hb => exact .pe id k sz off β n cap (by rw [← hE id i hi]; exact hb)
  | .vw id lo n sz, u, v, hv, hr => by
    simp only [renT] at hr
    split at hr <;> try (cases hr; done)
    rename_i i hi
    simp only [Option.some.injEq] at hr; subst hr
    cases hv with | vw _ _ _ _ c a hb => exact .vw id lo n sz c a (by rw [← hE id i hi]; exact hb)
  | .agg l, u, v, hv, hr => by
    simp only [renT] at hr
    split at hr <;> try (cases hr; done)
    rename_i r hl
    simp only [Option.some.injEq] at hr; subst hr
    cases hv with | agg vs _ hlen hrr => have := unrenL_ok hE ⟨hlen, hrr⟩ hl; exact .agg vs l this.1 this.2
  | .tup l, u, v, hv, hr => by
    simp only [renT] at hr
    split at hr <;> try (cases hr; done)
    rename_i r hl
    simp only [Option.some.injEq] at hr; subst hr
    cases hv with | tup vs _ hlen hrr => have := unrenL_ok hE ⟨hlen, hrr⟩ hl; exact .tup vs l this.1 this.2
  | .clo f l, u, v, hv, hr => by
    simp only [renT] at hr
    split at hr <;> try (cases hr; done)
    rename_i r hl
    simp only [Option.some.injEq] at hr; subst hr
    cases hv with | clo _ vs _ hlen hrr => have := unrenL_ok hE ⟨hlen, hrr⟩ hl; exact .clo f vs l this.1 this.2
theorem unrenL_ok (hE : ∀ i j, look h i = some j → E' j = E i) : ∀ {l r : List T} {vs : List Value}, RVL w S E' vs r → renL h l = some r → RVL w S E vs l
  | [], r, vs, hv, hr => by simp only [renL, Option.some.injEq] at hr; subst hr; exact ⟨hv.1, fun j _ h2 => by simp at h2⟩
  | x :: l, r, vs, hv, hr => by
    simp only [renL] at hr
    split at hr <;> try (cases hr; done)
    rename_i y l' hy hl'
    simp only [Option.some.injEq] at hr; subst hr
    cases vs with
    | nil => have := hv.1; simp at this
    | cons v vs =>
      have h1 := unrenT_ok hE (t := x) (hv.2 0 (by simp) (by simp)) hy
      have h2 := unrenL_ok hE (l := l) (vs := vs) ⟨by simpa using hv.1, fun j a b => hv.2 (j + 1) (by simpa using a) (by simpa using b)⟩ hl'
      refine ⟨by simp [h2.1], fun j a b => ?_⟩
      cases j with
      | zero => exact h1
      | succ j => exact h2.2 j (by simpa using a) (by simpa using b)
end

theorem renB_ok (hE : ∀ i j, look h i = some j → E' j = E i) {x : Value} {b c : Blk} (hb : BlkOk w S E x b) (hr : renB h b = some c) : BlkOk w S E' x c := by
  cases b with
  | box l =>
    simp only [renB] at hr
    split at hr <;> try (cases hr; done)
    rename_i r hl
    simp only [Option.some.injEq] at hr; subst hr
    obtain ⟨β, vs, elem, h1, h2, h3, h4, h5⟩ := hb
    have := renL_ok hE (l := l) (vs := vs) ⟨h3, h4⟩ hl
    exact ⟨β, vs, elem, h1, h2, this.1, this.2, h5⟩
  | rows e sz n rs =>
    simp only [renB, Option.some.injEq] at hr; subst hr
    exact hb.mono (fun _ x => x) (fun _ _ => rfl) (fun _ _ => rfl) (fun _ hid => by simp [namesB] at hid)

theorem unrenB_ok (hE : ∀ i j, look h i = some j → E' j = E i) {x : Value} {b c : Blk} (hb : BlkOk w S E' x c) (hr : renB h b = some c) : BlkOk w S E x b := by
  cases b with
  | box l =>
    simp only [renB] at hr
    split at hr <;> try (cases hr; done)
    rename_i r hl
    simp only [Option.some.injEq] at hr; subst hr
    obtain ⟨β, vs, elem, h1, h2, h3, h4, h5⟩ := hb
    have := unrenL_ok hE (l := l) (vs := vs) ⟨h3, h4⟩ hl
    exact ⟨β, vs, elem, h1, h2, this.1, this.2, h5⟩
  | rows e sz n rs =>
    simp only [renB, Option.some.injEq] at hr; subst hr
    exact hb.mono (fun _ x => x) (fun _ _ => rfl) (fun _ _ => rfl) (fun _ hid => by simp [namesB] at hid)
end

/-- Blocks that are somebody's own: each as said, none of them among those that stay, no two the same. -/
structure Owned (w : World) (S : Nat → Prop) (E : Nat → Value) (hp : List (Nat × Blk)) : Prop where
  blk : ∀ id b, look hp id = some b → BlkOk w S E (E id) b
  own : ∀ id b β, look hp id = some b → blkOf (E id) = some β → ¬ S β ∧ β < w.heap.size
  dist : ∀ id id' b b' β, look hp id = some b → look hp id' = some b' → blkOf (E id) = some β → blkOf (E id') = some β → id = id'

def lentOf (hp : List (Nat × Blk)) (E : Nat → Value) (β : Nat) : Prop := ∃ id b, look hp id = some b ∧ blkOf (E id) = some β

/-- A function's contract: it is lent the blocks hp (under names from big on), and hands back what reads as res r, with the blocks hp' r: those that were lent, as they are now, and new ones (under names below big). -/
def TieG {ρ : Type} (P : Program) (n : FuncId) (args : List T) (hp : List (Nat × Blk)) (m : Option ρ) (res : ρ → T) (hp' : ρ → List (Nat × Blk)) : Prop :=
  (∀ vs w, (callFunc n vs).run P w = .ok (.enter n vs) w) ∧
  ∀ r, m = some r → ∀ (w : World) (S : Nat → Prop) (E : Nat → Value) (vs : List Value), (∀ b, S b → b < w.heap.size) → Owned w S E hp → RVL w S E vs args →
    Calls P n vs.toArray w fun e w' => ∃ v S' E', e = .returned v ∧ RV w' S' E' v (res r) ∧ Keep (lentOf hp E) w w' ∧ (∀ b, S' b → b < w'.heap.size) ∧ (∀ b, S' b → S b ∨ lentOf hp E b ∨ w.heap.size ≤ b) ∧
      Owned w' S' E' (hp' r) ∧ (∀ β, lentOf (hp' r) E' β → lentOf hp E β ∨ w.heap.size ≤ β) ∧ (∀ id, big ≤ id → E' id = E id)

theorem TieF.toG {ρ : Type} {P : Program} {n : FuncId} {args : List T} {m : Option ρ} {res : ρ → T} (h : TieF P n args m res) : TieG P n args [] m res (fun _ => []) :=
  ⟨h.1, fun r hr w S E vs hS _ hv => (h.2 r hr w S E vs hS hv).mono fun e w' ⟨v, S', he, hv', hk, h1, h2⟩ =>
    ⟨v, S', E, he, hv', ⟨hk.os, hk.tape, hk.output, hk.size, fun k hk' _ => hk.block k hk' (fun x => x), hk.drawn⟩, h1, fun b hb => (h2 b hb).imp_right .inr,
      ⟨fun id b hb => by simp [look] at hb, fun id b β hb => by simp [look] at hb, fun id id' b b' β hb => by simp [look] at hb⟩, fun β ⟨id, b, hb, _⟩ => by simp [look] at hb, fun _ _ => rfl⟩⟩

/-- Owned blocks as the state of a call that has begun. -/
theorem Owned.ok {w : World} {S : Nat → Prop} {E : Nat → Value} {hp : List (Nat × Blk)} (h : Owned w S E hp) (hS : ∀ b, S b → b < w.heap.size) : Ok w ⟨fun _ => True, fun _ => True, E⟩ 0 ⟨[], hp⟩ S E ⟨#[], []⟩ w where
  keep := Keep.refl _ _
  stab := hS
  base := fun _ _ => .inl trivial
  size := rfl
  defers := rfl
  tm := fun k t ht => by simp [look] at ht
  hp := h.blk
  own := fun id b β hb hβ => ⟨(h.own id b β hb hβ).1, (h.own id b β hb hβ).2, .inr trivial⟩
  dist := h.dist
  pin := fun _ _ => rfl

/-- What is handed back, taken as what stays. -/
theorem TieG.toF {ρ : Type} {P : Program} {n : FuncId} {args : List T} {m : Option ρ} {res res' : ρ → T} {hp' : ρ → List (Nat × Blk)} (h : TieG P n args [] m res hp') (hz : ∀ r, frzT (hp' r) (res r) = some (res' r)) : TieF P n args m res' := by
  refine ⟨h.1, fun r hr w S E vs hS hv => (h.2 r hr w S E vs hS ⟨fun id b hb => by simp [look] at hb, fun id b β hb => by simp [look] at hb, fun id id' b b' β hb => by simp [look] at hb⟩ hv).mono fun e w' ⟨v, S', E', he, hv', hk, h1, h2, hO, h3, _⟩ => ?_⟩
  have nl : ∀ β, ¬ lentOf [] E β := fun β ⟨id, b, hb, _⟩ => by simp [look] at hb
  refine ⟨v, fun b => S' b ∨ ownRows (hp' r) E' b, he, frzT_ok (hO.ok h1) (fun _ x => .inl x) (fun _ x => .inr x) hv' (hz r) E, ⟨hk.os, hk.tape, hk.output, hk.size, fun k hk' _ => hk.block k hk' (nl k), hk.drawn⟩, fun b hb => ?_, fun b hb => ?_⟩
  · rcases hb with hb | ⟨id, _, hl, hβ⟩
    · exact h1 b hb
    · exact (hO.own id _ b hl hβ).2
  · rcases hb with hb | ⟨id, _, hl, hβ⟩
    · rcases h2 b hb with h4 | h4 | h4
      · exact .inl h4
      · exact absurd h4 (nl b)
      · exact .inr h4
    · rcases h3 b ⟨id, _, hl, hβ⟩ with h4 | h4
      · exact absurd h4 (nl b)
      · exact .inr h4
end Go.Pv
namespace Go.Pv
open Go.RowKit

def nodupB : List Nat → Bool
  | [] => true
  | x :: r => !(r.any (Nat.beq x)) && nodupB r

def rev : List (Nat × Nat) → Nat → Option Nat
  | [], _ => none
  | (a, b) :: r, c => bif Nat.beq b c then some a else rev r c

theorem any_beq {l : List Nat} {x : Nat} (h : l.any (Nat.beq x) = false) : x ∉ l := by
  intro hx
  rw [List.any_eq_false] at h
  exact h x hx (Nat.beq_refl x)

theorem look_mem {α : Type} : ∀ {l : List (Nat × α)} {i : Nat} {x : α}, look l i = some x → (i, x) ∈ l
  | [], i, x, h => by simp [look] at h
  | (a, b) :: r, i, x, h => by
    simp only [look] at h
    by_cases hi : a = i
    · subst hi; simp only [Nat.beq_refl, cond_true, Option.some.injEq] at h; subst h; exact List.mem_cons_self ..
    · simp only [beq_ne hi, cond_false] at h; exact List.mem_cons_of_mem _ (look_mem h)

theorem rev_look : ∀ {h : List (Nat × Nat)} {i j : Nat}, nodupB (h.map (·.2)) = true → look h i = some j → rev h j = some i
  | [], i, j, _, hl => by simp [look] at hl
  | (a, b) :: r, i, j, hn, hl => by
    simp only [List.map_cons, nodupB, Bool.and_eq_true, Bool.not_eq_true'] at hn
    simp only [look] at hl
    by_cases hi : a = i
    · subst hi; simp only [Nat.beq_refl, cond_true, Option.some.injEq] at hl; subst hl; simp [rev]
    · simp only [beq_ne hi, cond_false] at hl
      have hne : b ≠ j := fun e => any_beq hn.1 (e ▸ List.mem_map.2 ⟨(i, j), look_mem hl, rfl⟩)
      simp only [rev, beq_ne hne, cond_false]
      exact rev_look hn.2 hl

theorem rev_none : ∀ {h : List (Nat × Nat)} {c : Nat}, c ∉ h.map (·.2) → rev h c = none
  | [], c, _ => rfl
  | (a, b) :: r, c, hc => by
    simp only [List.map_cons, List.mem_cons, not_or] at hc
    simp only [rev, beq_ne (Ne.symm hc.1), cond_false]
    exact rev_none hc.2

theorem rev_mem : ∀ {h : List (Nat × Nat)} {c a : Nat}, rev h c = some a → (a, c) ∈ h
  | [], c, a, hr => by simp [rev] at hr
  | (x, y) :: r, c, a, hr => by
    simp only [rev] at hr
    by_cases hy : y = c
    · subst hy; simp only [Nat.beq_refl, cond_true, Option.some.injEq] at hr; subst hr; exact List.mem_cons_self ..
    · simp only [beq_ne hy, cond_false] at hr; exact List.mem_cons_of_mem _ (rev_mem hr)

theorem look_append {α : Type} : ∀ (l m : List (Nat × α)) (i : Nat), look (l ++ m) i = match look l i with | some x => some x | none => look m i
  | [], m, i => rfl
  | (a, b) :: r, m, i => by
    simp only [List.cons_append, look]
    by_cases hi : a = i
    · subst hi; simp
    · simp only [beq_ne hi, cond_false]; exact look_append r m i

theorem nodup_append : ∀ {l m : List Nat}, nodupB (l ++ m) = true → nodupB l = true ∧ nodupB m = true ∧ ∀ x, x ∈ l → x ∉ m
  | [], m, h => ⟨rfl, h, fun x hx => by simp at hx⟩
  | a :: r, m, h => by
    simp only [List.cons_append, nodupB, Bool.and_eq_true, Bool.not_eq_true', List.any_append, Bool.or_eq_false_iff] at h
    obtain ⟨h1, h2, h3⟩ := nodup_append h.2
    refine ⟨by simp [nodupB, h.1.1, h1], h2, fun x hx => ?_⟩
    rcases List.mem_cons.1 hx with rfl | hx
    · exact any_beq h.1.2
    · exact h3 x hx

def renHp (h : List (Nat × Nat)) : List (Nat × Blk) → Option (List (Nat × Blk))
  | [] => some []
  | (i, b) :: r => match look h i, renB h b, renHp h r with | some j, some c, some l => some ((j, c) :: l) | _, _, _ => none

def renTm (h : List (Nat × Nat)) : List (Nat × T) → Option (List (Nat × T))
  | [] => some []
  | (k, t) :: r => match renT h t, renTm h r with | some u, some l => some ((k, u) :: l) | _, _ => none

theorem renHp_back {h : List (Nat × Nat)} : ∀ {hp hp' : List (Nat × Blk)}, renHp h hp = some hp' → ∀ {c : Nat} {b' : Blk}, look hp' c = some b' → ∃ i b, look hp i = some b ∧ look h i = some c ∧ renB h b = some b'
  | [], hp', hr, c, b', hl => by simp only [renHp, Option.some.injEq] at hr; subst hr; simp [look] at hl
  | (i, b) :: r, hp', hr, c, b', hl => by
    simp only [renHp] at hr
    split at hr <;> try (cases hr; done)
    rename_i j b1 l hj hb hl'
    simp only [Option.some.injEq] at hr; subst hr
    simp only [look] at hl
    by_cases hc : j = c
    · subst hc
      simp only [Nat.beq_refl, cond_true, Option.some.injEq] at hl; subst hl
      exact ⟨i, b, by simp [look], hj, hb⟩
    · simp only [beq_ne hc, cond_false] at hl
      obtain ⟨i', b2, h1, h2, h3⟩ := renHp_back hl' hl
      refine ⟨i', b2, ?_, h2, h3⟩
      have hne : i ≠ i' := by intro e; subst e; rw [hj] at h2; exact hc (Option.some.inj h2)
      simp only [look, beq_ne hne, cond_false]
      exact h1

theorem renHp_fwd {h : List (Nat × Nat)} : ∀ {hp hp' : List (Nat × Blk)}, renHp h hp = some hp' → ∀ {i : Nat} {b : Blk}, look hp i = some b → ∃ j b', look h i = some j ∧ renB h b = some b' ∧ (j, b') ∈ hp'
  | [], hp', hr, i, b, hl => by simp [look] at hl
  | (i0, b0) :: r, hp', hr, i, b, hl => by
    simp only [renHp] at hr
    split at hr <;> try (cases hr; done)
    rename_i j b1 l hj hb hl'
    simp only [Option.some.injEq] at hr; subst hr
    simp only [look] at hl
    by_cases hi : i0 = i
    · subst hi
      simp only [Nat.beq_refl, cond_true, Option.some.injEq] at hl; subst hl
      exact ⟨j, b1, hj, hb, List.mem_cons_self ..⟩
    · simp only [beq_ne hi, cond_false] at hl
      obtain ⟨j', b2, h1, h2, h3⟩ := renHp_fwd hl' hl
      exact ⟨j', b2, h1, h2, List.mem_cons_of_mem _ h3⟩

theorem renTm_back {h : List (Nat × Nat)} : ∀ {tm tm' : List (Nat × T)}, renTm h tm = some tm' → ∀ {k : Nat} {u : T}, look tm' k = some u → ∃ t, look tm k = some t ∧ renT h t = some u
  | [], tm', hr, k, u, hl => by simp only [renTm, Option.some.injEq] at hr; subst hr; simp [look] at hl
  | (k0, t0) :: r, tm', hr, k, u, hl => by
    simp only [renTm] at hr
    split at hr <;> try (cases hr; done)
    rename_i u1 l hu hl'
    simp only [Option.some.injEq] at hr; subst hr
    simp only [look] at hl
    by_cases hk : k0 = k
    · subst hk
      simp only [Nat.beq_refl, cond_true, Option.some.injEq] at hl; subst hl
      exact ⟨t0, by simp [look], hu⟩
    · simp only [beq_ne hk, cond_false] at hl
      obtain ⟨t, h1, h2⟩ := renTm_back hl' hl
      exact ⟨t, by simp only [look, beq_ne hk, cond_false]; exact h1, h2⟩

def renOk (h : List (Nat × Nat)) : Bool := nodupB (h.map (·.2)) && h.all (fun p => Nat.blt p.2 big || Nat.beq p.1 p.2)

/-- A state under other names. -/
theorem Ok.ren {w0 : World} {L : Lim} {nt : Nat} {tm tm' : List (Nat × T)} {hp hp' : List (Nat × Blk)} {S : Nat → Prop} {E : Nat → Value} {a : Act} {w : World} (k : Ok w0 L nt ⟨tm, hp⟩ S E a w) (h : List (Nat × Nat)) (ho : renOk h = true)
    (ht : renTm h tm = some tm') (hh : renHp h hp = some hp') : ∃ E', Ok w0 L nt ⟨tm', hp'⟩ S E' a w := by
  simp only [renOk, Bool.and_eq_true, List.all_eq_true] at ho
  let E' : Nat → Value := fun c => match rev h c with | some s => E s | none => E c
  have hE : ∀ i j, look h i = some j → E' j = E i := fun i j hl => by simp [E', rev_look ho.1 hl]
  refine ⟨E', { keep := k.keep, stab := k.stab, base := k.base, size := k.size, defers := k.defers, tm := fun n u hl => ?_, hp := fun c b hl => ?_, own := fun c b β hl hβ => ?_, dist := fun c c' b b' β hl hl' hβ hβ' => ?_, pin := fun id hid => ?_ }⟩
  · obtain ⟨t, h1, h2⟩ := renTm_back ht hl
    exact renT_ok hE (k.tm n t h1) h2
  · obtain ⟨i, b0, h1, h2, h3⟩ := renHp_back hh hl
    rw [hE i c h2]
    exact renB_ok hE (k.hp i b0 h1) h3
  · obtain ⟨i, b0, h1, h2, h3⟩ := renHp_back hh hl
    rw [hE i c h2] at hβ
    exact k.own i b0 β h1 hβ
  · obtain ⟨i, b0, h1, h2, h3⟩ := renHp_back hh hl
    obtain ⟨i', b0', h1', h2', h3'⟩ := renHp_back hh hl'
    rw [hE i c h2] at hβ
    rw [hE i' c' h2'] at hβ'
    have := k.dist i i' b0 b0' β h1 h1' hβ hβ'
    subst this
    rw [h2] at h2'
    exact Option.some.inj h2'
  · simp only [E']
    split
    · rename_i s hs
      have := ho.2 _ (rev_mem hs)
      simp only [Bool.or_eq_true] at this
      rcases this with h1 | h1
      · have := Nat.le_of_ble_eq_true h1; omega
      · have := Nat.eq_of_beq_eq_true h1; subst this; exact k.pin _ hid
    · exact k.pin id hid

def callA (tm : List (Nat × T)) (o : Oper) : Option (Nat × List T) :=
  match o.op with
  | .call ⟨.value f, args, _⟩ => match val tm f, vals tm args.toList with
    | some (.fz n caps), some l => some (n, l ++ caps.map .el)
    | some (.clo n c), some l => some (n, l ++ c)
    | _, _ => none
  | _ => none

theorem callA_ok {P : Program} {w0 : World} {L : Lim} {nt : Nat} {σ : St} {S : Nat → Prop} {E : Nat → Value} {a : Act} {w : World} (h : Ok w0 L nt σ S E a w) {o : Oper} {n : Nat} {l : List T} (ho : callA σ.tm o = some (n, l)) (hn : ∀ vs w, (callFunc n vs).run P w = .ok (.enter n vs) w) :
    ∃ vs : List Value, (execOp a.eval o).run P w = .ok (.enter n vs.toArray) w ∧ RVL w S E vs l := by
  obtain ⟨dst, op, type, pos, aft, guard⟩ := o
  unfold callA at ho
  split at ho <;> try (cases ho; done)
  rename_i f args tys hop
  simp only at hop
  subst hop
  have fin : ∀ (ps : List Value) (caps : List T) (l' : List T), a.eval f = .func (.func n) #[] ps.toArray → RVL w S E ps caps → vals σ.tm args.toList = some l' → l = l' ++ caps →
      ∃ vs : List Value, (execOp a.eval ⟨dst, .call ⟨.value f, args, tys⟩, type, pos, aft, guard⟩).run P w = .ok (.enter n vs.toArray) w ∧ RVL w S E vs l := by
    intro ps caps l' hx hps hl e
    subst e
    refine ⟨args.toList.map a.eval ++ ps, ?_, (vals_ok h _ _ hl).append hps⟩
    have : (args.map a.eval) = (args.toList.map a.eval).toArray := Array.ext' (by simp)
    simp only [execOp, resolve, Sem.run_bind, hx, Deferred.ofValue, Sem.run_pure, Result.andThen_ok, invoke]
    rw [hn]
    simp [this]
  split at ho <;> try (cases ho; done)
  · rename_i n' caps' l' hf hl
    simp only [Option.some.injEq, Prod.mk.injEq] at ho
    obtain ⟨rfl, rfl⟩ := ho
    have hfv := h.val hf
    generalize hx : a.eval f = x at hfv
    cases hfv with
    | fz _ ps _ hpl hp =>
      exact fin ps (caps'.map .el) l' hx ⟨by simpa using hpl, fun j h1 h2 => by simp only [List.getElem_map]; exact (hp j h1 (by simpa using h2)).rv⟩ hl rfl
  · rename_i n' c l' hf hl
    simp only [Option.some.injEq, Prod.mk.injEq] at ho
    obtain ⟨rfl, rfl⟩ := ho
    have hfv := h.val hf
    generalize hx : a.eval f = x at hfv
    cases hfv with
    | clo _ ps _ hpl hp => exact fin ps c l' hx ⟨hpl, hp⟩ hl rfl

def memB (c : Nat) (l : List (Nat × Nat)) : Bool := l.any fun p => Nat.beq p.2 c

def dropIds (lm : List (Nat × Nat)) : List (Nat × Blk) → List (Nat × Blk)
  | [] => []
  | (i, b) :: r => match memB i lm with | true => dropIds lm r | false => (i, b) :: dropIds lm r

theorem dropIds_look {lm : List (Nat × Nat)} : ∀ {hp : List (Nat × Blk)} {i : Nat} {b : Blk}, look (dropIds lm hp) i = some b → look hp i = some b ∧ i ∉ lm.map (·.2)
  | [], i, b, h => by simp [dropIds, look] at h
  | (j, c) :: r, i, b, h => by
    simp only [dropIds] at h
    cases hm : memB j lm <;> simp only [hm] at h
    · simp only [look] at h
      by_cases hj : j = i
      · subst hj
        simp only [Nat.beq_refl, cond_true, Option.some.injEq] at h; subst h
        refine ⟨by simp [look], fun hx => ?_⟩
        obtain ⟨p, hp, he⟩ := List.mem_map.1 hx
        unfold memB at hm
        rw [List.any_eq_false] at hm
        exact hm p hp (by simp [he])
      · simp only [beq_ne hj, cond_false] at h
        have := dropIds_look h
        exact ⟨by simp only [look, beq_ne hj, cond_false]; exact this.1, this.2⟩
    · have := dropIds_look h
      refine ⟨?_, this.2⟩
      by_cases hj : j = i
      · subst hj
        exfalso
        unfold memB at hm
        rw [List.any_eq_true] at hm
        obtain ⟨p, hp, he⟩ := hm
        exact this.2 (List.mem_map.2 ⟨p, hp, Nat.eq_of_beq_eq_true he⟩)
      · simp only [look, beq_ne hj, cond_false]; exact this.1

def mapsOk (lm nm : List (Nat × Nat)) (tm : List (Nat × T)) (hp : List (Nat × Blk)) : Bool :=
  nodupB ((lm ++ nm).map (·.2)) && lm.all (fun p => Nat.ble big p.1) && nm.all (fun p => Nat.blt p.2 big && freshT p.2 tm && freshB p.2 hp)

/-- What a call leaves behind. -/
theorem Ok.called {w0 : World} {L : Lim} {nt : Nat} {tm : List (Nat × T)} {hp chp chp' rchp rhp : List (Nat × Blk)} {S S' : Nat → Prop} {E E' : Nat → Value} {a : Act} {w w' : World} (k : Ok w0 L nt ⟨tm, hp⟩ S E a w) {lm nm : List (Nat × Nat)} {v : Value} {t u : T}
    (hm : mapsOk lm nm tm hp = true) (hr : renHp lm chp = some rchp) (hsub : rchp.map (look3 hp) = rchp.map (fun p => some p.2)) {Ec : Nat → Value} (hEc : ∀ i j, look lm i = some j → Ec i = E j)
    (hv : RV w' S' E' v t) (hkeep : Keep (lentOf chp Ec) w w') (h1 : ∀ b, S' b → b < w'.heap.size) (h2 : ∀ b, S' b → S b ∨ lentOf chp Ec b ∨ w.heap.size ≤ b)
    (hO : Owned w' S' E' chp') (h3 : ∀ β, lentOf chp' E' β → lentOf chp Ec β ∨ w.heap.size ≤ β) (h4 : ∀ id, big ≤ id → E' id = Ec id)
    (hres : renT (lm ++ nm) t = some u) (hrhp : renHp (lm ++ nm) chp' = some rhp) :
    ∃ S2 E2, Ok w0 L nt ⟨tm, rhp ++ dropIds lm hp⟩ S2 E2 a w' ∧ RV w' S2 E2 v u := by
  simp only [mapsOk, Bool.and_eq_true, List.all_eq_true] at hm
  obtain ⟨⟨hnd, hbig⟩, hfr⟩ := hm
  rw [List.map_append] at hnd
  obtain ⟨nd1, nd2, ndx⟩ := nodup_append hnd
  have hmem : ∀ p ∈ rchp, ∃ b', look hp p.1 = some b' ∧ mrgB b' p.2 = p.2 := by
    intro p hp'
    obtain ⟨n, hn, rfl⟩ := List.mem_iff_getElem.1 hp'
    have : (rchp.map (look3 hp))[n]? = (rchp.map (fun p => some p.2))[n]? := by rw [hsub]
    rw [List.getElem?_map, List.getElem?_map, List.getElem?_eq_getElem hn] at this
    simp only [Option.map_some, Option.some.injEq] at this
    unfold look3 at this
    split at this
    · rename_i b' hb'; exact ⟨b', hb', Option.some.inj this⟩
    · cases this
  -- who is lent
  have lent : ∀ β, lentOf chp Ec β → ∃ i j b', look lm i = some j ∧ look hp j = some b' ∧ blkOf (E j) = some β := by
    rintro β ⟨i, b, hb, hβ⟩
    obtain ⟨j, b', e1, e2, e3⟩ := renHp_fwd hr hb
    obtain ⟨b0, e4, _⟩ := hmem _ e3
    exact ⟨i, j, b0, e1, e4, by rw [← hEc i j e1]; exact hβ⟩
  have lentOwn : ∀ β, lentOf chp Ec β → ¬ S β ∧ β < w.heap.size ∧ (w0.heap.size ≤ β ∨ L.lent β) := fun β hl => by
    obtain ⟨i, j, b', _, e2, e3⟩ := lent β hl
    exact k.own j b' β e2 e3
  have tgt : ∀ {i j : Nat}, look lm i = some j → j ∈ lm.map (·.2) := fun h => List.mem_map.2 ⟨_, look_mem h, rfl⟩
  have hS : ∀ b, S b → w'.heap[b]? = w.heap[b]? := fun b hb => hkeep.block b (k.stab b hb) (fun hl => (lentOwn b hl).1 hb)
  have hsz := hkeep.size
  have hsz0 := k.keep.size
  let E2 : Nat → Value := fun c => match rev nm c with | some s => E' s | none => E c
  have e2none : ∀ c, c ∉ nm.map (·.2) → E2 c = E c := fun c hc => by simp [E2, rev_none hc]
  have freshTm : ∀ c, c ∈ nm.map (·.2) → c < big ∧ freshT c tm = true ∧ freshB c hp = true := fun c hc => by
    obtain ⟨p, hp', rfl⟩ := List.mem_map.1 hc
    obtain ⟨⟨f1, f2⟩, f3⟩ := by simpa using hfr p hp'
    exact ⟨by simpa using f1, f2, f3⟩
  have hE2 : ∀ i j, look (lm ++ nm) i = some j → E2 j = E' i := by
    intro i j hl
    rw [look_append] at hl
    cases hli : look lm i with
    | some j' =>
      simp only [hli, Option.some.injEq] at hl
      subst hl
      rw [e2none j' (ndx j' (tgt hli)), h4 i (Nat.le_of_ble_eq_true (hbig _ (look_mem hli))), hEc i j' hli]
    | none =>
      simp only [hli] at hl
      simp [E2, rev_look nd2 hl]
  refine ⟨fun b => S b ∨ S' b, E2, ?_, (renT_ok hE2 hv hres).mono (fun _ x => .inr x) (fun _ _ => rfl) (fun _ _ => rfl)⟩
  have nameTm : ∀ n x, look tm n = some x → ∀ id, names id x = true → E2 id = E id := fun n x hx id hid => e2none id fun hc => by
    have := freshT_look (freshTm id hc).2.1 n x hx; rw [this] at hid; cases hid
  have fromA : ∀ {c b}, look rhp c = some b → ∃ i b0, look chp' i = some b0 ∧ look (lm ++ nm) i = some c ∧ renB (lm ++ nm) b0 = some b := fun h => renHp_back hrhp h
  have fromB : ∀ {c b}, look (dropIds lm hp) c = some b → look hp c = some b ∧ c ∉ lm.map (·.2) ∧ E2 c = E c := fun {c b} h => by
    have := dropIds_look h
    exact ⟨this.1, this.2, e2none c fun hc => (freshB_look (freshTm c hc).2.2 c b this.1).1 rfl⟩
  have blkA : ∀ {c b β}, look rhp c = some b → blkOf (E2 c) = some β → lentOf chp' E' β ∧ ¬ S' β ∧ β < w'.heap.size := fun {c b β} h hβ => by
    obtain ⟨i, b0, e1, e2, e3⟩ := fromA h
    rw [hE2 i c e2] at hβ
    exact ⟨⟨i, b0, e1, hβ⟩, hO.own i b0 β e1 hβ⟩
  have notLent : ∀ {c b β}, look hp c = some b → c ∉ lm.map (·.2) → blkOf (E c) = some β → ¬ lentOf chp Ec β := fun {c b β} h hc hβ hl => by
    obtain ⟨i, j, b', e1, e2, e3⟩ := lent β hl
    have := k.dist c j b b' β h e2 hβ e3
    subst this
    exact hc (tgt e1)
  exact {
    keep := k.keep.trans hkeep (fun x hx => (lentOwn x hx).2.2.symm)
    stab := fun b hb => hb.elim (fun h => Nat.lt_of_lt_of_le (k.stab b h) hsz) (h1 b)
    base := fun b hb => by
      rcases hb with hb | hb
      · exact k.base b hb
      · rcases h2 b hb with h5 | h5 | h5
        · exact k.base b h5
        · exact .inr ((lentOwn b h5).2.2.symm)
        · exact .inr (.inr (Nat.le_trans hsz0 h5))
    size := k.size
    defers := k.defers
    tm := fun n x hx => (k.tm n x hx).mono (fun _ x => .inl x) hS (nameTm n x hx)
    hp := fun c b hl => by
      simp only at hl
      rw [look_append] at hl
      cases hA : look rhp c with
      | some b0 =>
        simp only [hA, Option.some.injEq] at hl
        subst hl
        obtain ⟨i, b1, e1, e2, e3⟩ := fromA hA
        rw [hE2 i c e2]
        exact (renB_ok hE2 (hO.blk i b1 e1) e3).mono (fun _ x => .inr x) (fun _ _ => rfl) (fun _ _ => rfl) (fun _ _ => rfl)
      | none =>
        simp only [hA] at hl
        obtain ⟨e1, e2, e3⟩ := fromB hl
        rw [e3]
        exact (k.hp c b e1).mono (fun _ x => .inl x) hS (fun β hβ => hkeep.block β (k.own c b β e1 hβ).2.1 (notLent e1 e2 hβ)) fun id hid => e2none id fun hc => by
          have := (freshB_look (freshTm id hc).2.2 c b e1).2; rw [this] at hid; cases hid
    own := fun c b β hl hβ => by
      simp only at hl
      rw [look_append] at hl
      cases hA : look rhp c with
      | some b0 =>
        obtain ⟨e1, e2, e3⟩ := blkA hA hβ
        rcases h3 β e1 with h5 | h5
        · exact ⟨fun hx => hx.elim (lentOwn β h5).1 e2, e3, (lentOwn β h5).2.2⟩
        · exact ⟨fun hx => hx.elim (fun h6 => absurd (k.stab β h6) (Nat.not_lt.2 h5)) e2, e3, .inl (Nat.le_trans hsz0 h5)⟩
      | none =>
        simp only [hA] at hl
        obtain ⟨e1, e2, e3⟩ := fromB hl
        rw [e3] at hβ
        have := k.own c b β e1 hβ
        refine ⟨fun hx => hx.elim this.1 fun h6 => ?_, Nat.lt_of_lt_of_le this.2.1 hsz, this.2.2⟩
        rcases h2 β h6 with h7 | h7 | h7
        · exact this.1 h7
        · exact notLent e1 e2 hβ h7
        · exact absurd this.2.1 (Nat.not_lt.2 h7)
    dist := fun c c' b b' β hl hl' hβ hβ' => by
      simp only at hl hl'
      rw [look_append] at hl hl'
      have clash : ∀ {c c' b b'}, look rhp c = some b → look (dropIds lm hp) c' = some b' → blkOf (E2 c) = some β → blkOf (E2 c') = some β → False := fun {c c' b b'} hA hB q1 q2 => by
        obtain ⟨e1, e2, e3⟩ := blkA hA q1
        obtain ⟨f1, f2, f3⟩ := fromB hB
        rw [f3] at q2
        rcases h3 β e1 with h5 | h5
        · exact notLent f1 f2 q2 h5
        · exact absurd (k.own c' b' β f1 q2).2.1 (Nat.not_lt.2 h5)
      cases hA : look rhp c with
      | some b0 =>
        cases hA' : look rhp c' with
        | some b0' =>
          obtain ⟨i, b1, e1, e2, e3⟩ := fromA hA
          obtain ⟨i', b1', e1', e2', e3'⟩ := fromA hA'
          rw [hE2 i c e2] at hβ
          rw [hE2 i' c' e2'] at hβ'
          have := hO.dist i i' b1 b1' β e1 e1' hβ hβ'
          subst this
          rw [e2] at e2'
          exact Option.some.inj e2'
        | none =>
          simp only [hA'] at hl'
          exact (clash hA hl' hβ hβ').elim
      | none =>
        simp only [hA] at hl
        cases hA' : look rhp c' with
        | some b0' => exact (clash hA' hl hβ' hβ).elim
        | none =>
          simp only [hA'] at hl'
          obtain ⟨e1, _, e3⟩ := fromB hl
          obtain ⟨e1', _, e3'⟩ := fromB hl'
          rw [e3] at hβ
          rw [e3'] at hβ'
          exact k.dist c c' b b' β e1 e1' hβ hβ'
    pin := fun id hid => by
      rw [e2none id fun hc => by have := (freshTm id hc).1; omega]
      exact k.pin id hid }

section
variable {ρ τ : Type} {X : Cx} {ks : List K} {tm tm' : List (Nat × T)} {hp hp' : List (Nat × Blk)} {m : Option ρ} {Q : ρ → Exit → St → Prop}

theorem TieX.ren {e' : Exit} (h : List (Nat × Nat)) (ho : renOk h = true) (ht : renTm h tm = some tm') (hh : renHp h hp = some hp') (k : TieX X ks e' ⟨tm', hp'⟩ m Q) : TieX X ks e' ⟨tm, hp⟩ m Q := fun r hr a w ⟨S, E, hw⟩ => by
  obtain ⟨E', h'⟩ := hw.ren h ho ht hh
  exact k r hr a w ⟨S, E', h'⟩

theorem TieO.callG {all : Array Oper} {o : Oper} {rest : List Oper} {n : Nat} {targs targs' cargs : List T} {chp rchp : List (Nat × Blk)} {m₁ : Option τ} {res : τ → T} {chp' : τ → List (Nat × Blk)} {k : τ → Option ρ} (lm nm : List (Nat × Nat))
    {rres : τ → T} {rhp : τ → List (Nat × Blk)} {σ₁ : τ → St} (σ₂ : τ → St) (hc : TieG X.P n cargs chp m₁ res chp')
    (hg : guardT all.toList tm o.guard = some true) (ho : callA tm o = some (n, targs)) (ha : renL lm cargs = some targs') (hmr : mrgL targs targs' = targs')
    (hr : renHp lm chp = some rchp) (hsub : rchp.map (look3 hp) = rchp.map (fun p => some p.2)) (hm : mapsOk lm nm tm hp = true)
    (hres : ∀ t, renT (lm ++ nm) (res t) = some (rres t)) (hrhp : ∀ t, renHp (lm ++ nm) (chp' t) = some (rhp t))
    (hput : ∀ t, putT X.nt o.dst (rres t) ⟨tm, rhp t ++ dropIds lm hp⟩ = some (σ₁ t)) (hs : ∀ t, Sub (σ₂ t) (σ₁ t))
    (h : ∀ t, m₁ = some t → TieO X all rest ks (σ₂ t) (k t) Q) : TieO X all (o :: rest) ks ⟨tm, hp⟩ (m₁.bind k) Q := fun r hr' a w ⟨S, E, hk⟩ => by
  cases hm₁ : m₁ with
  | none => simp [hm₁] at hr'
  | some t =>
    simp only [hm₁, Option.bind_some] at hr'
    obtain ⟨vs, hrun, hv⟩ := callA_ok hk ho hc.1
    let Ec : Nat → Value := fun i => match look lm i with | some j => E j | none => E i
    have hEc : ∀ i j, look lm i = some j → Ec i = E j := fun i j h => by simp [Ec, h]
    have hargs : RVL w S Ec vs cargs := by
      have h1 := mrgL_ok (u := targs') hv
      rw [hmr] at h1
      exact unrenL_ok (fun i j h => (hEc i j h).symm) h1 ha
    have hmem : ∀ p ∈ rchp, ∃ b', look hp p.1 = some b' ∧ mrgB b' p.2 = p.2 := by
      intro p hp'
      obtain ⟨n, hn, rfl⟩ := List.mem_iff_getElem.1 hp'
      have : (rchp.map (look3 hp))[n]? = (rchp.map (fun p => some p.2))[n]? := by rw [hsub]
      rw [List.getElem?_map, List.getElem?_map, List.getElem?_eq_getElem hn] at this
      simp only [Option.map_some, Option.some.injEq] at this
      unfold look3 at this
      split at this
      · rename_i b' hb'; exact ⟨b', hb', Option.some.inj this⟩
      · cases this
    have hO : Owned w S Ec chp := by
      refine ⟨fun i b hb => ?_, fun i b β hb hβ => ?_, fun i i' b b' β hb hb' hβ hβ' => ?_⟩
      · obtain ⟨j, b', e1, e2, e3⟩ := renHp_fwd hr hb
        obtain ⟨b0, e4, e5⟩ := hmem _ e3
        have h1 := mrgB_ok (u := b') (hk.hp j b0 e4)
        rw [show mrgB b0 b' = b' from e5] at h1
        rw [hEc i j e1]
        exact unrenB_ok (fun i j h => (hEc i j h).symm) h1 e2
      · obtain ⟨j, b', e1, e2, e3⟩ := renHp_fwd hr hb
        obtain ⟨b0, e4, e5⟩ := hmem _ e3
        rw [hEc i j e1] at hβ
        have := hk.own j b0 β e4 hβ
        exact ⟨this.1, this.2.1⟩
      · obtain ⟨j, b1, e1, e2, e3⟩ := renHp_fwd hr hb
        obtain ⟨b0, e4, e5⟩ := hmem _ e3
        obtain ⟨j', b1', e1', e2', e3'⟩ := renHp_fwd hr hb'
        obtain ⟨b0', e4', e5'⟩ := hmem _ e3'
        rw [hEc i j e1] at hβ
        rw [hEc i' j' e1'] at hβ'
        have := hk.dist j j' b0 b0' β e4 e4' hβ hβ'
        subst this
        have hm' := hm
        simp only [mapsOk, Bool.and_eq_true] at hm'
        have nd := (nodup_append (by simpa using hm'.1.1)).1
        have r1 := rev_look nd e1
        rw [rev_look nd e1'] at r1
        exact (Option.some.inj r1).symm
    have hcall := hc.2 t hm₁ w S Ec vs hk.stab hO hargs
    refine wpList_step fun K hK => ?_
    rw [guardT_ok hk hg, if_pos rfl]
    unfold Oper.wp
    rw [hrun, Oper.upon_enter]
    refine hcall.mono fun e w' ⟨v, S', E', he, hv', hkeep, h1, h2, hO', h3, h4⟩ => ?_
    subst he
    obtain ⟨S2, E2, hok, hrv⟩ := hk.called hm hr hsub hEc hv' hkeep h1 h2 hO' h3 h4 (hres t) (hrhp t)
    exact hK _ _ (h t hm₁ r hr' _ _ ⟨S2, E2, (putT_ok hok hrv (hput t)).sub (hs t)⟩)
end
end Go.Pv
namespace Go.Pv
open Go.RowKit

theorem look_of_mem {α : Type} : ∀ {h : List (Nat × α)} {a : Nat} {b : α}, nodupB (h.map (·.1)) = true → (a, b) ∈ h → look h a = some b
  | [], a, b, _, hm => by simp at hm
  | (x, y) :: r, a, b, hn, hm => by
    simp only [List.map_cons, nodupB, Bool.and_eq_true, Bool.not_eq_true'] at hn
    rcases List.mem_cons.1 hm with h1 | h1
    · simp only [Prod.mk.injEq] at h1; obtain ⟨rfl, rfl⟩ := h1; simp [look]
    · have hne : x ≠ a := fun e => any_beq hn.1 (e ▸ List.mem_map.2 ⟨(a, b), h1, rfl⟩)
      simp only [look, beq_ne hne, cond_false]
      exact look_of_mem hn.2 h1

/-- What the function hands back, as it stands. -/
def endT (tab : Tab) (σ : St) (l : List ResultVar) : Option T :=
  match resVals tab σ l with
  | some [x] => some x
  | some l => some (.tup l)
  | none => none

theorem endT_ok {P : Program} {tab : Tab} (htab : TabOk P tab) {σ : St} {w0 : World} {L : Lim} {nt : Nat} {S : Nat → Prop} {E : Nat → Value} {a : Act} {w : World} (h : Ok w0 L nt σ S E a w) {fn : Func} {t : T}
    (hr : endT tab σ fn.results.toList = some t) : ∃ v, (results fn a.tmps).run P w = .ok v w ∧ RV w S E v t := by
  unfold endT at hr
  cases hl : resVals tab σ fn.results.toList with
  | none => simp [hl] at hr
  | some l =>
    obtain ⟨vs, h1, h2⟩ := resVals_ok htab h _ _ hl
    have hm : (fn.results.mapM (resOne a.tmps)).run P w = .ok vs.toArray w := by
      rw [Array.mapM_eq_mapM_toList, Sem.run_map, h1]; rfl
    have hrun : (results fn a.tmps).run P w = .ok (if h : vs.toArray.size = 1 then vs.toArray[0] else .tuple vs.toArray) w := by
      show (do let vs ← fn.results.mapM (resOne a.tmps); pure (if h : vs.size = 1 then vs[0] else .tuple vs) : Sem Value).run P w = _
      rw [Sem.run_bind, hm]
      rfl
    refine ⟨_, hrun, ?_⟩
    rw [hl] at hr
    have hlen := h2.1
    match l, hr, hlen with
    | [x], hr, hlen =>
      match vs, hlen, h2 with
      | [v], _, h2 =>
        simp only [Option.some.injEq] at hr
        subst hr
        exact h2.2 0 (Nat.zero_lt_one) (Nat.zero_lt_one)
    | [], hr, hlen =>
      simp only [Option.some.injEq] at hr
      subst hr
      match vs, hlen with
      | [], _ => exact .tup [] [] rfl fun j h1 => by simp at h1
    | x :: y :: l, hr, hlen =>
      simp only [Option.some.injEq] at hr
      subst hr
      have hsz : ¬ vs.toArray.size = 1 := by simp at hlen ⊢; omega
      rw [dif_neg hsz]
      exact .tup vs _ h2.1 h2.2

def endB (nm : List (Nat × Nat)) (hp : List (Nat × Blk)) (p : Nat × Blk) : Option Blk :=
  match rev nm p.1 with
  | some s => match look hp s with
    | some b => match renB nm b with
      | some c => some (mrgB c p.2)
      | none => none
    | none => none
  | none => none

/-- The state at a function's end, under the contract's names nm. -/
def EndG (tab : Tab) (σ : St) (rs : List ResultVar) (t : T) (bl : List (Nat × Blk)) : Prop :=
  ∃ (nm : List (Nat × Nat)) (t0 t1 : T), (renOk nm && nodupB (nm.map (·.1))) = true ∧ endT tab σ rs = some t0 ∧ renT nm t0 = some t1 ∧ mrg t1 t = t ∧ bl.map (endB nm σ.hp) = bl.map (fun p => some p.2)

theorem TieG.intro {τ : Type} {P : Program} {tab : Tab} (htab : TabOk P tab) {n : Nat} {fn : Func} {c : Code} {args : List T} {hp : List (Nat × Blk)} {m : Option τ} {res : τ → T} {hp' : τ → List (Nat × Blk)} (nt : Nat) (rs : List ResultVar)
    (hcall : ∀ vs w, (callFunc n vs).run P w = .ok (.enter n vs) w) (hf : P.funcs[n]? = some fn) (hb : fn.body = some c) (hnt : fn.ntmps = nt) (hrs : fn.results.toList = rs) (hsz : args.length ≤ nt)
    (body : ∀ (w0 : World) (L : Lim), TieS ⟨P, tab, htab, w0, L, nt⟩ [.c c] ⟨number 0 args, hp⟩ m (fun r e σ' => (e = .ret ∨ e = .normal) ∧ EndG tab σ' rs (res r) (hp' r))) : TieG P n args hp m res hp' := by
  refine ⟨hcall, fun r hr w S E vs hS hO hv => ?_⟩
  refine calls_of_wp hf hb ?_
  have h := body w ⟨lentOf hp E, S, E⟩ r hr ⟨vs.toArray ++ Array.replicate (fn.ntmps - vs.toArray.size) undef, []⟩ w ⟨S, E, {
    keep := Keep.refl _ _, stab := hS, base := fun b hb => .inl hb, size := by have := hv.1; simp; omega, defers := rfl,
    tm := fun k t ht => by
      obtain ⟨_, hk⟩ := number_look args 0 k t ht
      simp only [Nat.sub_zero] at hk
      obtain ⟨hlt, rfl⟩ := List.getElem?_eq_some_iff.1 hk
      have hlt' : k < vs.length := by have := hv.1; omega
      have := hv.2 k hlt' hlt
      simpa [Array.getElem?_append, hlt'] using this
    hp := hO.blk
    own := fun id b β hb hβ => ⟨(hO.own id b β hb hβ).1, (hO.own id b β hb hβ).2, .inr ⟨id, b, hb, hβ⟩⟩
    dist := hO.dist
    pin := fun _ _ => rfl }⟩
  refine wp_mono h fun e a' w' ⟨σ', ⟨S', E1, hk⟩, he, nm, t0, t1, hok, ht0, ht1, hmr, hbl⟩ => ?_
  rw [← hrs] at ht0
  obtain ⟨v, hv1, hv2⟩ := endT_ok htab hk ht0
  simp only [Bool.and_eq_true, renOk, List.all_eq_true] at hok
  obtain ⟨⟨hnd, hbg⟩, hkeys⟩ := hok
  let E2 : Nat → Value := fun c => match rev nm c with | some s => E1 s | none => E1 c
  have hE : ∀ i j, look nm i = some j → E2 j = E1 i := fun i j hl => by simp [E2, rev_look hnd hl]
  have hmem : ∀ id b, look (hp' r) id = some b → ∃ s b0 c, rev nm id = some s ∧ look nm s = some id ∧ look σ'.hp s = some b0 ∧ renB nm b0 = some c ∧ mrgB c b = b := by
    intro id b hl
    obtain ⟨n, hn, hx⟩ := List.mem_iff_getElem.1 (look_mem hl)
    have : ((hp' r).map (endB nm σ'.hp))[n]? = ((hp' r).map (fun p => some p.2))[n]? := by rw [hbl]
    rw [List.getElem?_map, List.getElem?_map, List.getElem?_eq_getElem hn, hx] at this
    simp only [Option.map_some, Option.some.injEq] at this
    unfold endB at this
    split at this <;> try (cases this; done)
    rename_i s hs
    split at this <;> try (cases this; done)
    rename_i b0 hb0
    split at this <;> try (cases this; done)
    rename_i c hc
    exact ⟨s, b0, c, hs, look_of_mem hkeys (rev_mem hs), hb0, hc, Option.some.inj this⟩
  have fin : a'.defers = [] ∧ ∃ v, (results fn a'.tmps).run P w' = .ok v w' ∧ ∃ v' S'' E'', Ending.returned v = .returned v' ∧ RV w' S'' E'' v' (res r) ∧ Keep (lentOf hp E) w w' ∧ (∀ b, S'' b → b < w'.heap.size) ∧ (∀ b, S'' b → S b ∨ lentOf hp E b ∨ w.heap.size ≤ b) ∧
      Owned w' S'' E'' (hp' r) ∧ (∀ β, lentOf (hp' r) E'' β → lentOf hp E β ∨ w.heap.size ≤ β) ∧ (∀ id, big ≤ id → E'' id = E id) := by
    refine ⟨hk.defers, v, hv1, v, S', E2, rfl, ?_, hk.keep, hk.stab, fun b hb => hk.base b hb, ⟨fun id b hl => ?_, fun id b β hl hβ => ?_, fun id id' b b' β hl hl' hβ hβ' => ?_⟩, fun β hl => ?_, fun id hid => ?_⟩
    · have := mrg_ok (u := res r) (renT_ok hE hv2 ht1)
      rw [hmr] at this
      exact this
    · obtain ⟨s, b0, c, e1, e2, e3, e4, e5⟩ := hmem id b hl
      have := mrgB_ok (u := b) (renB_ok hE (hk.hp s b0 e3) e4)
      rw [e5] at this
      rw [hE s id e2]
      exact this
    · obtain ⟨s, b0, c, e1, e2, e3, e4, e5⟩ := hmem id b hl
      rw [hE s id e2] at hβ
      have := hk.own s b0 β e3 hβ
      exact ⟨this.1, this.2.1⟩
    · obtain ⟨s, b0, c, e1, e2, e3, e4, e5⟩ := hmem id b hl
      obtain ⟨s', b0', c', e1', e2', e3', e4', e5'⟩ := hmem id' b' hl'
      rw [hE s id e2] at hβ
      rw [hE s' id' e2'] at hβ'
      have := hk.dist s s' b0 b0' β e3 e3' hβ hβ'
      subst this
      rw [e2] at e2'
      exact Option.some.inj e2'
    · obtain ⟨id, b, hl, hβ⟩ := hl
      obtain ⟨s, b0, c, e1, e2, e3, e4, e5⟩ := hmem id b hl
      rw [hE s id e2] at hβ
      exact (hk.own s b0 β e3 hβ).2.2.symm
    · simp only [E2]
      split
      · rename_i s hs
        have := hbg _ (rev_mem hs)
        simp only [Bool.or_eq_true] at this
        rcases this with h1 | h1
        · have := Nat.le_of_ble_eq_true h1; omega
        · have := Nat.eq_of_beq_eq_true h1; subst this; exact hk.pin _ hid
      · exact hk.pin id hid
  rcases he with rfl | rfl <;> exact fin

/-- The nil slice at a place within a slot's content, under a name of its own. -/
def setNil (id : Nat) : List Nat → T → Option T
  | [], .t (.v (.slice none 0 0)) => some (.own id)
  | i :: p, .agg l => match l[i]? with
    | some x => match setNil id p x with
      | some y => some (.agg (l.set i y))
      | none => none
    | none => none
  | i :: p, .tup l => match l[i]? with
    | some x => match setNil id p x with
      | some y => some (.tup (l.set i y))
      | none => none
    | none => none
  | _, _ => none

theorem RVL.set {w : World} {S : Nat → Prop} {E : Nat → Value} {vs : List Value} {l : List T} {i : Nat} {y : T} (h : RVL w S E vs l) (hi : i < vs.length) (hy : RV w S E (vs[i]) y) : RVL w S E vs (l.set i y) := by
  refine ⟨by simp [h.1], fun j h1 h2 => ?_⟩
  rw [List.getElem_set]
  split
  · rename_i e; subst e; exact hy
  · exact h.2 j h1 (by simpa using h2)

theorem setNil_ok {w : World} {S : Nat → Prop} {E : Nat → Value} {id : Nat} (hE : E id = .slice none 0 0) : ∀ {p : List Nat} {t u : T} {v : Value}, RV w S E v t → setNil id p t = some u → RV w S E v u
  | [], t, u, v, hv, hs => by
    unfold setNil at hs
    split at hs <;> try (cases hs; done)
    · simp only [Option.some.injEq] at hs; subst hs
      have := hv.tv
      subst this
      exact .own id _ hE
    · rename_i heq; cases heq
    · rename_i heq; cases heq
  | i :: p, t, u, v, hv, hs => by
    unfold setNil at hs
    split at hs
    · rename_i heq; cases heq
    · rename_i i' p' l heq
      cases heq
      split at hs <;> try (cases hs; done)
      rename_i x hx
      split at hs <;> try (cases hs; done)
      rename_i y hy
      simp only [Option.some.injEq] at hs; subst hs
      obtain ⟨hi, rfl⟩ := List.getElem?_eq_some_iff.1 hx
      cases hv with
      | agg vs _ hl hr =>
        have := RVL.set (w := w) (S := S) (E := E) (vs := vs) (l := l) ⟨hl, hr⟩ (by omega) (setNil_ok hE (hr i (by omega) hi) hy)
        exact .agg vs _ this.1 this.2
    · rename_i i' p' l heq
      cases heq
      split at hs <;> try (cases hs; done)
      rename_i x hx
      split at hs <;> try (cases hs; done)
      rename_i y hy
      simp only [Option.some.injEq] at hs; subst hs
      obtain ⟨hi, rfl⟩ := List.getElem?_eq_some_iff.1 hx
      cases hv with
      | tup vs _ hl hr =>
        have := RVL.set (w := w) (S := S) (E := E) (vs := vs) (l := l) ⟨hl, hr⟩ (by omega) (setNil_ok hE (hr i (by omega) hi) hy)
        exact .tup vs _ this.1 this.2
    · cases hs

theorem Ok.nilP {w0 : World} {L : Lim} {nt : Nat} {tm : List (Nat × T)} {hp : List (Nat × Blk)} {S : Nat → Prop} {E : Nat → Value} {a : Act} {w : World} (h : Ok w0 L nt ⟨tm, hp⟩ S E a w) {id e sz : Nat} (hbig : Nat.blt id big = true) (hft : freshT id tm = true) (hfb : freshB id hp = true) :
    ∃ E', E' id = .slice none 0 0 ∧ Ok w0 L nt ⟨tm, (id, .rows e sz 0 []) :: hp⟩ S E' a w :=
  h.regrow (v := .slice none 0 0) (v' := .slice none 0 0) (b := .rows e sz 0 []) hbig hft hfb (fun β hβ => by simp [blkOf] at hβ) (fun i blk β _ h1 => by simp [blkOf] at h1)
    (Keep.refl _ w) (fun β hβ => by simp [blkOf] at hβ) (fun E' => ⟨rfl, .inl ⟨rfl, rfl⟩⟩)

section
variable {ρ τ : Type} {X : Cx} {ks : List K} {tm tm' : List (Nat × T)} {hp hp' : List (Nat × Blk)} {m : Option ρ} {Q : ρ → Exit → St → Prop}

theorem TieX.nilP {e' : Exit} (k id e sz : Nat) (path : List Nat) {t u : T} (hk : look tm k = some t) (hu : setNil id path t = some u) (hbig : Nat.blt id big = true) (hft : freshT id tm = true) (hfb : freshB id hp = true)
    (h : TieX X ks e' ⟨(k, u) :: tm, (id, .rows e sz 0 []) :: hp⟩ m Q) : TieX X ks e' ⟨tm, hp⟩ m Q := fun r hr a w ⟨S, E, hw⟩ => by
  obtain ⟨E', hE, hok⟩ := hw.nilP (e := e) (sz := sz) hbig hft hfb
  refine h r hr a w ⟨S, E', { hok with tm := fun j t' ht => ?_ }⟩
  simp only [look] at ht
  by_cases hj : k = j
  · subst hj
    simp only [Nat.beq_refl, cond_true, Option.some.injEq] at ht
    subst ht
    exact setNil_ok hE (hok.tm k t hk) hu
  · simp only [beq_ne hj, cond_false] at ht
    exact hok.tm j t' ht

/-- The same within a box. -/
theorem TieX.nilB {e' : Exit} (b id e sz : Nat) (path : List Nat) {ts us : List T} (hk : look hp b = some (.box ts)) (hu : setNil id path (.agg ts) = some (.agg us)) (hbig : Nat.blt id big = true) (hft : freshT id tm = true) (hfb : freshB id hp = true)
    (h : TieX X ks e' ⟨tm, (id, .rows e sz 0 []) :: hput hp b (.box us)⟩ m Q) : TieX X ks e' ⟨tm, hp⟩ m Q := fun r hr a w ⟨S, E, hw⟩ => by
  obtain ⟨E', hE, hok⟩ := hw.nilP (e := e) (sz := sz) hbig hft hfb
  have hne : id ≠ b := fun e => (freshB_look hfb b _ hk).1 e.symm
  have lk : ∀ i blk, look ((id, Blk.rows e sz 0 []) :: hput hp b (.box us)) i = some blk → ∃ blk0, look ((id, Blk.rows e sz 0 []) :: hp) i = some blk0 ∧ (blk = blk0 ∨ (i = b ∧ blk = .box us)) := by
    intro i blk hl
    simp only [look] at hl ⊢
    by_cases hi : id = i
    · subst hi; simp only [Nat.beq_refl, cond_true] at hl ⊢; exact ⟨blk, hl, .inl rfl⟩
    · simp only [beq_ne hi, cond_false] at hl ⊢
      rw [look_hput] at hl
      by_cases hb : b = i
      · subst hb; simp only [if_true, hk, Option.map_some, Option.some.injEq] at hl; exact ⟨_, hk, .inr ⟨rfl, hl.symm⟩⟩
      · simp only [hb, if_false] at hl; exact ⟨blk, hl, .inl rfl⟩
  refine h r hr a w ⟨S, E', { hok with
    hp := fun i blk hl => ?_
    own := fun i blk β hl hβ => by obtain ⟨blk0, h0, _⟩ := lk i blk hl; exact hok.own i blk0 β h0 hβ
    dist := fun i i' blk blk' β hl hl' hβ hβ' => by
      obtain ⟨blk0, h0, _⟩ := lk i blk hl
      obtain ⟨blk0', h0', _⟩ := lk i' blk' hl'
      exact hok.dist i i' blk0 blk0' β h0 h0' hβ hβ' }⟩
  obtain ⟨blk0, h0, h1⟩ := lk i blk hl
  have hb0 := hok.hp i blk0 h0
  rcases h1 with rfl | ⟨rfl, rfl⟩
  · exact hb0
  · have : blk0 = .box ts := by
      simp only [look, beq_ne hne, cond_false] at h0
      rw [hk] at h0; exact (Option.some.inj h0).symm
    subst this
    obtain ⟨β, vs, elem, g1, g2, g3, g4, g5⟩ := hb0
    have := setNil_ok (w := w) (S := S) (p := path) hE (.agg vs ts g3 g4) hu
    generalize hvs : Value.agg vs.toArray = v at this
    cases this with
    | agg vs' _ k1 k2 =>
      simp only [Value.agg.injEq] at hvs
      have : vs = vs' := by simpa using congrArg Array.toList hvs
      subst this
      exact ⟨β, vs, elem, g1, g2, k1, k2, g5⟩
end

mutual
/-- Pointers into the box id, where they stand, point to cells that stay. -/
def elT (id : Nat) (c : List Tree) : T → T
  | .ptr i off => bif Nat.beq i id then .el (c.drop off) else .ptr i off
  | .agg l => .agg (elL id c l)
  | .tup l => .tup (elL id c l)
  | .clo f l => .clo f (elL id c l)
  | x => x
def elL (id : Nat) (c : List Tree) : List T → List T
  | [] => []
  | x :: r => elT id c x :: elL id c r
end

def elTm (id : Nat) (c : List Tree) : List (Nat × T) → List (Nat × T)
  | [] => []
  | (k, x) :: r => (k, elT id c x) :: elTm id c r
def elHp (id : Nat) (c : List Tree) : List (Nat × Blk) → List (Nat × Blk)
  | [] => []
  | (k, .box l) :: r => bif Nat.beq k id then elHp id c r else (k, .box (elL id c l)) :: elHp id c r
  | (k, x) :: r => bif Nat.beq k id then elHp id c r else (k, x) :: elHp id c r

section
variable {w : World} {S S' : Nat → Prop} {E : Nat → Value} {id : Nat} {c : List Tree}

mutual
theorem elT_ok (hS : ∀ b, S b → S' b) (hu : ∀ β off, E id = .pointer (some ⟨β, 0, none⟩) → PF w S' (.pointer (some ⟨β, off, none⟩)) (c.drop off)) : ∀ {t : T} {v : Value}, RV w S E v t → RV w S' E v (elT id c t)
  | .t x, v, h => by simp only [elT]; exact h.mono hS (fun _ _ => rfl) (fun _ _ => rfl)
  | .el c, v, h => by simp only [elT]; exact h.mono hS (fun _ _ => rfl) (fun _ _ => rfl)
  | .own i, v, h => by simp only [elT]; exact h.mono hS (fun _ _ => rfl) (fun _ _ => rfl)
  | .pe i a b c, v, h => by simp only [elT]; exact h.mono hS (fun _ _ => rfl) (fun _ _ => rfl)
  | .vw i a b c, v, h => by simp only [elT]; exact h.mono hS (fun _ _ => rfl) (fun _ _ => rfl)
  | .fz n c, v, h => by simp only [elT]; exact h.mono hS (fun _ _ => rfl) (fun _ _ => rfl)
  | .any, v, h => by simp only [elT]; exact .any v
  | .ptr i off, v, h => by
    simp only [elT]
    by_cases hi : i = id
    · subst hi
      simp only [Nat.beq_refl, cond_true]
      cases h with | ptr _ _ β hE => exact (hu β off hE).rv
    · simp only [beq_ne hi, cond_false]; exact h.mono hS (fun _ _ => rfl) (fun _ _ => rfl)
  | .agg l, v, h => by
    simp only [elT]
    cases h with | agg vs _ hl hr => have := elL_ok hS hu (l := l) (vs := vs) ⟨hl, hr⟩; exact .agg vs _ this.1 this.2
  | .tup l, v, h => by
    simp only [elT]
    cases h with | tup vs _ hl hr => have := elL_ok hS hu (l := l) (vs := vs) ⟨hl, hr⟩; exact .tup vs _ this.1 this.2
  | .clo f l, v, h => by
    simp only [elT]
    cases h with | clo _ vs _ hl hr => have := elL_ok hS hu (l := l) (vs := vs) ⟨hl, hr⟩; exact .clo f vs _ this.1 this.2
theorem elL_ok (hS : ∀ b, S b → S' b) (hu : ∀ β off, E id = .pointer (some ⟨β, 0, none⟩) → PF w S' (.pointer (some ⟨β, off, none⟩)) (c.drop off)) : ∀ {l : List T} {vs : List Value}, RVL w S E vs l → RVL w S' E vs (elL id c l)
  | [], vs, h => ⟨h.1, fun j _ h2 => by simp [elL] at h2⟩
  | x :: l, vs, h => by
    cases vs with
    | nil => have := h.1; simp at this
    | cons v vs =>
      have h1 := elT_ok hS hu (t := x) (h.2 0 (by simp) (by simp))
      have h2 := elL_ok hS hu (l := l) (vs := vs) ⟨by simpa using h.1, fun j a b => h.2 (j + 1) (by simpa using a) (by simpa using b)⟩
      refine ⟨by simp [elL, h2.1], fun j a b => ?_⟩
      cases j with
      | zero => exact h1
      | succ j => exact h2.2 j (by simpa using a) (by simpa [elL] using b)
end
end

theorem elTm_look (id : Nat) (c : List Tree) : ∀ (l : List (Nat × T)) (k : Nat), look (elTm id c l) k = (look l k).map (elT id c)
  | [], k => rfl
  | (j, x) :: r, k => by
    simp only [elTm, look]
    by_cases hj : j = k
    · subst hj; simp
    · simp [beq_ne hj, elTm_look id c r k]

theorem elHp_look (id : Nat) (c : List Tree) : ∀ (l : List (Nat × Blk)) (k : Nat) (b : Blk), look (elHp id c l) k = some b → k ≠ id ∧ ∃ b0, look l k = some b0 ∧ (match b0 with | .box ts => b = .box (elL id c ts) | x => b = x)
  | [], k, b, h => by simp [elHp, look] at h
  | (j, .box ts) :: r, k, b, h => by
    simp only [elHp] at h
    by_cases hj : j = id
    · subst hj
      simp only [Nat.beq_refl, cond_true] at h
      obtain ⟨h1, b0, h2, h3⟩ := elHp_look j c r k b h
      exact ⟨h1, b0, by simp only [look, beq_ne (Ne.symm h1), cond_false]; exact h2, h3⟩
    · simp only [beq_ne hj, cond_false, look] at h
      by_cases hk : j = k
      · subst hk
        simp only [Nat.beq_refl, cond_true, Option.some.injEq] at h
        exact ⟨hj, .box ts, by simp [look], h.symm⟩
      · simp only [beq_ne hk, cond_false] at h
        obtain ⟨h1, b0, h2, h3⟩ := elHp_look id c r k b h
        exact ⟨h1, b0, by simp only [look, beq_ne hk, cond_false]; exact h2, h3⟩
  | (j, .rows e sz n rs) :: r, k, b, h => by
    simp only [elHp] at h
    by_cases hj : j = id
    · subst hj
      simp only [Nat.beq_refl, cond_true] at h
      obtain ⟨h1, b0, h2, h3⟩ := elHp_look j c r k b h
      exact ⟨h1, b0, by simp only [look, beq_ne (Ne.symm h1), cond_false]; exact h2, h3⟩
    · simp only [beq_ne hj, cond_false, look] at h
      by_cases hk : j = k
      · subst hk
        simp only [Nat.beq_refl, cond_true, Option.some.injEq] at h
        subst h
        exact ⟨hj, .rows e sz n rs, by simp [look], rfl⟩
      · simp only [beq_ne hk, cond_false] at h
        obtain ⟨h1, b0, h2, h3⟩ := elHp_look id c r k b h
        exact ⟨h1, b0, by simp only [look, beq_ne hk, cond_false]; exact h2, h3⟩

theorem Ok.frzBox {w0 : World} {L : Lim} {nt : Nat} {tm : List (Nat × T)} {hp : List (Nat × Blk)} {S : Nat → Prop} {E : Nat → Value} {a : Act} {w : World} (hk : Ok w0 L nt ⟨tm, hp⟩ S E a w) (id : Nat) {ts : List T} {c : List Tree} (hb : look hp id = some (.box ts)) (hc : trees ts = some c) :
    ∃ S', Ok w0 L nt ⟨elTm id c tm, elHp id c hp⟩ S' E a w := by
  let S' : Nat → Prop := fun b => S b ∨ blkOf (E id) = some b
  have hS : ∀ b, S b → S' b := fun _ x => .inl x
  obtain ⟨β, vs, elem, hE, hh, hl, hr, h1⟩ := hk.hp id _ hb
  have hβ : blkOf (E id) = some β := by rw [hE]; rfl
  have htr := trees_ok hc
  have hlen : ts.length = c.length := by have := congrArg List.length htr; simpa using this
  have hu : ∀ β' off, E id = .pointer (some ⟨β', 0, none⟩) → PF w S' (.pointer (some ⟨β', off, none⟩)) (c.drop off) := by
    intro β' off hE'
    rw [hE] at hE'
    cases hE'
    refine ⟨β, off, fun j => vs.getD (off + j) undef, rfl, .inr hβ, fun j hj => ?_, fun j hj => ?_⟩
    · simp only [List.length_drop] at hj
      rw [cell_of_row w β _ _ elem _ hh]
      have : off + j < vs.length := by omega
      simp [this]
    · simp only [List.length_drop] at hj
      have h3 : off + j < vs.length := by omega
      have h4 := nilT_ok (hr (off + j) h3 (by omega))
      have h5 : nilT (ts[off + j]'(by omega)) = T.t (c[off + j]'(by omega)) := by
        have h6 : (ts.map nilT)[off + j]? = (c.map T.t)[off + j]? := by rw [htr]
        rw [List.getElem?_map, List.getElem?_map, List.getElem?_eq_getElem (by omega), List.getElem?_eq_getElem (by omega)] at h6
        simpa using h6
      rw [h5] at h4
      simp only [List.getD_eq_getElem?_getD, List.getElem?_eq_getElem h3, Option.getD_some, List.getElem_drop]
      exact h4.rtree.mono hS (fun _ _ => rfl)
  refine ⟨S', { keep := hk.keep, size := hk.size, defers := hk.defers, pin := hk.pin, stab := fun b hb' => ?_, base := fun b hb' => ?_, tm := fun k t ht => ?_, hp := fun i b hi => ?_, own := fun i b β' hi hβ' => ?_, dist := fun i i' b b' β' q1 q2 hβ1 hβ2 => ?_ }⟩
  · rcases hb' with h2 | h2
    · exact hk.stab b h2
    · exact (hk.own id _ b hb h2).2.1
  · rcases hb' with h2 | h2
    · exact hk.base b h2
    · rcases (hk.own id _ b hb h2).2.2 with h3 | h3
      · exact .inr (.inr h3)
      · exact .inr (.inl h3)
  · simp only at ht
    rw [elTm_look] at ht
    cases hl' : look tm k with
    | none => simp [hl'] at ht
    | some t0 => simp only [hl', Option.map_some, Option.some.injEq] at ht; subst ht; exact elT_ok hS hu (hk.tm k t0 hl')
  · obtain ⟨hne, b0, hb0, hm⟩ := elHp_look _ _ _ _ _ hi
    have hk0 := hk.hp i b0 hb0
    cases b0 with
    | box ts' =>
      simp only at hm
      subst hm
      obtain ⟨β', vs', elem', g1, g2, g3, g4, g5⟩ := hk0
      have := elL_ok hS hu (l := ts') (vs := vs') ⟨g3, g4⟩
      exact ⟨β', vs', elem', g1, g2, this.1, this.2, g5⟩
    | rows e' sz' n' rs' =>
      simp only at hm
      subst hm
      exact hk0.mono hS (fun _ _ => rfl) (fun _ _ => rfl) (fun _ _ => rfl)
  · obtain ⟨hne, b0, hb0, _⟩ := elHp_look _ _ _ _ _ hi
    have := hk.own i b0 β' hb0 hβ'
    exact ⟨fun hx => hx.elim this.1 (fun hx => hne (hk.dist i id b0 _ β' hb0 hb hβ' hx)), this.2⟩
  · obtain ⟨_, d, hd, _⟩ := elHp_look _ _ _ _ _ q1
    obtain ⟨_, d', hd', _⟩ := elHp_look _ _ _ _ _ q2
    exact hk.dist i i' d d' β' hd hd' hβ1 hβ2

section
variable {ρ τ : Type} {X : Cx} {ks : List K} {tm tm' : List (Nat × T)} {hp hp' : List (Nat × Blk)} {m : Option ρ} {Q : ρ → Exit → St → Prop}
theorem TieO.frzBox {all : Array Oper} {ops : List Oper} (id : Nat) {ts : List T} {c : List Tree} (hb : look hp id = some (.box ts)) (hc : trees ts = some c) (h : TieO X all ops ks ⟨elTm id c tm, elHp id c hp⟩ m Q) : TieO X all ops ks ⟨tm, hp⟩ m Q :=
  fun r hr a w ⟨S, E, hw⟩ => by
    obtain ⟨S', hk⟩ := hw.frzBox id hb hc
    exact h r hr a w ⟨S', E, hk⟩
theorem TieX.frzBox {e' : Exit} (id : Nat) {ts : List T} {c : List Tree} (hb : look hp id = some (.box ts)) (hc : trees ts = some c) (h : TieX X ks e' ⟨elTm id c tm, elHp id c hp⟩ m Q) : TieX X ks e' ⟨tm, hp⟩ m Q :=
  fun r hr a w ⟨S, E, hw⟩ => by
    obtain ⟨S', hk⟩ := hw.frzBox id hb hc
    exact h r hr a w ⟨S', E, hk⟩
/-- A name for a value, in the midst of operations. -/
theorem TieO.name {all : Array Oper} {ops : List Oper} {σ : St} {v : τ} {k : τ → Option ρ} (σ₁ : τ → St) (hs : Sub (σ₁ v) σ) (h : ∀ t, t = v → TieO X all ops ks (σ₁ t) (k t) Q) : TieO X all ops ks σ ((some v).bind k) Q := TieO.sub hs (h v rfl)
end
end Go.Pv
namespace Go.Pv
open Go.RowKit

/-- make([]E, n) -/
def makeM {α : Type} (n : Int) (z : α) : Option (List α) := if 0 ≤ n ∧ n ≤ 1073741824 then some (List.replicate n.toNat z) else none
/-- copy(l, r): what l holds then -/
def copyL {α : Type} (l r : List α) : List α := r.take l.length ++ l.drop r.length
/-- l[lo:hi] -/
def sliceM {α : Type} (l : List α) (lo hi : Int) : Option (List α) := if 0 ≤ lo ∧ lo ≤ hi ∧ hi ≤ l.length then some ((l.drop lo.toNat).take (hi.toNat - lo.toNat)) else none
/-- a store: l[i] = y, where l has i -/
def setM {α : Type} (l : List α) (i : Int) (y : α) : Option (List α) := if 0 ≤ i ∧ i < l.length then some (l.set i.toNat y) else none

theorem setM_get {α : Type} {l l' : List α} {i : Int} {y : α} (h : setM l i y = some l') : getI l' i = some y := by
  unfold setM at h
  split at h
  · rename_i hi
    simp only [Option.some.injEq] at h
    subst h
    unfold getI
    rw [if_pos hi.1, List.getElem?_set_self (by omega)]
  · cases h

section
variable {P : Program} {w0 : World} {L : Lim} {nt : Nat} {tm : List (Nat × T)} {hp : List (Nat × Blk)} {S : Nat → Prop} {E : Nat → Value} {a : Act} {w : World}

theorem Ok.make (h : Ok w0 L nt ⟨tm, hp⟩ S E a w) {id t e n : Nat} {ti : TI} {c : List Tree} (hbig : Nat.blt id big = true) (hf : freshT id tm = true) (hb : freshB id hp = true) (ht : P.underlying t = some (.slice e)) (hte : TIok P e ti) (hz : ti.zero.length = ti.size) (hpos : 0 < ti.size)
    (hc : c = ti.zero.map fun v => nilTree (.v v)) (hmax : n ≤ 1073741824) (kl kc : IntKind) :
    ∃ v' w' E', (Instr.makeSlice t (.int kl n) (.int kc n)).run P w = .ok v' w' ∧ E' id = v' ∧ Ok w0 L nt ⟨tm, (id, .rows e ti.size n (List.replicate n c)) :: hp⟩ S E' a w' := by
  obtain ⟨i, d, hi, hs, _, _, ⟨z, hzz, hzc⟩, hby⟩ := hte
  have hcl : c.length = ti.size := by rw [hc, List.length_map, hz]
  have hbytes : (i.bytes : Int) * (n : Int) ≤ 281474976710656 := by
    have := Nat.mul_le_mul hby hmax
    have h2 : ((i.bytes * n : Nat) : Int) ≤ ((65536 * 1073741824 : Nat) : Int) := by exact_mod_cast this
    rw [Int.natCast_mul] at h2
    omega
  have hr := run_make (P := P) w t e i z ht hi hzz kl kc n n (by omega) (Int.le_refl _) hbytes (by omega)
  simp only [Int.toNat_natCast] at hr
  have hzs : z.cells.size = ti.size := by rw [← hz, ← hzc]; simp
  have hget : ∀ k (hk : k < n * i.size), (madeCells z.cells (n * i.size))[k]'(by rw [size_madeCells]; exact hk) = ti.zero[k % ti.size]'(by rw [hz]; exact Nat.mod_lt _ hpos) := by
    intro k hk
    have hm : k % z.cells.size < z.cells.size := Nat.mod_lt _ (by omega)
    simp only [madeCells, Array.getElem_map, Array.getElem_range]
    rw [getElem!_pos z.cells _ hm]
    have : z.cells[k % z.cells.size] = z.cells.toList[k % z.cells.size]'(by simpa using hm) := by simp
    rw [this]
    simp only [hzc, hzs]
  obtain ⟨E', hE, _, hok⟩ := h.alloc (o := .cells (madeCells z.cells (n * i.size)) e) (x := .slice (some ⟨w.heap.size, 0, none⟩) n n) (b := .rows e ti.size n (List.replicate n c)) hbig hf hb rfl (fun E' hE' => by
    refine ⟨by simp, .inr ⟨w.heap.size, n, (madeCells z.cells (n * i.size)).toList, by unfold maxLen; omega, by simp, by rw [heap_alloc_new], ?_, by simp, ?_, ?_⟩⟩
    · rw [Array.length_toList, size_madeCells, hs]
    · intro r hr; rw [(List.mem_replicate.1 hr).2]; exact hcl
    · intro i' j hi' hj hb'
      have hi2 : i' < n := by simpa using hi'
      simp only [List.getElem_replicate] at hj ⊢
      have hj2 : j < ti.size := by rw [← hcl]; exact hj
      have hlt : i' * ti.size + j < n * i.size := by rw [Array.length_toList, size_madeCells] at hb'; exact hb'
      have e1 : (madeCells z.cells (n * i.size)).toList[i' * ti.size + j] = ti.zero[j]'(by rw [hz]; exact hj2) := by
        rw [Array.getElem_toList, hget _ hlt]
        have : (i' * ti.size + j) % ti.size = j := by rw [Nat.mul_comm, Nat.mul_add_mod, Nat.mod_eq_of_lt hj2]
        simp only [this]
      rw [e1]
      have e2 : c[j] = nilTree (.v (ti.zero[j]'(by rw [hz]; exact hj2))) := by subst hc; simp
      rw [e2]
      exact nilTree_ok (.v _))
  exact ⟨_, _, E', hr, hE, hok⟩

theorem Ok.copy (h : Ok w0 L nt ⟨tm, hp⟩ S E a w) {id e e' n m t t2 ty : Nat} {ti : TI} {x : Value} {rs r2 : List (List Tree)} (hb : look hp id = some (.rows e ti.size n rs)) (ht : P.underlying t = some (.slice e')) (hte : TIok P e' ti)
    (hx : Src w S x m ti.size r2) (h2 : ∀ r ∈ r2, r.length = ti.size) :
    ∃ w', (Builtin.copy_ #[t, t2] ty #[E id, x]).run P w = .ok (.int .i64 (min m n : Nat)) w' ∧ Ok w0 L nt ⟨tm, hput hp id (.rows e ti.size n (copyL rs r2))⟩ S E a w' := by
  obtain ⟨hm, ad, c, rfl, hsrc⟩ := hx
  obtain ⟨hn, hrow⟩ := h.hp id _ hb
  obtain ⟨i, d, hi, hs, _⟩ := hte
  have hcl : (copyL rs r2).length = rs.length := by simp [copyL]; omega
  rcases hrow with ⟨hE, hr0⟩ | ⟨β, cap, cs, hcm, hE, hh, hcl2, hcc, hsz, hcr⟩
  · subst hr0
    simp only [List.length_nil] at hn
    subst hn
    have hf : (Builtin.firstCells i.size 0 (.slice ad m c)).run P w = .ok #[] w := by cases ad <;> simp [Builtin.firstCells, loadCells, loadCellsFrom]
    have hmin : min m 0 = 0 := by omega
    refine ⟨w, ?_, ?_⟩
    · rw [hE]
      simp [Builtin.copy_, run_underlying ht, Builtin.lenOf, sizeOf, typeInfo, hi, hf, goInt]
    · refine { h with
        hp := fun k b hk => ?_
        own := fun k b β hk hβ => by
          simp only at hk
          rw [look_hput] at hk
          by_cases e : id = k
          · subst e; simp only [hE, blkOf] at hβ; cases hβ
          · simp only [e, if_false] at hk; exact h.own k b β hk hβ
        dist := fun k k' b b' β hk hk' hβ hβ' => by
          simp only at hk hk'
          rw [look_hput] at hk hk'
          by_cases e : id = k
          · subst e; simp only [hE, blkOf] at hβ; cases hβ
          · by_cases e2 : id = k'
            · subst e2; simp only [hE, blkOf] at hβ'; cases hβ'
            · simp only [e, e2, if_false] at hk hk'; exact h.dist k k' b b' β hk hk' hβ hβ' }
      simp only at hk
      rw [look_hput] at hk
      by_cases e : id = k
      · subst e
        simp only [if_true, hb, Option.map_some, Option.some.injEq] at hk
        subst hk
        exact ⟨by simp [copyL], .inl ⟨hE, by simp [copyL]⟩⟩
      · simp only [e, if_false] at hk; exact h.hp k b hk
  · subst hn
    let q := min m rs.length
    have hq : q = min m rs.length := rfl
    -- the cells that are copied
    have hnews : ∃ news : List Value, news.length = q * ti.size ∧ (Builtin.firstCells i.size q (.slice ad m c)).run P w = .ok news.toArray w ∧ (∀ u ∈ news, u.oneCell' = true) ∧
        ∀ i j (hi : i < q) (hj : j < ti.size), ∃ (h1 : i * ti.size + j < news.length) (h2 : i < r2.length) (h3 : j < (r2[i]).length), RT w S (news[i * ti.size + j]) ((r2[i])[j]) := by
      by_cases h0 : 0 < m
      · obtain ⟨y, all, rfl, hal, hac, hone, har⟩ := hsrc h0
        have hqm : q * ti.size ≤ m * ti.size := Nat.mul_le_mul_right _ (by omega)
        refine ⟨all.take (q * ti.size), by rw [List.length_take, hal]; omega, ?_, fun u hu => hone u (List.mem_of_mem_take hu), fun i' j hi' hj => ?_⟩
        · have := run_loadCells_list (P := P) w y (all.take (q * ti.size)) (fun j u hu => by
            rw [List.getElem?_take] at hu
            split at hu
            · exact hac j u hu
            · cases hu)
          rw [List.length_take, hal, Nat.min_eq_left hqm] at this
          simp [Builtin.firstCells, hs, this]
        · have hi2 : i' < r2.length := by omega
          have hrl := h2 _ (List.getElem_mem hi2)
          have hle : (i' + 1) * ti.size ≤ q * ti.size := Nat.mul_le_mul_right _ hi'
          rw [Nat.succ_mul] at hle
          refine ⟨by rw [List.length_take, hal]; omega, hi2, by rw [hrl]; exact hj, ?_⟩
          rw [List.getElem_take]
          exact har i' j hi2 (by rw [hrl]; exact hj) (by rw [hal]; omega)
      · have hm0 : m = 0 := by omega
        have hq0 : q = 0 := by omega
        refine ⟨[], by rw [hq0]; simp, ?_, fun u hu => by simp at hu, fun i' j hi' _ => by omega⟩
        rw [hq0]
        cases ad <;> simp [Builtin.firstCells, loadCells, loadCellsFrom]
    obtain ⟨news, hnl, hload, hone, hnr⟩ := hnews
    have hqr : q * ti.size ≤ cap * ti.size := Nat.mul_le_mul_right _ (by omega)
    have hst := run_storeCells_at (P := P) β 0 e news 0 cs.toArray w hh (by simp; rw [hnl, hcl2]; exact hqr) hone
    have hrun : (Builtin.copy_ #[t, t2] ty #[E id, .slice ad m c]).run P w = .ok (.int .i64 (q : Nat)) (w.setRow β (news ++ cs.drop news.length).toArray) := by
      rw [hE]
      have : Nat.min m rs.length = q := rfl
      have hst' : (storeCells ⟨β, 0, none⟩ news).run P w = .ok () (w.setRow β (news ++ cs.drop news.length).toArray) := by simpa using hst
      simp [Builtin.copy_, run_underlying ht, Builtin.lenOf, sizeOf, typeInfo, hi, this, hload, goInt, hst']
    refine ⟨_, hrun, h.setRow hb (by rw [hE]; rfl) hh fun hS hnew => ⟨by rw [hcl], .inr ⟨β, cap, news ++ cs.drop news.length, hcm, by rw [hcl]; exact hE, hnew, by simp; omega, by rw [hcl]; exact hcc, ?_, ?_⟩⟩⟩
    · intro r hr
      unfold copyL at hr
      rcases List.mem_append.1 hr with hr | hr
      · exact h2 r (List.mem_of_mem_take hr)
      · exact hsz r (List.mem_of_mem_drop hr)
    · intro i' j hi' hj hb'
      have hi2 : i' < rs.length := by rw [← hcl]; exact hi'
      by_cases hiq : i' < q
      · have hi3 : i' < r2.length := by omega
        have e1 : (copyL rs r2)[i'] = r2[i'] := by
          apply Option.some.inj
          rw [← List.getElem?_eq_getElem, ← List.getElem?_eq_getElem]
          unfold copyL
          rw [List.getElem?_append_left (by rw [List.length_take]; omega), List.getElem?_take, if_pos hi2]
        have hj2 : j < ti.size := by have := h2 _ (List.getElem_mem hi3); rw [← this]; rw [e1] at hj; exact hj
        obtain ⟨h5, _, h6, h7⟩ := hnr i' j hiq hj2
        simp only [e1]
        rw [List.getElem_append_left h5]
        exact h7.mono (fun _ x => x) hS
      · have hm' : m ≤ i' := by omega
        have e1 : (copyL rs r2)[i'] = rs[i'] := by
          apply Option.some.inj
          rw [← List.getElem?_eq_getElem, ← List.getElem?_eq_getElem]
          unfold copyL
          rw [List.getElem?_append_right (by rw [List.length_take]; omega), List.length_take, List.getElem?_drop]
          congr 1
          omega
        have hj1 : j < (rs[i']).length := by rw [e1] at hj; exact hj
        have hle : q * ti.size ≤ i' * ti.size := Nat.mul_le_mul_right _ (by omega)
        have hb2 : i' * ti.size + j < cs.length := by simp only [List.length_append, List.length_drop] at hb'; omega
        have e2 : (news ++ cs.drop news.length)[i' * ti.size + j] = cs[i' * ti.size + j] := by
          apply Option.some.inj
          rw [← List.getElem?_eq_getElem, ← List.getElem?_eq_getElem, List.getElem?_append_right (by omega), List.getElem?_drop]
          congr 1
          omega
        simp only [e1]
        rw [e2]
        exact (hcr i' j hi2 hj1 hb2).mono (fun _ x => x) hS
end

def optI (tm : List (Nat × T)) (d : Int) : Option Operand → Option Int
  | none => some d
  | some o => match val tm o with | some (.t (.v (.int _ i))) => some i | _ => none

section
variable {ρ α : Type} {X : Cx} {ks : List K} {tm tm' : List (Nat × T)} {hp hp' : List (Nat × Blk)} {m : Option ρ} {Q : ρ → Exit → St → Prop} {all : Array Oper} {o : Oper} {rest : List Oper}

theorem TieO.makeO {t e d s0 : Nat} {z0 : List Value} {te : TI} {x : Operand} {ik : IntKind} {n : Int} {enc : α → List Tree} {k : List α → Option ρ} (id : Nat) (z : α)
    (ho : o.op = .makeSlice t x x) (hd : o.dst = some d) (hdn : Nat.blt d X.nt = true) (hg : guardT all.toList tm o.guard = some true) (hx : val tm x = some (.t (.v (.int ik n))))
    (hty : look X.tab t = some ⟨s0, .slice e, z0⟩) (hte : look X.tab e = some te) (hz : te.zero.length = te.size) (hpos : Nat.blt 0 te.size = true) (henc : enc z = te.zero.map fun v => nilTree (.v v)) (hbig : Nat.blt id big = true) (hft : freshT id tm = true) (hfb : freshB id hp = true)
    (h : ∀ y, makeM n z = some y → TieO X all rest ks ⟨(d, .own id) :: tm, (id, .rows e te.size y.length (y.map enc)) :: hp⟩ (k y) Q) :
    TieO X all (o :: rest) ks ⟨tm, hp⟩ ((makeM n z).bind k) Q := fun y hy a w ⟨S, E, hk⟩ => by
  cases hmk : makeM n z with
  | none => simp [hmk] at hy
  | some l =>
    have h0 := hmk
    unfold makeM at h0
    split at h0 <;> try (cases h0; done)
    rename_i hn
    simp only [Option.some.injEq] at h0
    simp only [hmk, Option.bind_some] at hy
    obtain ⟨dd, hu, ho2⟩ : ∃ d, X.P.underlying t = some d ∧ TD.ok X.P (.slice e) d := by
      obtain ⟨i, d, _, _, hu, hdd, _⟩ := X.htab t _ hty
      exact ⟨d, hu, hdd⟩
    simp only [TD.ok] at ho2
    subst ho2
    obtain ⟨j, rfl⟩ : ∃ j : Nat, n = (j : Int) := ⟨n.toNat, by omega⟩
    simp only [Int.toNat_natCast] at h0
    obtain ⟨v', w', E', hr, hE, hok⟩ := hk.make (P := X.P) (n := j) (c := enc z) hbig hft hfb hu (X.htab e _ hte) hz (Nat.le_of_ble_eq_true hpos) henc (by omega) ik ik
    refine wpList_step fun K hK => ?_
    rw [guardT_ok hk hg, if_pos rfl]
    unfold Oper.wp
    have hexec : (execOp a.eval o).run X.P w = .ok (.value v') w' := by
      unfold execOp
      simp only [ho, (hk.val hx).tv, Sem.run_bind, hr, Result.andThen_ok, Sem.run_pure]
    rw [hexec]
    refine hK _ _ (h l hmk y hy _ _ ⟨S, E', ?_⟩)
    rw [hd]
    have e1 : l.map enc = List.replicate j (enc z) := by rw [← h0]; simp
    have e2 : l.length = j := by rw [← h0]; simp
    rw [e1, e2]
    exact hok.put (Nat.le_of_ble_eq_true hdn) (.own id _ hE)

theorem TieO.copyO {t t2 e e' e2 n m2 s0 id : Nat} {z0 : List Value} {te : TI} {s x : Operand} {l r : List α} {enc : α → List Tree} {σ₁ : St}
    (ho : o.op = .call ⟨.builtin .copy, #[s, x], #[t, t2]⟩) (hg : guardT all.toList tm o.guard = some true)
    (hty : look X.tab t = some ⟨s0, .slice e', z0⟩) (hte : look X.tab e' = some te) (henc : ∀ y, (enc y).length = te.size) (hone : ∀ y, (enc y).all oneTree = true)
    (hs : val tm s = some (.own id)) (hb : look hp id = some (.rows e te.size n (l.map enc)))
    (hx : val tm x = some (.t (.sl m2 (r.map enc))) ∨ ∃ i2, val tm x = some (.own i2) ∧ look hp i2 = some (.rows e2 te.size m2 (r.map enc)))
    (hput : putT X.nt o.dst (.t (.v (.int .i64 (min r.length l.length : Nat)))) ⟨tm, hput hp id (.rows e te.size (copyL l r).length ((copyL l r).map enc))⟩ = some σ₁)
    (h : TieO X all rest ks σ₁ m Q) : TieO X all (o :: rest) ks ⟨tm, hp⟩ m Q := fun y hy a w ⟨S, E, hk⟩ => by
  obtain ⟨dd, hu, ho2⟩ : ∃ d, X.P.underlying t = some d ∧ TD.ok X.P (.slice e') d := by
    obtain ⟨i, d, _, _, hu, hdd, _⟩ := X.htab t _ hty
    exact ⟨d, hu, hdd⟩
  simp only [TD.ok] at ho2
  subst ho2
  have hsrc : Src w S (a.eval x) r.length te.size (r.map enc) := by
    rcases hx with hx | ⟨i2, hx, hb2⟩
    · have hv := hk.val hx
      generalize a.eval x = xv at hv
      cases hv with
      | t hv =>
        have := rows_cells hv (all_len henc r) (all_one hone r)
        have hm : m2 = r.length := by simpa using this.1
        subst hm
        exact ⟨by simp, this.2⟩
    · have hv := hk.val hx
      have hb := hk.hp i2 _ hb2
      generalize a.eval x = xv at hv
      cases hv with
      | own _ _ hE =>
        subst hE
        have := src_blk hb (all_one hone r)
        have hm : m2 = r.length := by simpa using this.1
        subst hm
        exact this
  have hn : n = l.length := by have := (hk.hp id _ hb).1; simpa using this
  have hsv : a.eval s = E id := by
    have hv := hk.val hs
    generalize a.eval s = sv at hv
    cases hv with | own _ _ hE => exact hE.symm
  obtain ⟨w', hr, hok⟩ := hk.copy (P := X.P) (ty := o.type) (t2 := t2) hb hu (X.htab e' _ hte) hsrc (all_len henc r)
  refine wpList_step fun K hK => ?_
  rw [guardT_ok hk hg, if_pos rfl]
  unfold Oper.wp
  have hexec : (execOp a.eval o).run X.P w = .ok (.value (.int .i64 (min r.length n : Nat))) w' := by
    unfold execOp
    simp only [ho, resolve, invoke, builtin, Sem.run_bind, Sem.run_pure, Result.andThen_ok, List.map_toArray, List.map_cons, List.map_nil, hsv, hr]
  rw [hexec]
  refine hK _ _ (h y hy _ _ ⟨S, E, ?_⟩)
  have hcl : (copyL l r).length = l.length := by simp [copyL]; omega
  have e1 : copyL (l.map enc) (r.map enc) = (copyL l r).map enc := by simp [copyL, List.map_take, List.map_drop]
  rw [e1] at hok
  rw [hcl, ← hn] at hput
  exact putT_ok hok (.t (.v _)) hput

theorem run_bounds {P : Program} {w : World} {lo hi : Option Value} {n c : Nat} {l h : Int} (hl : (lo = none ∧ l = 0) ∨ ∃ k, lo = some (.int k l)) (hh : (hi = none ∧ h = n) ∨ ∃ k, hi = some (.int k h)) (h0 : 0 ≤ l) (h1 : l ≤ h) (h2 : h ≤ c) :
    (Instr.sliceBounds true n c lo hi none).run P w = .ok (l.toNat, h.toNat, c) w := by
  have eh : (h.toNat : Int) = h := Int.toNat_of_nonneg (by omega)
  rcases hl with ⟨rfl, rfl⟩ | ⟨k, rfl⟩ <;> rcases hh with ⟨rfl, rfl⟩ | ⟨k', rfl⟩
  · simp [Instr.sliceBounds]
  · simp [Instr.sliceBounds, run_sliceBound, h1, h2]
  · simp [Instr.sliceBounds, run_sliceBound, h0, h1]
  · simp [Instr.sliceBounds, run_sliceBound, h0, h1, h2, eh, (by omega : 0 ≤ h)]

theorem optI_run {w0 : World} {L : Lim} {nt : Nat} {S : Nat → Prop} {E : Nat → Value} {a : Act} {w : World} (hk : Ok w0 L nt ⟨tm, hp⟩ S E a w) {x : Option Operand} {d i : Int} (h : optI tm d x = some i) : (x.map a.eval = none ∧ i = d) ∨ ∃ k, x.map a.eval = some (.int k i) := by
  cases x with
  | none => simp only [optI, Option.some.injEq] at h; exact .inl ⟨rfl, h.symm⟩
  | some x =>
    simp only [optI] at h
    split at h <;> try (cases h; done)
    rename_i k i' hv
    simp only [Option.some.injEq] at h
    subst h
    exact .inr ⟨k, by simp [(hk.val hv).tv]⟩

/-- A part of what stays. -/
theorem TieO.sliceF {t e d n s0 : Nat} {z0 : List Value} {te : TI} {x : Operand} {lo hi : Option Operand} {l : List α} {a b : Int} {enc : α → List Tree} {k : List α → Option ρ}
    (ho : o.op = .slice t x lo hi none) (hd : o.dst = some d) (hdn : Nat.blt d X.nt = true) (hg : guardT all.toList tm o.guard = some true) (hx : val tm x = some (.t (.sl n (l.map enc))))
    (hty : look X.tab t = some ⟨s0, .slice e, z0⟩) (hte : look X.tab e = some te) (henc : ∀ y, (enc y).length = te.size) (hlo : optI tm 0 lo = some a) (hhi : optI tm l.length hi = some b)
    (h : ∀ y, sliceM l a b = some y → TieO X all rest ks ⟨(d, .t (.sl y.length (y.map enc))) :: tm, hp⟩ (k y) Q) : TieO X all (o :: rest) ks ⟨tm, hp⟩ ((sliceM l a b).bind k) Q :=
  TieO.one hd hdn hg (fun y => .t (.sl y.length (y.map enc))) (fun y S E ac w hm hk => by
    unfold sliceM at hm
    split at hm <;> try (cases hm; done)
    rename_i hb
    simp only [Option.some.injEq] at hm
    obtain ⟨h0, h1, h2⟩ := hb
    obtain ⟨i, dd, hi', hs, hu, hdd, _⟩ := X.htab t _ hty
    simp only [TD.ok] at hdd
    subst hdd
    have hsz := (X.htab e _ hte).run_size w
    have hxv := hk.val hx
    generalize hxe : ac.eval x = xv at hxv
    cases hxv with
    | t hxt =>
      have hn : n = l.length := by
        generalize hrows : l.map enc = rows at hxt
        cases hxt with
        | slE => have := congrArg List.length hrows; simpa using this.symm
        | sl => subst hrows; simp
      have shape : ∃ ad c, xv = .slice ad n c ∧ n ≤ c := by
        generalize l.map enc = rows at hxt
        cases hxt with
        | slE ad c => exact ⟨ad, c, rfl, Nat.zero_le _⟩
        | sl b o c sz rows vs hcap => exact ⟨_, c, rfl, hcap⟩
      obtain ⟨ad, c, rfl, hnc⟩ := shape
      have hbd := run_bounds (P := X.P) (w := w) (n := n) (c := c) (optI_run hk hlo) (by rw [hn]; exact optI_run hk hhi) h0 h1 (by omega)
      refine ⟨_, by
        simp only [execOp, ho, Instr.sliceAt, Sem.run_bind, run_underlying hu, Result.andThen_ok, Instr.slice, hxe, hbd, hsz, Sem.run_pure, Option.map_none]
        rfl, ?_⟩
      have hyl : y.length = b.toNat - a.toNat := by rw [← hm]; simp; omega
      by_cases hz : b.toNat - a.toNat = 0
      · have hy0 : y = [] := List.eq_nil_of_length_eq_zero (by omega)
        subst hy0
        rw [hz]
        exact .t (.slE _ _)
      · have hlt : a.toNat < l.length := by omega
        generalize hrows : l.map enc = rows at hxt
        cases hxt with
        | slE => have := congrArg List.length hrows; simp at this; subst this; simp at hlt
        | sl bk off _ sz _ vs hcap hS hszr hc hr =>
          subst hrows
          have hne : ¬ c = a.toNat := by simp at hcap; omega
          simp only [hne, if_false, Option.map_some, addr_add]
          have hszt : sz = te.size := by
            have hm0 : enc (l[a.toNat]) ∈ l.map enc := List.mem_map.2 ⟨_, List.getElem_mem hlt, rfl⟩
            rw [← hszr _ hm0, henc]
          subst hszt
          have key := RT.sl (w := w) (S := S) bk (off + a.toNat * te.size) (c - a.toNat) te.size (y.map enc) (fun i j => vs (a.toNat + i) j) (by simp at hcap; rw [List.length_map, hyl]; omega) hS
            (fun r hr' => by obtain ⟨z, _, rfl⟩ := List.mem_map.1 hr'; exact henc z)
            (fun i j hi2 hj => by
              rw [List.length_map, hyl] at hi2
              have := hc (a.toNat + i) j (by simp; omega) hj
              rw [Nat.add_mul] at this
              rw [← this]
              congr 2
              omega)
            (fun i j hi2 hj => by
              rw [List.length_map, hyl] at hi2
              have e1 : (y.map enc)[i]'(by rw [List.length_map, hyl]; exact hi2) = (l.map enc)[a.toNat + i]'(by simp; omega) := by
                subst hm
                simp
              have hj' : j < ((l.map enc)[a.toNat + i]'(by simp; omega)).length := by rw [← e1]; exact hj
              have := hr (a.toNat + i) j (by simp; omega) hj'
              simp only [e1]
              exact this)
          rw [List.length_map, hyl] at key
          rw [hyl]
          exact .t key) h

/-- The first elements of a row of the call's own, under a name of their own. -/
theorem TieO.sliceO {t e e' d id id' sz n s0 : Nat} {z0 : List Value} {te : TI} {x : Operand} {hi : Option Operand} {l : List α} {b : Int} {enc : α → List Tree} {k : List α → Option ρ}
    (ho : o.op = .slice t x none hi none) (hd : o.dst = some d) (hdn : Nat.blt d X.nt = true) (hg : guardT all.toList tm o.guard = some true) (hx : val tm x = some (.own id)) (hb : look hp id = some (.rows e sz n (l.map enc)))
    (hty : look X.tab t = some ⟨s0, .slice e', z0⟩) (hte : look X.tab e' = some te) (hhi : optI tm l.length hi = some b)
    (hsub : Sub ⟨tm', hp'⟩ ⟨tm, hp⟩) (hbig : Nat.blt id' big = true) (hft : freshT id' tm' = true) (hfb : freshB id' hp' = true) (hfo : freshB id hp' = true)
    (h : ∀ y, sliceM l 0 b = some y → TieO X all rest ks ⟨(d, .own id') :: tm', (id', .rows e sz y.length (y.map enc)) :: hp'⟩ (k y) Q) : TieO X all (o :: rest) ks ⟨tm, hp⟩ ((sliceM l 0 b).bind k) Q := fun r hr a w ⟨S, E, hk⟩ => by
  cases hm : sliceM l 0 b with
  | none => simp [hm] at hr
  | some y =>
    simp only [hm, Option.bind_some] at hr
    have hm0 := hm
    unfold sliceM at hm0
    split at hm0 <;> try (cases hm0; done)
    rename_i hbd
    simp only [Option.some.injEq] at hm0
    obtain ⟨h0, h1, h2⟩ := hbd
    have hy : y = l.take b.toNat := by rw [← hm0]; simp
    have hyl : y.length = b.toNat := by rw [hy, List.length_take]; omega
    obtain ⟨i, dd, hi', hs, hu, hdd, _⟩ := X.htab t _ hty
    simp only [TD.ok] at hdd
    subst hdd
    have hsz := (X.htab e' _ hte).run_size w
    have hbk := hk.hp id _ hb
    obtain ⟨hn, hrow⟩ := hbk
    have hn' : n = l.length := by simpa using hn
    subst hn'
    have hxv : a.eval x = E id := by
      have hv := hk.val hx
      generalize a.eval x = sv at hv
      cases hv with | own _ _ hE => exact hE.symm
    have hk' := hk.sub hsub
    have fin : ∀ v', (execOp a.eval o).run X.P w = .ok (.value v') w → (∀ β, blkOf v' = some β → blkOf (E id) = some β) → (∀ E', BlkOk w S E' v' (.rows e sz y.length (y.map enc))) →
        wpList X.P all (after X.P ks (X.post (Q r))) (o :: rest) a w := by
      intro v' hexec hv' hblk
      obtain ⟨E', hE, hok⟩ := hk'.regrow (v := E id) (v' := v') (b := .rows e sz y.length (y.map enc)) hbig hft hfb (fun β hβ => hk.own id _ β hb hβ)
        (fun j blk β hj h1 h2 => by
          obtain ⟨blk', hj', _⟩ := subB_look hsub.2 j blk hj
          have := hk.dist id j _ blk' β hb hj' h1 h2
          exact (freshB_look hfo j blk hj).1 this.symm) (Keep.refl _ w) (fun β hβ => ⟨(hk.own id _ β hb (hv' β hβ)).2.1, .inl (hv' β hβ)⟩) hblk
      refine wpList_step fun K hK => ?_
      rw [guardT_ok hk hg, if_pos rfl]
      unfold Oper.wp
      rw [hexec]
      refine hK _ _ (h y hm r hr _ _ ⟨S, E', ?_⟩)
      rw [hd]
      exact hok.put (Nat.le_of_ble_eq_true hdn) (.own id' _ hE)
    rcases hrow with ⟨hE, hr0⟩ | ⟨β, cap, cs, hcm, hE, hh, hcl, hcc, hszr, hcr⟩
    · have hl0 : l = [] := by simpa using hr0
      subst hl0
      have hb0 : b = 0 := by simp at h2; omega
      subst hb0
      have hbd := run_bounds (P := X.P) (w := w) (lo := none) (n := 0) (c := 0) (.inl ⟨rfl, rfl⟩) (optI_run hk hhi) (Int.le_refl 0) (Int.le_refl 0) (Int.le_refl 0)
      have hy0 : y = [] := by simpa using hy
      subst hy0
      refine fin (.slice none 0 0) ?_ (fun β hβ => by simp [blkOf] at hβ) (fun E' => ⟨rfl, .inl ⟨rfl, rfl⟩⟩)
      have hbd' : (Instr.sliceBounds true 0 0 none (hi.map a.eval) none).run X.P w = .ok (0, 0, 0) w := hbd
      simp only [execOp, ho, Instr.sliceAt, Sem.run_bind, run_underlying hu, Result.andThen_ok, Instr.slice, hxv, hE, Option.map_none, hbd', hsz, Sem.run_pure]
      rfl
    · have hbd := run_bounds (P := X.P) (w := w) (lo := none) (n := l.length) (c := cap) (.inl ⟨rfl, rfl⟩) (optI_run hk hhi) (Int.le_refl 0) h1 (by simp at hcc; omega)
      refine fin (.slice (some ⟨β, 0, none⟩) y.length cap) ?_ (fun β' hβ' => by rw [hE]; exact hβ') (fun E' => ⟨by simp, .inr ⟨β, cap, cs, hcm, by simp, hh, hcl, by simp at hcc ⊢; omega, ?_, ?_⟩⟩)
      · simp only [List.length_map] at hE
        simp only [execOp, ho, Instr.sliceAt, Sem.run_bind, run_underlying hu, Result.andThen_ok, Instr.slice, hxv, hE, Option.map_none, hbd, hsz, Sem.run_pure]
        have ez : (0 : Int).toNat = 0 := rfl
        by_cases hc0 : cap = 0
        · simp [hc0, hyl]
        · simp [hc0, hyl, addr_add]
      · intro q hq
        exact hszr q (by rw [hy, List.map_take] at hq; exact List.mem_of_mem_take hq)
      · intro i j hi2 hj hbb
        have hi3 : i < (l.map enc).length := by simp [hy] at hi2 ⊢; omega
        have e1 : (y.map enc)[i] = (l.map enc)[i] := by subst hy; simp
        have hj2 : j < ((l.map enc)[i]).length := by rw [← e1]; exact hj
        simp only [e1]
        exact (hcr i j hi3 hj2 hbb).mono (fun _ x => x) (fun _ _ => rfl)
end
end Go.Pv
namespace Go.Pv
open Go.RowKit

section
variable {ρ α : Type} {X : Cx} {ks : List K} {tm : List (Nat × T)} {hp : List (Nat × Blk)} {m : Option ρ} {Q : ρ → Exit → St → Prop} {all : Array Oper} {o : Oper} {rest : List Oper}

theorem TieO.indexOH {ty e sz el n s0 : Nat} {x ix : Operand} {ik : IntKind} {i : Int} {z0 : List Value} {te : TI} {d id : Nat} {l : List α} {enc : α → List Tree} {y : α} (hy : getI l i = some y)
    (ho : o.op = .indexAddr ty x ix) (hd : o.dst = some d) (hdn : Nat.blt d X.nt = true) (hg : guardT all.toList tm o.guard = some true) (hx : val tm x = some (.own id)) (hb : look hp id = some (.rows el sz n (l.map enc))) (hi : val tm ix = some (.t (.v (.int ik i))))
    (hty : look X.tab ty = some ⟨s0, .slice e, z0⟩) (hte : look X.tab e = some te) (hsz : te.size = sz)
    (h : TieO X all rest ks ⟨(d, .pe id i.toNat sz 0) :: tm, hp⟩ m Q) : TieO X all (o :: rest) ks ⟨tm, hp⟩ m Q := by
  have := TieO.indexO (k := fun _ => m) (rest := rest) (ks := ks) (Q := Q) ho hd hdn hg hx hb hi hty hte hsz (fun y' hy' => by rw [hy] at hy'; cases hy'; exact h)
  rwa [hy] at this

theorem TieO.loadY {t d id sz off e n : Nat} {i : Int} {ti : TI} {p : Operand} {l : List α} {enc : α → List Tree} {y : α} {r : T} (hy : getI l i = some y)
    (ho : o.op = .load t p) (hd : o.dst = some d) (hdn : Nat.blt d X.nt = true) (hg : guardT all.toList tm o.guard = some true) (hp1 : val tm p = some (.pe id i.toNat sz off)) (hb : look hp id = some (.rows e sz n (l.map enc)))
    (hti : look X.tab t = some ti) (hr : takeT ti.desc.isAgg ti.size ((enc y).map .t) off = some r) (h : TieO X all rest ks ⟨(d, r) :: tm, hp⟩ m Q) : TieO X all (o :: rest) ks ⟨tm, hp⟩ m Q :=
  TieO.loadO (getI_some hy).2.1 ho hd hdn hg hp1 hb hti hr h

theorem TieO.storeY {t id sz off e n : Nat} {i : Int} {ti : TI} {p x : Operand} {l : List α} {enc : α → List Tree} {y : α} {k : List α → Option ρ} (y' : α) (lt : List Tree) {vx : T} {cs : List T} (hy : getI l i = some y)
    (ho : o.op = .store t p x) (hd : o.dst = none) (hg : guardT all.toList tm o.guard = some true) (hp1 : val tm p = some (.pe id i.toNat sz off)) (hb : look hp id = some (.rows e sz n (l.map enc)))
    (hti : look X.tab t = some ti) (hx : val tm x = some vx) (hc : cellsT hp vx = some cs) (hcs : cs.map nilT = lt.map T.t) (hs : Nat.beq lt.length ti.size = true) (hle : Nat.ble (off + lt.length) sz = true) (henc : enc y' = splc (enc y) off lt)
    (h : ∀ l', setM l i y' = some l' → TieO X all rest ks ⟨tm, hput hp id (.rows e sz l'.length (l'.map enc))⟩ (k l') Q) : TieO X all (o :: rest) ks ⟨tm, hp⟩ ((setM l i y').bind k) Q := fun r hr a w ⟨S, E, hk⟩ => by
  have hset : setM l i y' = some (l.set i.toNat y') := by
    obtain ⟨h0, _, hlt⟩ := getI_some hy
    unfold setM
    rw [if_pos ⟨h0, hlt⟩]
  rw [hset] at hr
  simp only [Option.bind_some] at hr
  have hrow : (l.map enc)[i.toNat]? = some (enc y) := by rw [List.getElem?_map, (getI_some hy).2.1]; rfl
  have hcl : cs.length = lt.length := by have := congrArg List.length hcs; simpa using this
  obtain ⟨vs, hvs, hl, hr2, h1⟩ := hk.cells (hk.val hx) hc
  have hn : n = l.length := by have := (hk.hp id _ hb).1; simpa using this
  -- the value as one whose cells are trees
  have key : ∃ w', (Instr.storeAt t (a.eval p) (a.eval x)).run X.P w = .ok () w' ∧ Ok X.w0 X.L X.nt ⟨tm, hput hp id (.rows e sz n ((l.map enc).set i.toNat (splc (enc y) off lt)))⟩ S E a w' := by
    have hv2 : RV w S E (.agg vs.toArray) (.agg (lt.map T.t)) := by
      refine .agg vs _ (by simp; omega) fun j h2 h3 => ?_
      have h4 := nilT_ok (hr2 j h2 (by omega))
      have h5 : nilT (cs[j]'(by omega)) = (lt.map T.t)[j]'h3 := by
        have h6 : (cs.map nilT)[j]? = (lt.map T.t)[j]? := by rw [hcs]
        rw [List.getElem?_map, List.getElem?_eq_getElem (by omega), List.getElem?_eq_getElem h3] at h6
        simpa using h6
      rw [h5] at h4
      exact h4
    have hone : oneL hp (lt.map T.t) = true := by
      have : ∀ q : List Tree, (∀ j (hj : j < q.length), Pv.one hp (T.t (q[j])) = true) → oneL hp (q.map T.t) = true := by
        intro q
        induction q with
        | nil => intro _; rfl
        | cons z q ih =>
          intro hq
          simp only [List.map_cons, oneL, Bool.and_eq_true]
          exact ⟨hq 0 (by simp), ih fun j hj => hq (j + 1) (by simpa using hj)⟩
      refine this lt fun j hj => ?_
      have hv := hv2
      cases hv with
      | agg _ _ _ hvv =>
        have h2 := hvv j (by omega) (by simpa using hj)
        simp only [List.getElem_map] at h2
        have h3 := h1 _ (List.getElem_mem (show j < vs.length by omega))
        generalize vs[j]'(by omega) = v at h2 h3
        generalize lt[j] = z at h2 ⊢
        cases z with
        | v q => have := h2.tv; subst this; exact h3
        | sl _ _ => rfl
    obtain ⟨w', q1, q2⟩ := store_own (P := X.P) hk (X.htab t _ hti) hb (hk.val hp1) hrow hv2 (by simp [cellsT, hone]) (Nat.eq_of_beq_eq_true hs) (Nat.le_of_ble_eq_true hle)
    refine ⟨w', ?_, q2⟩
    have e1 : (Value.agg vs.toArray).cells = (a.eval x).cells := by rw [hvs]; rfl
    simpa only [Instr.storeAt, storeVar, e1] using q1
  obtain ⟨w', h2, h3⟩ := key
  refine wpList_step fun K hK => ?_
  rw [guardT_ok hk hg, if_pos rfl]
  unfold Oper.wp
  have hexec : (execOp a.eval o).run X.P w = .ok .skip w' := by
    unfold execOp
    simp only [ho, Sem.run_bind, h2, Result.andThen_ok, Sem.run_pure]
  rw [hexec]
  refine hK _ _ (h _ hset r hr _ _ ⟨S, E, ?_⟩)
  rw [hd, List.map_set, henc, List.length_set, ← hn]
  exact h3
end
end Go.Pv
namespace Go.Pv
open Go.RowKit Go.WideShapes Go.ChangeShapes

section
variable {ρ τ : Type} {X : Cx} {ks : List K} {tm tm' : List (Nat × T)} {hp hp' : List (Nat × Blk)} {m : Option ρ} {Q : ρ → Exit → St → Prop} {all : Array Oper} {ops : List Oper}

/-- What holds of every state that says no more holds here: the rules between statements, in the midst of operations. -/
theorem TieO.via {σ σ' : St} (h : ∀ {ρ : Type} {m : Option ρ} {Q : ρ → Exit → St → Prop} {e : Exit}, TieX X [] e σ' m Q → TieX X [] e σ m Q) (k : TieO X all ops ks σ' m Q) : TieO X all ops ks σ m Q := fun r hr a w hw => by
  have := h (ρ := Unit) (m := some ()) (e := .normal) (Q := fun _ _ σ'' => σ'' = σ') (fun r _ a w hw => ⟨σ', hw, rfl⟩) () rfl a w hw
  obtain ⟨σ'', hs, rfl⟩ := this
  exact k r hr a w hs

theorem TieO.nilP (k id e sz : Nat) (path : List Nat) {t u : T} (hk : look tm k = some t) (hu : setNil id path t = some u) (hbig : Nat.blt id big = true) (hft : freshT id tm = true) (hfb : freshB id hp = true)
    (h : TieO X all ops ks ⟨(k, u) :: tm, (id, .rows e sz 0 []) :: hp⟩ m Q) : TieO X all ops ks ⟨tm, hp⟩ m Q := TieO.via (fun x => TieX.nilP k id e sz path hk hu hbig hft hfb x) h
theorem TieO.nilB (b id e sz : Nat) (path : List Nat) {ts us : List T} (hk : look hp b = some (.box ts)) (hu : setNil id path (.agg ts) = some (.agg us)) (hbig : Nat.blt id big = true) (hft : freshT id tm = true) (hfb : freshB id hp = true)
    (h : TieO X all ops ks ⟨tm, (id, .rows e sz 0 []) :: hput hp b (.box us)⟩ m Q) : TieO X all ops ks ⟨tm, hp⟩ m Q := TieO.via (fun x => TieX.nilB b id e sz path hk hu hbig hft hfb x) h
theorem TieO.ren (h : List (Nat × Nat)) (ho : renOk h = true) (ht : renTm h tm = some tm') (hh : renHp h hp = some hp') (k : TieO X all ops ks ⟨tm', hp'⟩ m Q) : TieO X all ops ks ⟨tm, hp⟩ m Q := TieO.via (fun x => TieX.ren h ho ht hh x) k

theorem TieO.pre {σ : St} {m₁ : Option τ} {k : τ → Option ρ} (h : ∀ y, m₁ = some y → TieO X all ops ks σ (k y) Q) : TieO X all ops ks σ (m₁.bind k) Q := fun r hr a w hw => by
  cases hm : m₁ with
  | none => simp [hm] at hr
  | some y => exact h y hm r (by simpa [hm] using hr) a w hw

open Classical in
/-- What is known to be there need not be asked for. -/
theorem TieO.withH {σ : St} {m₁ : Option τ} {t : τ} (hm : m₁ = some t) (h : TieO X all ops ks σ (m₁.bind fun t' => if t' = t then m else none) Q) : TieO X all ops ks σ m Q := by
  subst hm; simpa using h
open Classical in
theorem TieO.ifH {σ₂ : τ → St} {t : τ} (h : TieO X all ops ks (σ₂ t) m Q) : ∀ t', TieO X all ops ks (σ₂ t') (if t' = t then m else none) Q := fun t' => by
  by_cases e : t' = t
  · subst e; simpa using h
  · simp only [e, if_false]; exact TieO.fail
open Classical in
theorem TieO.ifG {σ₂ : τ → St} {t : τ} {m₁ : Option τ} (h : TieO X all ops ks (σ₂ t) m Q) : ∀ t', m₁ = some t' → TieO X all ops ks (σ₂ t') (if t' = t then m else none) Q := fun t' _ => TieO.ifH h t'
end

theorem run_equalIn_nil {P : Program} (w : World) (d : Nat) (t e : TypeId) (a : Option Addr) (l c : Nat) (h : P.underlying t = some (.slice e)) : (Op.equalIn (d + 1) t (.slice a l c) (.slice none 0 0)).run P w = .ok a.isNone w := by
  cases a <;> simp [Op.equalIn, run_underlying h]
theorem run_equal_nil {P : Program} (w : World) (t e : TypeId) (a : Option Addr) (l c : Nat) (h : P.underlying t = some (.slice e)) : (Op.equal t (.slice a l c) (.slice none 0 0)).run P w = .ok a.isNone w := run_equalIn_nil w _ t e a l c h
theorem run_eql_nil {P : Program} (w : World) (t e : TypeId) (a : Option Addr) (l c : Nat) (h : P.underlying t = some (.slice e)) : (binOp .eql t (.slice a l c) (.slice none 0 0)).run P w = .ok (.bool a.isNone) w := by
  simp [binOp, run_equal_nil w t e a l c h]
theorem run_guard_nil {P : Program} (w : World) (t : TypeId) (x y : Operand) (a : Option Addr) (l c : Nat) : (eqGuard .eql t x y (.slice a l c) (.slice none 0 0)).run P w = .ok () w := rfl

section
variable {ρ τ : Type} {X : Cx} {ks : List K} {σ : St} {tm : List (Nat × T)} {hp : List (Nat × Blk)} {m m' : Option ρ} {Q : ρ → Exit → St → Prop} {all : Array Oper} {rest : List Oper} {o : Oper}

theorem TieX.model {e : Exit} (h : m = m') (k : TieX X ks e σ m' Q) : TieX X ks e σ m Q := h ▸ k

theorem TieS.condB {c : Operand} {x y : Code} {b : Bool} (hc : val σ.tm c = some (.t (.v (.bool b)))) (h₁ : b = true → TieS X (.c x :: ks) σ m Q) (h₂ : b = false → TieS X (.c y :: ks) σ m Q) :
    TieS X (.c (.cond c x y) :: ks) σ m Q := fun r hr a w ⟨S, E, hk⟩ => by
  have hv := (hk.val hc).tv
  cases hb : b <;> rw [hb] at hv
  · exact wp_cond_false hv (h₂ hb r hr a w ⟨S, E, hk⟩)
  · exact wp_cond_true hv (h₁ hb r hr a w ⟨S, E, hk⟩)

/-- x == nil, of a slice that stays: only what is nil has no rows. -/
theorem TieO.isNil {t e yt d n s0 : Nat} {z0 : List Value} {x : Operand} {α : Type} {enc : α → List Tree} {l : List α} (ho : o.op = .binOp .eql t x (.const (.slice none 0 0)) yt) (hd : o.dst = some d) (hdn : Nat.blt d X.nt = true) (hg : guardT all.toList tm o.guard = some true)
    (hty : look X.tab t = some ⟨s0, .slice e, z0⟩) (hx : val tm x = some (.t (.sl n (l.map enc))))
    (h : ∀ b : Bool, (b = true → l = []) → TieO X all rest ks ⟨(d, .t (.v (.bool b))) :: tm, hp⟩ m Q) : TieO X all (o :: rest) ks ⟨tm, hp⟩ m Q := fun r hr a w ⟨S, E, hk⟩ => by
  obtain ⟨dd, hu, ho2⟩ : ∃ d, X.P.underlying t = some d ∧ TD.ok X.P (.slice e) d := by
    obtain ⟨i, d, _, _, hu, hdd, _⟩ := X.htab t _ hty
    exact ⟨d, hu, hdd⟩
  simp only [TD.ok] at ho2
  subst ho2
  have hv := hk.val hx
  have hs : ∃ ad c k, a.eval x = .slice ad k c ∧ (ad = none → l = []) := by
    generalize a.eval x = v at hv
    cases hv with
    | t hv =>
      generalize hq : l.map enc = q at hv
      cases hv with
      | slE a c => exact ⟨_, _, _, rfl, fun _ => by simpa using hq⟩
      | sl => exact ⟨_, _, _, rfl, fun h => by cases h⟩
  obtain ⟨ad, c, k, hx', hl⟩ := hs
  refine wpList_step fun K hK => ?_
  rw [guardT_ok hk hg, if_pos rfl]
  unfold Oper.wp
  have hexec : (execOp a.eval o).run X.P w = .ok (.value (.bool ad.isNone)) w := by
    have h1 : a.eval (.const (.slice none 0 0)) = .slice none 0 0 := rfl
    unfold execOp
    simp only [ho, hx', h1, Sem.run_bind, run_guard_nil, run_eql_nil w t e ad k c hu, Result.andThen_ok, Sem.run_pure]
  rw [hexec]
  refine hK _ _ (h ad.isNone (fun hb => hl (by simpa using hb)) r hr _ _ ⟨S, E, ?_⟩)
  rw [hd]
  exact hk.put (Nat.le_of_ble_eq_true hdn) (.t (.v _))
end

section
variable {τ α : Type} {X : Cx} {tmMin : List (Nat × T)} {hp : List (Nat × Blk)} {all : Array Oper} {o : Oper}

theorem StepQ.indexO {ty e sz el n s0 : Nat} {x ix : Operand} {ik : IntKind} {i : Int} {z0 : List Value} {te : TI} {id : Nat} {l : List α} {enc : α → List Tree} {y : α} (hy : getI l i = some y)
    (ho : o.op = .indexAddr ty x ix) (hg : guardT all.toList tmMin o.guard = some true) (hx : val tmMin x = some (.own id)) (hb : look hp id = some (.rows el sz n (l.map enc))) (hi : val tmMin ix = some (.t (.v (.int ik i))))
    (hty : look X.tab ty = some ⟨s0, .slice e, z0⟩) (hte : look X.tab e = some te) (hsz : te.size = sz) : StepQ X all o tmMin hp (.pe id i.toNat sz 0) := by
  intro tm hm a w S E hk K Q' hK
  obtain ⟨h0, hl, hlt⟩ := getI_some hy
  have hiv := (hk.val (val_more hm hi)).tv
  obtain ⟨dd, hdd, ho2⟩ := (X.htab ty _ hty).run_under w
  simp only [TD.ok] at ho2
  subst ho2
  have hs := (X.htab e _ hte).run_size w
  have hll : i.toNat < l.length := by omega
  have hxv := hk.val (val_more hm hx)
  generalize hxe : a.eval x = xv at hxv
  cases hxv with
  | own _ _ hE =>
    obtain ⟨hn, ⟨hE', hr⟩ | ⟨β, cap, vs, _, hE', hh, _⟩⟩ := hk.hp id _ hb
    · simp at hr; subst hr; simp at hll
    · subst hsz
      have hpe := RV.pe (w := w) (S := S) (E := E) id i.toNat te.size 0 β (l.map enc).length cap hE'
      rw [hE'] at hE
      subst hE
      have hrun : (execOp a.eval o).run X.P w = .ok (.value (.pointer (some ⟨β, i.toNat * te.size + 0, none⟩))) w := by
        simp only [execOp, ho, Instr.indexAt, hiv, asIntOf, Sem.run_bind, Sem.run_pure, Result.andThen_ok, hdd, hxe]
        have c1 : 0 ≤ i ∧ i < ((l.map enc).length : Int) := ⟨h0, by simpa using hlt⟩
        simp only [Sem.run_bind, Result.andThen_ok, Sem.run_pure, c1, and_self, if_true, hs, addr_add, Nat.zero_add, Nat.add_zero]
      rw [guardT_ok hk (guardT_more hm hg), if_pos rfl]
      unfold Oper.wp
      rw [hrun]
      exact hK _ _ _ _ hk hpe

theorem StepQ.loadY {t id sz off e n : Nat} {i : Int} {ti : TI} {p : Operand} {l : List α} {enc : α → List Tree} {y : α} {r : T} (hy : getI l i = some y)
    (ho : o.op = .load t p) (hg : guardT all.toList tmMin o.guard = some true) (hp1 : val tmMin p = some (.pe id i.toNat sz off)) (hb : look hp id = some (.rows e sz n (l.map enc)))
    (hti : look X.tab t = some ti) (hr : takeT ti.desc.isAgg ti.size ((enc y).map .t) off = some r) : StepQ X all o tmMin hp r := by
  intro tm hm a w S E hk K Q' hK
  obtain ⟨v, h1, h2⟩ := load_own (P := X.P) hk (X.htab t _ hti) hb (hk.val (val_more hm hp1)) (by rw [List.getElem?_map, (getI_some hy).2.1]; rfl) hr
  rw [guardT_ok hk (guardT_more hm hg), if_pos rfl]
  unfold Oper.wp
  have hexec : (execOp a.eval o).run X.P w = .ok (.value v) w := by
    unfold execOp
    simp only [ho, Sem.run_bind, h1, Result.andThen_ok, Sem.run_pure]
  rw [hexec]
  exact hK _ _ _ _ hk h2

theorem StepQ.callSV {n : Nat} {targs cargs : List T} {caps : List (List Tree)} {m₁ : Option τ} {res : τ → T} {t : τ} {V : T} (hc : TieF X.P n (cargs ++ caps.map T.el) m₁ res) (ht : m₁ = some t)
    (hg : guardT all.toList tmMin o.guard = some true) (ho : callZ tmMin o = some (n, targs, caps)) (hf : frzL hp targs = some cargs) (hsc : scalar (res t) = true) (hV : res t = V) : StepQ X all o tmMin hp V := by
  subst hV
  intro tm hm a w S E hk K Q' hK
  obtain ⟨vs, ps, hrun, hv, hps⟩ := callZ_ok hk (callZ_more hm ho) hc.1
  have hcall := hc.2 t ht w (fun b => S b ∨ ownRows hp E b) E (vs ++ ps) (fun b hb => hb.elim (hk.stab b) (fun ⟨id, _, hl, hβ⟩ => (hk.own id _ b hl hβ).2.1))
    ((frzL_ok hk (fun _ x => .inl x) (fun _ x => .inr x) hv hf E).append ((hps E).mono' (fun _ x => .inl x) (fun _ _ => rfl)))
  rw [guardT_ok hk (guardT_more hm hg), if_pos rfl]
  unfold Oper.wp
  rw [hrun, Oper.upon_enter]
  refine hcall.mono fun e w' ⟨v, S', he, hv', hkeep, _, _⟩ => ?_
  subst he
  exact hK v w' S E (hk.grow hkeep) (hv'.scalar hsc)
end

/-- As elem_of, the place being named. -/
theorem elem_at {P : Program} {H : Type} {e : TypeId × Value → H} {w : World} {m n el : Nat} {cs : List Value} {xs : List (DataW H × List MemPlace)} (hlen : xs.length = n)
    (hf : ∀ (i : Nat), i < n → DataW.trod e P w 0 (fun _ => true) true m el ((cs.drop (i * P.cellsOf el)).take (P.cellsOf el)) = xs[i]?) (i o : Nat) (hi : i < n) (ho : i * P.cellsOf el = o)
    {α : Type} {enc : α → List Tree} {wf : α → Prop} (hr : Reads P el enc wf) : ∃ y : α, wf y ∧ RTL w (old w) ((cs.drop o).take (P.cellsOf el)) (enc y) := ho ▸ elem_of hlen hf i hi hr

/-- From here on, whatever order the rest of the region draws, it comes to σ' with what le lists. l: what has come up. -/
def TieA (X : Cx) (ops : Array Oper) (fe : Nat) (le : List Bool) (fuel : Nat) (l : List Bool) (σ σ' : St) : Prop :=
  ∀ (Q : Exit → Act → World → Prop), (∀ c a w, ¬ Q (.panic c) a w) → (∀ a w, Sim X.w0 X.L X.nt σ' a w → wpAny X.P .any ops Q fe le.toArray a w) → ∀ a w, Sim X.w0 X.L X.nt σ a w → wpAny X.P .any ops Q fuel l.toArray a w

/-- Each of these operations may come next. -/
def AllA (X : Cx) (ops : Array Oper) (fe : Nat) (le : List Bool) (fuel : Nat) (l : List Bool) (σ σ' : St) (rs : List Nat) : Prop :=
  ∀ i ∈ rs, ∀ (Q : Exit → Act → World → Prop), (∀ c a w, ¬ Q (.panic c) a w) → (∀ a w, Sim X.w0 X.L X.nt σ' a w → wpAny X.P .any ops Q fe le.toArray a w) → ∀ a w, Sim X.w0 X.L X.nt σ a w → wpOp X.P ops Q i (wpAny X.P .any ops Q fuel (l.toArray.setIfInBounds i true)) a w

section
variable {ρ : Type} {X : Cx} {ks : List K} {ops : Array Oper} {fe fuel : Nat} {le l l' : List Bool} {σ σ₁ σ' : St} {m : Option ρ} {Q : ρ → Exit → St → Prop} {o : Oper}

theorem TieA.have_ {fuel₁ : Nat} {l₁ : List Bool} (h : TieA X ops fe le fuel₁ l₁ σ₁ σ') (k : TieA X ops fe le fuel₁ l₁ σ₁ σ' → TieA X ops fe le fuel l σ σ') : TieA X ops fe le fuel l σ σ' := k h

theorem TieA.done (hs : Sub σ' σ) : TieA X ops fe le fe le σ σ' := fun _ _ hQ a w hw => hQ a w (hw.sub hs)

theorem TieA.all (rs : List Nat) (hr : Region.ready .any ops l.toArray = rs) (hne : rs.isEmpty = false) (h : AllA X ops fe le fuel l σ σ' rs) : TieA X ops fe le (fuel + 1) l σ σ' := fun Q hp hQ a w hw =>
  wpAny_all hr (by rintro rfl; cases hne) fun i hi => h i hi Q hp hQ a w hw

theorem AllA.nil : AllA X ops fe le fuel l σ σ' [] := fun _ h => by cases h

theorem AllA.cons {i : Nat} {rs : List Nat} (l' : List Bool) (ho : ops[i]? = some o) (hl : l.set i true = l') (h₁ : TieO X ops [o] [] σ (some ()) (fun _ e σ'' => e = .normal ∧ Sub σ₁ σ'')) (h₂ : TieA X ops fe le fuel l' σ₁ σ') (h₃ : AllA X ops fe le fuel l σ σ' rs) : AllA X ops fe le fuel l σ σ' (i :: rs) := fun j hj Q hp hQ a w hw => by
  rcases List.mem_cons.1 hj with rfl | hj
  · have h := h₁ () rfl a w hw
    unfold wpOp
    simp only [ho]
    have next : ∀ a w, wpList X.P ops (after X.P [] (X.post fun e σ'' => e = .normal ∧ Sub σ₁ σ'')) [] a w → wpAny X.P .any ops Q fuel (l.toArray.setIfInBounds j true) a w := fun a w ⟨σ'', hs, _, e⟩ => by
      rw [List.setIfInBounds_toArray, hl]
      exact h₂ Q hp hQ a w (hs.sub e)
    unfold wpList at h
    split at h
    · rename_i hg
      rw [if_pos hg]
      rcases h with h | ⟨h1, h2⟩
      · refine .inl ?_
        revert h
        unfold Oper.wp
        generalize (execOp a.eval o).run X.P w = r
        intro h
        cases r with
        | ok n w' =>
          cases n <;> simp only [Oper.upon] at h ⊢
          all_goals first
            | exact next _ _ h
            | exact Calls.mono h (fun e w'' he => by cases e <;> first | exact next _ _ he | (obtain ⟨_, _, _, _, he, _⟩ := he; cases he) | (obtain ⟨_, _, he, _⟩ := he; cases he))
            | exact Rows.mono h (fun _ _ he => next _ _ he)
            | (obtain ⟨_, _, he, _⟩ := h; cases he)
            | exact h
        | halt x w' => cases x <;> simp only [Oper.upon] at h ⊢ <;> first | exact h | (obtain ⟨_, _, he, _⟩ := h; cases he)
      · obtain ⟨_, _, _, _, he, _⟩ := h2; cases he
    · rename_i hg
      rw [if_neg hg]
      exact next _ _ h
  · exact h₃ j hj Q hp hQ a w hw

theorem TieA.move {d : Nat} {x : Operand} {t : T} {tm : List (Nat × T)} {hp : List (Nat × Blk)} (i : Nat) (l' : List Bool) (ho : ops[i]? = some o) (hl : l.set i true = l') (hop : o.op = .move x ∨ o.op = .assign x) (hd : o.dst = some d) (hdn : Nat.blt d X.nt = true) (hg : o.guard = none)
    (hs : Region.noSelect ops = true) (hf : Region.free .any ops l.toArray i = true) (hr : (Region.ready .any ops l.toArray).contains i = true) (hx : val tm x = some t) (h : TieA X ops fe le fuel l' ⟨(d, t) :: tm, hp⟩ σ') :
    TieA X ops fe le (fuel + 1) l ⟨tm, hp⟩ σ' := fun Q hpn hQ a w ⟨S, E, hk⟩ => by
  have hv := hk.val hx
  refine wpAny_take ho hs hf hr (fun c a w hc => absurd hc (hpn _ _ _)) (v := a.eval x) (.inl ⟨?_, fun w' => ?_⟩) ?_
  · unfold Region.wanted; rw [hg]
  · rcases hop with hop | hop <;> (unfold execOp; rw [hop]; rfl)
  · rw [List.setIfInBounds_toArray, hl]
    exact h Q hpn hQ _ _ ⟨S, E, by rw [hd]; exact hk.put (Nat.le_of_ble_eq_true hdn) hv⟩

theorem TieA.take1 {d : Nat} {V : T} {tm : List (Nat × T)} {hp : List (Nat × Blk)} (i : Nat) (l' : List Bool) (ho : ops[i]? = some o) (hl : l.set i true = l') (hd : o.dst = some d) (hdn : Nat.blt d X.nt = true) (hg : o.guard = none)
    (hs : Region.noSelect ops = true) (hf : Region.free .any ops l.toArray i = true) (hr : (Region.ready .any ops l.toArray).contains i = true)
    (hx : ∀ S E a w, Ok X.w0 X.L X.nt ⟨tm, hp⟩ S E a w → ∃ v, (∀ w', (execOp a.eval o).run X.P w' = .ok (.value v) w') ∧ RV w S E v V) (h : TieA X ops fe le fuel l' ⟨(d, V) :: tm, hp⟩ σ') :
    TieA X ops fe le (fuel + 1) l ⟨tm, hp⟩ σ' := fun Q hpn hQ a w ⟨S, E, hk⟩ => by
  obtain ⟨v, hv, hr'⟩ := hx S E a w hk
  refine wpAny_take ho hs hf hr (fun c a w hc => absurd hc (hpn _ _ _)) (v := v) (.inl ⟨?_, hv⟩) ?_
  · unfold Region.wanted; rw [hg]
  · rw [List.setIfInBounds_toArray, hl]
    exact h Q hpn hQ _ _ ⟨S, E, by rw [hd]; exact hk.put (Nat.le_of_ble_eq_true hdn) hr'⟩

theorem TieA.fieldP {d s f sz p n id off : Nat} {fs : List (Nat × Nat)} {z : List Value} {x : Operand} {tm : List (Nat × T)} {hp : List (Nat × Blk)} (i : Nat) (l' : List Bool) (ho : ops[i]? = some o) (hl : l.set i true = l') (hop : o.op = .fieldAddr s x f) (hd : o.dst = some d) (hdn : Nat.blt d X.nt = true) (hg : o.guard = none)
    (hs : Region.noSelect ops = true) (hf : Region.free .any ops l.toArray i = true) (hr : (Region.ready .any ops l.toArray).contains i = true) (hx : val tm x = some (.ptr id off)) (hti : look X.tab s = some ⟨sz, .struct fs, z⟩) (hfs : fs[f]? = some (p, .succ n)) (h : TieA X ops fe le fuel l' ⟨(d, .ptr id (off + p)) :: tm, hp⟩ σ') :
    TieA X ops fe le (fuel + 1) l ⟨tm, hp⟩ σ' := TieA.take1 i l' ho hl hd hdn hg hs hf hr (fun S E a w hk => by
  obtain ⟨β, hpv, hE⟩ := (hk.val hx).ptr_inv
  exact ⟨_, fun w' => by simp [execOp, hop, hpv, fieldAddr_ok (X.htab s _ hti) hfs β off rfl], .ptr id _ β hE⟩) h

theorem TieA.fieldE {d s f sz p n : Nat} {cells : List Tree} {fs : List (Nat × Nat)} {z : List Value} {x : Operand} {tm : List (Nat × T)} {hp : List (Nat × Blk)} (i : Nat) (l' : List Bool) (ho : ops[i]? = some o) (hl : l.set i true = l') (hop : o.op = .fieldAddr s x f) (hd : o.dst = some d) (hdn : Nat.blt d X.nt = true) (hg : o.guard = none)
    (hs : Region.noSelect ops = true) (hf : Region.free .any ops l.toArray i = true) (hr : (Region.ready .any ops l.toArray).contains i = true) (hx : val tm x = some (.el cells)) (hti : look X.tab s = some ⟨sz, .struct fs, z⟩) (hfs : fs[f]? = some (p, .succ n)) (h : TieA X ops fe le fuel l' ⟨(d, .el (cells.drop p)) :: tm, hp⟩ σ') :
    TieA X ops fe le (fuel + 1) l ⟨tm, hp⟩ σ' := TieA.take1 i l' ho hl hd hdn hg hs hf hr (fun S E a w hk => by
  have hv := hk.val hx
  obtain ⟨b, o', hpv⟩ := hv.el_inv
  rw [hpv] at hv
  exact ⟨_, fun w' => by simp [execOp, hop, hpv, fieldAddr_ok (X.htab s _ hti) hfs b o' rfl], hv.el_drop p⟩) h

theorem TieA.fieldI {d s f sz p n id k sz' off : Nat} {fs : List (Nat × Nat)} {z : List Value} {x : Operand} {tm : List (Nat × T)} {hp : List (Nat × Blk)} (i : Nat) (l' : List Bool) (ho : ops[i]? = some o) (hl : l.set i true = l') (hop : o.op = .fieldAddr s x f) (hd : o.dst = some d) (hdn : Nat.blt d X.nt = true) (hg : o.guard = none)
    (hs : Region.noSelect ops = true) (hf : Region.free .any ops l.toArray i = true) (hr : (Region.ready .any ops l.toArray).contains i = true) (hx : val tm x = some (.pe id k sz' off)) (hti : look X.tab s = some ⟨sz, .struct fs, z⟩) (hfs : fs[f]? = some (p, .succ n)) (h : TieA X ops fe le fuel l' ⟨(d, .pe id k sz' (off + p)) :: tm, hp⟩ σ') :
    TieA X ops fe le (fuel + 1) l ⟨tm, hp⟩ σ' := TieA.take1 i l' ho hl hd hdn hg hs hf hr (fun S E a w hk => by
  have hv := hk.val hx
  generalize hpv : a.eval x = pv at hv
  cases hv with
  | pe _ _ _ _ β n' cap hE =>
    exact ⟨.pointer (some ⟨β, k * sz' + off + p, none⟩), fun w' => by simp [execOp, hop, hpv, fieldAddr_ok (X.htab s _ hti) hfs β _ rfl], by rw [Nat.add_assoc]; exact .pe id k sz' (off + p) β n' cap hE⟩) h

/-- A region that draws its order: its first operations come in any order, the rest (from h on) as they stand. -/
theorem TieS.draws {id : Nat} (h : Nat) (l lh : List Bool) (σ₁ : St) (hmx : X.P.follows .mixedOrders = true) (hQ : ∀ r c σ, ¬ Q r (.panic c) σ) (hl : (Array.replicate ops.size false).toList = l) (hle : Nat.ble h ops.size = true)
    (hlh : (List.range ops.size).map (fun j => Nat.blt j h) = lh) (ht : tailOk ops.toList h = true) (h₁ : TieA X ops (ops.size - h) lh ops.size l σ σ₁) (h₂ : TieO X ops (ops.toList.drop h) [] σ₁ m Q) : TieS X [.c (.region id ops true)] σ m Q := fun r hr a w ⟨S, E, hk⟩ => by
  have hle := Nat.le_of_ble_eq_true hle
  have hkeep : Keep (fun _ => False) w { w with drawn := w.drawn + 1 } := ⟨rfl, rfl, rfl, Nat.le_refl _, fun _ _ _ => rfl, Nat.le_succ _⟩
  have h3 := h₁ (X.post (Q r)) (fun c a w ⟨σ, _, hq⟩ => hQ r c σ hq) (fun a w hw => by
    refine any_tail ht (ops.size - h) h lh.toArray a w (Nat.le_refl _) (by omega) (by rw [← hlh]; simp) (fun j hj => ?_) (h₂ r hr a w hw)
    rw [← hlh, Array.getD_eq_getD_getElem?]
    simp only [List.getElem?_toArray, List.getElem?_map]
    rw [List.getElem?_range hj]
    simp only [Option.map_some, Option.getD_some]
    rw [Bool.eq_iff_iff, decide_eq_true_iff]
    exact ⟨fun c => Nat.le_of_ble_eq_true c, fun c => Nat.ble_eq_true_of_le c⟩) a _ ⟨S, E, hk.grow hkeep⟩
  rw [← hl, Array.toArray_toList] at h3
  exact wp_region_any (id := id) hmx h3
end
def ltM {α : Type} (g : α → α → Option Int) (x y : α) : Bool := decide ((g x y).getD 0 < 0)

/-- What is asked of a comparison on the elements of l: it answers; less is a strict weak order; it parts whatever two are not one. -/
structure SortOk {α : Type} (g : α → α → Option Int) (l : List α) : Prop where
  len : l.length < 4611686018427387904
  ans : ∀ x ∈ l, ∀ y ∈ l, ∃ c, g x y = some c
  irrefl : ∀ x ∈ l, ltM g x x = false
  trans : ∀ x ∈ l, ∀ y ∈ l, ∀ z ∈ l, ltM g x y = true → ltM g y z = true → ltM g x z = true
  ntrans : ∀ x ∈ l, ∀ y ∈ l, ∀ z ∈ l, ltM g x y = false → ltM g y z = false → ltM g x z = false
  tot : ∀ x ∈ l, ∀ y ∈ l, ltM g x y = false → ltM g y x = false → x = y

open Classical in
/-- slices.SortFunc(l, g): what l holds then. -/
noncomputable def sortM {α : Type} (g : α → α → Option Int) (l : List α) : Option (List α) := if SortOk g l then some (l.mergeSort fun x y => !ltM g y x) else none

theorem sortM_ok {α : Type} {g : α → α → Option Int} {l : List α} (h : SortOk g l) : sortM g l = some (l.mergeSort fun x y => !ltM g y x) := by
  unfold sortM; rw [if_pos h]
end Go.Pv
namespace Go.Pv

def bitAnd (k : IntKind) (x y : Int) : Int := k.wrap (BitVec.ofInt k.bits x &&& BitVec.ofInt k.bits y).toNat
def bitOr (k : IntKind) (x y : Int) : Int := k.wrap (BitVec.ofInt k.bits x ||| BitVec.ofInt k.bits y).toNat
def bitXor (k : IntKind) (x y : Int) : Int := k.wrap (BitVec.ofInt k.bits x ^^^ BitVec.ofInt k.bits y).toNat
def bitAndNot (k : IntKind) (x y : Int) : Int := k.wrap (BitVec.ofInt k.bits x &&& ~~~(BitVec.ofInt k.bits y)).toNat
def bitShl (k : IntKind) (x y : Int) : Int := k.wrap (x * 2 ^ (min y.toNat k.bits))
def bitShr (k : IntKind) (x y : Int) : Int := x.fdiv (2 ^ (min y.toNat k.bits))
/-- A list with other elements at some places. -/
abbrev lset {α : Type} (l : List α) (m : List (Nat × α)) : List α := m.foldl (fun l p => l.set p.1 p.2) l
/-- parts of rows: in bounds? -/
def chkM (lo hi : Int) (n : Nat) : Option Unit := if 0 ≤ lo ∧ lo ≤ hi ∧ hi ≤ n then some () else none
/-- A list with other elements from a place on. -/
def copyAt {α : Type} (l : List α) (lo : Nat) (r : List α) : List α := l.take lo ++ r ++ l.drop (lo + r.length)
abbrev copyVM {α : Type} (l : List α) (lo hi lo2 hi2 : Int) : List α := copyAt l lo.toNat (((l.drop lo2.toNat).take (hi2.toNat - lo2.toNat)).take (hi.toNat - lo.toNat))
abbrev clearVM {α : Type} (l : List α) (lo hi : Int) (z : α) : List α := copyAt l lo.toNat (List.replicate (hi.toNat - lo.toNat) z)
/-- shifts by what may be negative; math/bits -/
def shlM (k : IntKind) (x y : Int) : Option Int := if y < 0 then none else some (bitShl k x y)
def shrM (k : IntKind) (x y : Int) : Option Int := if y < 0 then none else some (bitShr k x y)
def len64M (x : Int) : Option Int := if 0 ≤ x ∧ x ≤ 18446744073709551615 then some (Lib.bitLen x.toNat : Int) else none
def mul64M (x y : Int) : Option (Int × Int) := if (0 ≤ x ∧ x ≤ 18446744073709551615) ∧ (0 ≤ y ∧ y ≤ 18446744073709551615) then some (x * y / 18446744073709551616, x * y % 18446744073709551616) else none
/-- int(uint(x) >> 1) -/
theorem half_eq {x : Int} (h0 : 0 ≤ x) (h1 : x ≤ 4611686018427387904) : w64 (bitShr .u64 (IntKind.u64.wrap (w64 x)) 1) = x / 2 := by
  rw [w64_of (n := x) (by omega) (by omega)]
  have e : IntKind.u64.wrap x = x := by
    unfold IntKind.wrap
    simp only [IntKind.bits, IntKind.signed]
    simp only [show (2 : Int) ^ 64 = 18446744073709551616 from rfl, Bool.false_and, Bool.false_eq_true, if_false]
    omega
  rw [e]
  have e2 : bitShr .u64 x 1 = x / 2 := by
    unfold bitShr
    show x.fdiv 2 = x / 2
    exact Int.fdiv_eq_ediv_of_nonneg x (by decide)
  rw [e2]
  exact w64_of (by omega) (by omega)

/-- zeros behind nil: what is there then -/
def zerosM {α : Type} (n : Int) (z : α) : Option (List α) := if 0 < n ∧ n ≤ 1073741824 then some (List.replicate n.toNat z) else none

/-- slices.Sort at int: what l holds then. -/
noncomputable def sortIM (l : List Int) : Option (List Int) := if l.length < 4611686018427387904 then some (l.mergeSort fun x y => decide (x ≤ y)) else none

/-- A list without what equals the one ahead of it; p: the one ahead. -/
def compG (p : Int) : List Int → List Int
  | [] => []
  | y :: l => bif y == p then compG y l else y :: compG y l
def compL : List Int → List Int
  | [] => []
  | x :: l => x :: compG x l
/-- slices.Compact at int. -/
def compactM (l : List Int) : Option (List Int) := if l.length ≤ 9223372036854775807 then some (compL l) else none

theorem sortIM_ok {l : List Int} (h : l.length < 4611686018427387904) : sortIM l = some (l.mergeSort fun x y => decide (x ≤ y)) := by
  unfold sortIM; rw [if_pos h]
theorem compactM_ok {l : List Int} (h : l.length ≤ 9223372036854775807) : compactM l = some (compL l) := by
  unfold compactM; rw [if_pos h]
theorem mem_compG {x : Int} : ∀ {l : List Int} {p : Int}, x ∈ p :: compG p l ↔ x ∈ p :: l
  | [], _ => Iff.rfl
  | y :: l, p => by
    unfold compG
    have ih := mem_compG (x := x) (l := l) (p := y)
    cases h : y == p
    · simp only [cond_false, List.mem_cons] at *
      rw [ih]
    · have e : y = p := by simpa using h
      subst e
      simp only [cond_true, List.mem_cons] at *
      rw [ih]
      constructor
      · exact fun h => .inr h
      · rintro (h | h)
        · exact .inl h
        · exact h
theorem mem_compL {x : Int} {l : List Int} : x ∈ compL l ↔ x ∈ l := by
  cases l with
  | nil => exact Iff.rfl
  | cons y l => exact mem_compG
theorem compG_snoc (x : Int) : ∀ (l : List Int) (p : Int), compG p (l ++ [x]) = compG p l ++ (if x = l.getLastD p then [] else [x])
  | [], p => by
    show (bif x == p then [] else [x]) = [] ++ (if x = p then [] else [x])
    by_cases h : x = p
    · rw [if_pos h, show (x == p) = true by simpa using h]; rfl
    · rw [if_neg h, show (x == p) = false by simpa using h]; rfl
  | y :: l, p => by
    simp only [List.cons_append, compG, List.getLastD_cons]
    rw [compG_snoc x l y]
    cases y == p <;> rfl
theorem compL_snoc (x : Int) : ∀ (l : List Int) (h : l ≠ []), compL (l ++ [x]) = compL l ++ (if x = l.getLast h then [] else [x])
  | [], h => (h rfl).elim
  | y :: l, _ => by
    have e : (y :: l).getLast (List.cons_ne_nil y l) = l.getLastD y := by
      cases l with
      | nil => rfl
      | cons z l => rw [List.getLast_cons (List.cons_ne_nil z l)]; rfl
    simp only [List.cons_append, compL]
    rw [compG_snoc, e]
end Go.Pv

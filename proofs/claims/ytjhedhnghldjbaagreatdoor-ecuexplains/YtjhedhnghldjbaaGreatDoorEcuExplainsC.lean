/- This file joins: The value machine, part Q: what the arguments of a row hold, as trees; and from a contract to a row. The value machine, part R: equality of structs; loops over lists and numbers as recursions. The value machine, part S: more loops as recursions; searching. Plain Lean. The value machine, part T: what an append to a row of the call's own does to the machine. The value machine, part U: a row of the call's own under a new value: appends. The value machine, part V: append, as a rule. The value machine, part W: the rule of append. The value machine, part Y: append under a name; a nil that becomes a row of the call's own. The value machine, part Z: elements of the call's own rows, read and written. The value machine, part Za: rules for elements of the call's own rows. The value machine, part X: names turned into others; blocks that somebody owns; contracts of functions that are lent blocks and hand back new ones. The value machine, part Xa: calls that are lent blocks and hand back new ones; states under other names. The value machine, part Xb: such contracts from bodies; nil slices that become rows of the call's own; boxes that stay as they are. -/
import Derived.Test.YtjhedhnghldjbaaGreatDoorEcuExplainsB
import Derived.ProofKit
import Derived.OpenShut
import Derived.WalkKit
import Derived.Below
import Derived.Carry
import Derived.Laws.StructEq
set_option linter.unusedSimpArgs false
set_option linter.unusedVariables false
namespace Go.Pv
open Go.RowKit Go.WideShapes Go.ChangeShapes
def RTL (w : World) (S : Nat → Prop) (cs : List Value) (ts : List Tree) : Prop := cs.length = ts.length ∧ ∀ j (h1 : j < cs.length) (h2 : j < ts.length), RT w S (cs[j]) (ts[j])
def old (w : World) : Nat → Prop := fun b => b < w.heap.size
/-- Whatever the machine reads as a datum of type t is a value of the Lean type α that meets wf. -/
def Reads (P : Program) (t : Nat) {α : Type} (enc : α → List Tree) (wf : α → Prop) : Prop :=
  ∀ (H : Type) (e : TypeId × Value → H) (w : World) (fuel : Nat) (cs : List Value) (x : DataW H × List MemPlace), DataW.trod e P w 0 (fun _ => true) true fuel t cs = some x →
    ∃ y : α, wf y ∧ RTL w (old w) cs (enc y)
section
variable {P : Program} {t : Nat}
theorem RTL.one {w : World} {S : Nat → Prop} {v : Value} {y : Tree} (h : RT w S v y) : RTL w S [v] [y] :=
  ⟨rfl, fun j h1 h2 => by have : j = 0 := (by simp at h1; omega); subst this; exact h⟩
theorem reads_int {k : IntKind} {enc : Int → List Tree} (ht : P.underlying t = some (.int k)) (henc : ∀ n, enc n = [.v (.int k n)]) : Reads P t enc (fun n => (Lit.int k n).wf = true) := by
  intro H e w fuel cs x h
  obtain ⟨n, rfl, _, hw⟩ := DataW.trod_int ht h
  exact ⟨n, hw, by rw [henc]; exact .one (.v _)⟩
theorem reads_bool {enc : Bool → List Tree} (ht : P.underlying t = some .bool) (henc : ∀ n, enc n = [.v (.bool n)]) : Reads P t enc (fun _ => True) := by
  intro H e w fuel cs x h
  obtain ⟨n, rfl, _⟩ := DataW.trod_bool ht h
  exact ⟨n, trivial, by rw [henc]; exact .one (.v _)⟩
def wfL {α : Type} (wf : α → Prop) (l : List α) : Prop := l.length ≤ 9223372036854775807 ∧ ∀ y ∈ l, wf y
theorem reads_slice {el : Nat} {α : Type} {enc : α → List Tree} {wf : α → Prop} {sz : Nat} (ht : P.underlying t = some (.slice el)) (hr : Reads P el enc wf) (hsz : P.cellsOf el = sz) (hpos : 0 < sz) (henc : ∀ y, (enc y).length = sz) :
    Reads P t (encS enc) (wfL wf) := by
  intro H e w fuel cs x h
  rcases DataW.trod_slice ht h with ⟨rfl, _⟩ | ⟨a, len, cap, elems, rest, n, _, rfl, _, _, hl, hm, hlen, hel, _, _⟩
  · exact ⟨[], ⟨by simp, by simp⟩, .one (.slE _ _)⟩
  · rw [hsz] at hel
    have each : ∀ i, i < len → ∃ (y : α) (cs : List Value), wf y ∧ RTL w (old w) cs (enc y) ∧ ∀ j, j < sz → w.cell? ((a.add (i * sz)).add j) = cs[j]? := by
      intro i hi
      have h1 := hel i hi
      rw [List.getElem?_eq_getElem (by omega), Option.bind_eq_some_iff] at h1
      obtain ⟨cs', hcs, hy⟩ := h1
      obtain ⟨y, hw, hrt⟩ := hr H e w n cs' _ hy
      exact ⟨y, cs', hw, hrt, (World.cells?_some hcs).2.2⟩
    by_cases h0 : len = 0
    · subst h0
      exact ⟨[], ⟨by simp, by simp⟩, .one (.slE _ _)⟩
    · let f : Nat → α := fun i => if h : i < len then (each i h).choose else (each 0 (by omega)).choose
      let l := (List.range len).map f
      have hf : ∀ i, i < len → wf (f i) ∧ ∃ cs : List Value, RTL w (old w) cs (enc (f i)) ∧ ∀ j, j < sz → w.cell? ((a.add (i * sz)).add j) = cs[j]? := by
        intro i hi
        have hfi : f i = (each i hi).choose := by simp [f, hi]
        rw [hfi]
        obtain ⟨cs, h1, h2, h3⟩ := (each i hi).choose_spec
        exact ⟨h1, cs, h2, h3⟩
      have hll : l.length = len := by simp [l]
      have hspot : a.spot = none := by
        obtain ⟨_, cs, h2, h3⟩ := hf 0 (by omega)
        have h4 := h3 0 hpos
        have hcl : 0 < cs.length := by rw [h2.1, henc]; exact hpos
        rw [List.getElem?_eq_getElem hcl] at h4
        have ea : (a.add (0 * sz)).add 0 = a := by simp [Addr.add]
        rw [ea] at h4
        unfold World.cell? at h4
        split at h4
        · split at h4
          · cases h4
          · rename_i hs; simpa using hs
        · cases h4
      obtain ⟨b, o, sp⟩ := a
      simp only at hspot
      subst hspot
      have hcell : ∀ i j, i < len → j < sz → ∃ v, w.cell? ⟨b, o + i * sz + j, none⟩ = some v ∧ ∀ (hj : j < (enc (f i)).length), RT w (old w) v ((enc (f i))[j]) := by
        intro i j hi hj
        obtain ⟨_, cs, h2, h3⟩ := hf i hi
        have hcl : j < cs.length := by rw [h2.1, henc]; exact hj
        have h4 := h3 j hj
        rw [addr_add, addr_add, List.getElem?_eq_getElem hcl] at h4
        exact ⟨_, h4, fun hj' => h2.2 j hcl hj'⟩
      let vs : Nat → Nat → Value := fun i j => (w.cell? ⟨b, o + i * sz + j, none⟩).getD undef
      refine ⟨l, ⟨by rw [hll]; unfold maxLen at hm; omega, fun y hy => ?_⟩, .one ?_⟩
      · obtain ⟨i, hi, rfl⟩ := List.mem_map.1 hy
        exact (hf i (List.mem_range.1 hi)).1
      · have hb : old w b := by
          obtain ⟨v, hv, _⟩ := hcell 0 0 (by omega) hpos
          have := World.block_lt_of_cell? w _ hv
          simpa [old] using this
        have hml : (l.map enc).length = len := by simp [hll]
        have key := RT.sl (w := w) (S := old w) b o cap sz (l.map enc) vs (by rw [hml]; exact hl) hb (fun r hr => by obtain ⟨y, _, rfl⟩ := List.mem_map.1 hr; exact henc y)
          (fun i j hi hj => by
            rw [hml] at hi
            obtain ⟨v, hv, _⟩ := hcell i j hi hj
            simp [vs, hv])
          (fun i j hi hj => by
            rw [hml] at hi
            have e1 : (l.map enc)[i]'(by rw [hml]; exact hi) = enc (f i) := by simp [l]
            have hj' : j < sz := by rw [e1, henc] at hj; exact hj
            obtain ⟨v, hv, hrt⟩ := hcell i j hi hj'
            have e2 : vs i j = v := by simp [vs, hv]
            rw [e2]
            have := hrt (by rw [henc]; exact hj')
            simpa only [e1] using this)
        rw [hml] at key
        have e3 : tS enc l = .sl len (l.map enc) := by simp [tS, hll]
        rw [e3]
        exact key
theorem rtl_nil {w : World} {S : Nat → Prop} {cs : List Value} {o : Nat} (h : cs.length = o) : RTL w S (cs.drop o) [] := by
  rw [List.drop_eq_nil_of_le (by omega)]
  exact ⟨rfl, fun j h1 => by simp at h1⟩
theorem rtl_cons {w : World} {S : Nat → Prop} {cs : List Value} {o o' n : Nat} {ts rest : List Tree} (h : RTL w S ((cs.drop o).take n) ts) (ho : o' = o + n) (k : RTL w S (cs.drop o') rest) : RTL w S (cs.drop o) (ts ++ rest) := by
  subst ho
  have e : cs.drop o = (cs.drop o).take n ++ cs.drop (o + n) := by rw [← List.drop_drop, List.take_append_drop]
  rw [e]
  refine ⟨by simp only [List.length_append, h.1, k.1], fun j h1 h2 => ?_⟩
  by_cases hj : j < ts.length
  · rw [List.getElem_append_left (by rw [h.1]; exact hj), List.getElem_append_left hj]
    exact h.2 j (by rw [h.1]; exact hj) hj
  · have hj' : ¬ j < ((cs.drop o).take n).length := by rw [h.1]; exact hj
    rw [List.getElem_append_right (by omega), List.getElem_append_right (by omega)]
    simp only [h.1]
    exact k.2 (j - ts.length) (by simp only [List.length_append] at h1; have := h.1; omega) (by simp only [List.length_append] at h2; omega)
/-- One field. -/
theorem field_of {H : Type} {e : TypeId × Value → H} {w : World} {n : Nat} {cs : List Value} {xs : List (DataW H × List MemPlace)} {fs : Array Field} (hlen : xs.length = fs.size)
    (hf : ∀ (i : Nat) (f : Field), fs[i]? = some f → DataW.trod e P w 0 (fun _ => true) true n f.type ((cs.drop f.offset).take (P.cellsOf f.type)) = xs[i]?) (i : Nat) {f : Field} (hi : fs[i]? = some f)
    {α : Type} {enc : α → List Tree} {wf : α → Prop} (hr : Reads P f.type enc wf) : ∃ y : α, wf y ∧ RTL w (old w) ((cs.drop f.offset).take (P.cellsOf f.type)) (enc y) := by
  have hlt : i < xs.length := by rw [hlen]; exact (Array.getElem?_eq_some_iff.1 hi).1
  have := hf i f hi
  rw [List.getElem?_eq_getElem hlt] at this
  exact hr H e w n _ _ this
/-- An argument, as a slot's content. -/
def ArgOk (P : Program) (t : Nat) {α : Type} (A : α → T) (wf : α → Prop) : Prop :=
  ∀ (H : Type) (e : TypeId × Value → H) (w : World) (base : Nat) (v : Value) (d : DataW H) (p : List MemPlace), Value.okWide P w .any base t v → DataW.Trod e P w 0 (fun _ => true) true t v d p →
    ∃ y : α, wf y ∧ ∀ E, RV w (old w) E v (A y)
theorem arg_one {α : Type} {enc : α → List Tree} {wf : α → Prop} {A : α → T} {tr : α → Tree} (hr : Reads P t enc wf) (hc : ∀ w base v, Value.okWide P w .any base t v → v.cells.toList = [v]) (henc : ∀ y, enc y = [tr y]) (hA : ∀ y, A y = .t (tr y)) : ArgOk P t A wf := by
  intro H e w base v d p hv ⟨fuel, h⟩
  rw [hc w base v hv] at h
  obtain ⟨y, hw, hl, hrt⟩ := hr H e w fuel _ _ h
  refine ⟨y, hw, fun E => ?_⟩
  rw [hA]
  have := hrt 0 (by simp) (by rw [henc]; simp)
  simp only [henc, List.getElem_cons_zero] at this
  exact .t this
theorem arg_int {k : IntKind} {enc : Int → List Tree} {A : Int → T} (ht : P.underlying t = some (.int k)) (hr : Reads P t enc (fun n => (Lit.int k n).wf = true)) (henc : ∀ y, enc y = [.v (.int k y)]) (hA : ∀ y, A y = .t (.v (.int k y))) :
    ArgOk P t A (fun n => (Lit.int k n).wf = true) := arg_one hr (fun w base v hv => by obtain ⟨n, rfl⟩ := okWide_int ht hv; rfl) henc hA
theorem arg_bool {enc : Bool → List Tree} {A : Bool → T} (ht : P.underlying t = some .bool) (hr : Reads P t enc (fun _ => True)) (henc : ∀ y, enc y = [.v (.bool y)]) (hA : ∀ y, A y = .t (.v (.bool y))) :
    ArgOk P t A (fun _ => True) := arg_one hr (fun w base v hv => by obtain ⟨n, rfl⟩ := okWide_bool ht hv; rfl) henc hA
theorem arg_slice {el : Nat} {α : Type} {enc : α → List Tree} {wf : α → Prop} {A : List α → T} (ht : P.underlying t = some (.slice el)) (hr : Reads P t (encS enc) (wfL wf)) (hA : ∀ y, A y = .t (tS enc y)) :
    ArgOk P t A (wfL wf) := arg_one hr (fun w base v hv => by obtain ⟨a, n, c, rfl⟩ := okWide_slice ht hv; rfl) (fun _ => rfl) hA
theorem arg_struct {fs : Array Field} {α : Type} {enc : α → List Tree} {wf : α → Prop} {A : α → T} (ht : P.underlying t = some (.struct fs)) (hr : Reads P t enc wf) (hA : ∀ y, A y = .agg ((enc y).map .t)) : ArgOk P t A wf := by
  intro H e w base v d p hv ⟨fuel, h⟩
  obtain ⟨cs, rfl, _⟩ := okWide_struct ht hv
  obtain ⟨y, hw, hl, hrt⟩ := hr H e w fuel _ _ h
  refine ⟨y, hw, fun E => ?_⟩
  rw [hA]
  have := RV.agg (w := w) (S := old w) (E := E) cs.toList ((enc y).map .t) (by simpa [Value.cells] using hl) (fun j h1 h2 => by
    simp only [List.getElem_map]
    exact .t (hrt j h1 (by simpa using h2)))
  simpa using this
/-- From a contract: a call that returns true and leaves alone what was there. -/
theorem TieF.calls {d : Bool} {n : Nat} {args : List T} {m : Option Bool} (h : TieF P n args m (fun r => .t (.v (.bool r))) d) (hm : m = some true) {w : World} {vs : List Value} (hv : RVL w (old w) (fun _ => undef) vs args) (hgl : GlL P w (fun _ => False)) :
    Calls P n vs.toArray w fun e w' => e = .returned (.bool true) ∧ Below w.heap.size w w' :=
  (h.2 true hm w (old w) _ vs hgl (fun _ hb => hb) hv).mono fun e w' ⟨v, S', he, hv, hk, _, _⟩ => by
    have := hv.tv
    subst this
    exact ⟨he, hk.os, hk.tape, hk.output, hk.size, fun k hk' => hk.block k hk' (fun x => x)⟩
theorem rvl_nil {w : World} {S : Nat → Prop} {E : Nat → Value} : RVL w S E [] [] := ⟨rfl, fun j h => by simp at h⟩
theorem rvl_cons {w : World} {S : Nat → Prop} {E : Nat → Value} {v : Value} {t : T} {vs : List Value} {l : List T} (h : RV w S E v t) (k : RVL w S E vs l) : RVL w S E (v :: vs) (t :: l) := by
  refine ⟨by simp [k.1], fun j a b => ?_⟩
  cases j with
  | zero => exact h
  | succ j => exact k.2 j (by simpa using a) (by simpa using b)
end
end Go.Pv
namespace Go.Pv
open Go.RowKit
def tvs (vs : List Value) : List T := vs.map fun v => .t (.v v)
def EqOk (P : Program) (ty : Nat) (vs us : List Value) (b : Bool) : Prop :=
  (∀ w, (Op.equalIn 10000 ty (.agg vs.toArray) (.agg us.toArray)).run P w = .ok b w) ∧ P.eqGuardType P.depth ty = false
theorem agg_tvs {w : World} {S : Nat → Prop} {E : Nat → Value} {v : Value} {vs : List Value} (h : RV w S E v (.agg (tvs vs))) : v = .agg vs.toArray := by
  cases h with
  | agg cs _ hl hr =>
    congr 2
    refine List.ext_getElem (by simpa [tvs] using hl) fun j h1 h2 => ?_
    have := hr j h1 (by simpa [tvs] using h2)
    simp only [tvs, List.getElem_map] at this
    exact this.tv
section
variable {ρ τ α : Type} {X : Cx} {ks : List K} {tm : List (Nat × T)} {hp : List (Nat × Blk)} {m : Option ρ} {Q : ρ → Exit → St → Prop} {all : Array Oper} {o : Oper} {rest : List Oper} {V : T}
theorem eq_run {ty yt : Nat} {x y : Operand} {vs us : List Value} {b : Bool} {a : Act} {w : World} (he : EqOk X.P ty vs us b) (hx : a.eval x = .agg vs.toArray) (hy : a.eval y = .agg us.toArray) :
    (o.op = .binOp .eql ty x y yt → (execOp a.eval o).run X.P w = .ok (.value (.bool b)) w) ∧ (o.op = .binOp .neq ty x y yt → (execOp a.eval o).run X.P w = .ok (.value (.bool (!b))) w) := by
  constructor <;> intro ho
  · simp only [execOp, ho, hx, hy, Sem.run_bind, run_eqGuard_agg w .eql ty x y _ _ he.2, Result.andThen_ok, run_eql_struct, he.1 w]; rfl
  · simp only [execOp, ho, hx, hy, Sem.run_bind, run_eqGuard_agg w .neq ty x y _ _ he.2, Result.andThen_ok, run_neq_struct, he.1 w]; rfl
end
section
variable {P : Program} {w : World}
theorem eqf_nil {d : Nat} {xs ys : Array Value} : (Op.eqFields d xs ys []).run P w = .ok true w := rfl
theorem eqf_cons {d : Nat} {f : Field} {fs : List Field} {xs ys : Array Value} {a b : Value} {c r : Bool} (hn : f.name ≠ "_") (h1 : (part f.type xs f.offset).run P w = .ok a w) (h2 : (part f.type ys f.offset).run P w = .ok b w)
    (h3 : (Op.equalIn d f.type a b).run P w = .ok c w) (h4 : (Op.eqFields d xs ys fs).run P w = .ok r w) : (Op.eqFields d xs ys (f :: fs)).run P w = .ok (c && r) w := by
  cases c <;> simp [Op.eqFields, hn, h1, h2, h3, h4]
theorem part_one {t : Nat} {ti : TI} {cs : Array Value} {off : Nat} {v : Value} (hti : TIok P t ti) (hag : ti.desc.isAgg = false) (h : cs[off]? = some v) : (part t cs off).run P w = .ok v w := by
  simp [part, hti.run_agg, hag, h]
theorem eq_struct {d t : Nat} {xs ys : Array Value} {fs : List Field} {b : Bool} (hf : P.underlying t = some (.struct (P.fieldsOf t))) (hs : P.stoodInHeld t = false) (hl : (P.fieldsOf t).toList = fs) (h : (Op.eqFields d xs ys fs).run P w = .ok b w) :
    (Op.equalIn (d + 1) t (.agg xs) (.agg ys)).run P w = .ok b w := by
  rw [run_equalIn_struct w d t xs ys hf hs, hl, h]
end
/-! ### loops as recursions (plain Lean) -/
theorem w64_of {n : Int} (h1 : -9223372036854775808 ≤ n) (h2 : n ≤ 9223372036854775807) : w64 n = n := by
  unfold w64 IntKind.wrap
  simp only [IntKind.bits, IntKind.signed]
  simp only [show (2 : Int) ^ 64 = 18446744073709551616 from rfl, show (2 : Int) ^ (64 - 1) = 9223372036854775808 from rfl, Bool.true_and, decide_eq_true_eq]
  split <;> omega
def stepsN {S R : Type} (f : Int → S → Option (Fl S R)) : Nat → Int → S → Option (S ⊕ R)
  | 0, _, s => some (.inl s)
  | k + 1, i, s => (f i s).bind fun x => match x with
    | .next s' => stepsN f k (i + 1) s'
    | .brk s' => some (.inl s')
    | .ret r => some (.inr r)
def stepsL {α S R : Type} (f : Int → α → S → Option (Fl S R)) : List α → Int → S → Option (S ⊕ R)
  | [], _, s => some (.inl s)
  | y :: l, i, s => (f i y s).bind fun x => match x with
    | .next s' => stepsL f l (i + 1) s'
    | .brk s' => some (.inl s')
    | .ret r => some (.inr r)
theorem loopM_next {S B : Type} {mb : S → Option (S ⊕ B)} {s s' : S} (h : mb s = some (.inl s')) : loopM mb s = loopM mb s' := by rw [loopM_eq, h]; rfl
theorem loopM_out {S B : Type} {mb : S → Option (S ⊕ B)} {s : S} {b : B} (h : mb s = some (.inr b)) : loopM mb s = some b := by rw [loopM_eq, h]; rfl
theorem rangeN_steps {S R : Type} (n : Nat) (hn : n ≤ 9223372036854775807) (f : Int → S → Option (Fl S R)) (s : S) : rangeN (n : Int) f s = stepsN f n 0 s := by
  have key : ∀ (k : Nat) (i : Nat) (s : S), i + k = n → loopM (rangeBN (n : Int) f) ((i : Int), s) = stepsN f k i s := by
    intro k
    induction k with
    | zero =>
      intro i s hi
      have : ¬ ((i : Int) < (n : Int)) := by omega
      exact loopM_out (by simp [rangeBN, this])
    | succ k ih =>
      intro i s hi
      have hlt : (i : Int) < (n : Int) := by omega
      rw [loopM_eq]
      simp only [rangeBN, hlt, decide_true, cond_true, stepsN]
      cases hf : f i s with
      | none => rfl
      | some x =>
        simp only [Option.bind_some]
        cases x with
        | next s' =>
          simp only [rangeK, Option.bind_some]
          have := ih (i + 1) s' (by omega)
          rw [w64_of (by omega) (by omega)]
          push_cast at this
          exact this
        | brk s' => simp [rangeK]
        | ret r => simp [rangeK]
  have := key n 0 s (by omega)
  simpa using this
theorem getI_nat {α : Type} (l : List α) (i : Nat) : getI l (i : Int) = l[i]? := by simp [getI]
/-- A counting loop over a list that leaves at the first element that is not p. -/
theorem loopM_allL {α S B : Type} {mb : S → Option (S ⊕ B)} (σ : Nat → S) {p : α → Bool} {b0 b1 : B} (l : List α) (hend : mb (σ l.length) = some (.inr b0)) (h : ∀ k y, l[k]? = some y → mb (σ k) = some (bif p y then .inl (σ (k + 1)) else .inr b1)) :
    loopM mb (σ 0) = some (bif l.all p then b0 else b1) := by
  have key : ∀ (r : List α) (i : Nat), l.drop i = r → i ≤ l.length → loopM mb (σ i) = some (bif r.all p then b0 else b1) := by
    intro r
    induction r with
    | nil =>
      intro i hd hi
      have : i = l.length := by have := List.drop_eq_nil_iff.1 hd; omega
      subst this
      exact loopM_out hend
    | cons y r ih =>
      intro i hd hi
      have hi' : i < l.length := by
        rcases Nat.lt_or_ge i l.length with h | h
        · exact h
        · rw [List.drop_eq_nil_of_le h] at hd; cases hd
      have hy : l[i]? = some y := by rw [← List.head?_drop, hd]; rfl
      have hd' : l.drop (i + 1) = r := by rw [← List.drop_drop, hd]; rfl
      have h1 := h i y hy
      rw [List.all_cons]
      cases hp : p y
      · rw [hp] at h1; exact loopM_out h1
      · rw [hp] at h1; rw [loopM_next h1, ih (i + 1) hd' (by omega)]; rfl
  exact key l 0 rfl (Nat.zero_le _)
end Go.Pv
namespace Go.Pv
open Go.RowKit
/-- A loop over the numbers below a list's length that begins with that element. -/
theorem rangeN_list {α S R : Type} (l : List α) (hn : l.length ≤ 9223372036854775807) (g : Int → α → S → Option (Fl S R)) (s : S) :
    rangeN (l.length : Int) (fun i s => (getI l i).bind fun x => g i x s) s = stepsL g l 0 s := by
  rw [rangeN_steps _ hn]
  have key : ∀ (r : List α) (i : Nat) (s : S), l.drop i = r → stepsN (fun i s => (getI l i).bind fun x => g i x s) r.length (i : Int) s = stepsL g r (i : Int) s := by
    intro r
    induction r with
    | nil => intro i s _; rfl
    | cons y r ih =>
      intro i s hd
      have hy : l[i]? = some y := by rw [← List.head?_drop, hd]; rfl
      have hd' : l.drop (i + 1) = r := by rw [← List.drop_drop, hd]; rfl
      simp only [List.length_cons, stepsN, stepsL, getI_nat, hy, Option.bind_some]
      cases hg : g i y s with
      | none => rfl
      | some x =>
        cases x with
        | next s' =>
          have := ih (i + 1) s' hd'
          push_cast at this
          simpa using this
        | brk s' => rfl
        | ret r' => rfl
  have := key l 0 s rfl
  simpa using this
/-- A search by index. -/
theorem stepsL_index {α : Type} {f : Int → α → Unit → Option (Fl Unit Int)} {p : α → Bool} : ∀ (l : List α) (i : Int), 0 ≤ i → (∀ i, ∀ y ∈ l, f i y () = some (bif p y then .ret i else .next ())) →
    ∃ r, stepsL f l i () = some r ∧ (match r with | .inl _ => l.any p = false | .inr j => 0 ≤ j ∧ l.any p = true)
  | [], _, _, _ => ⟨.inl (), rfl, rfl⟩
  | y :: l, i, hi, h => by
    simp only [stepsL, h i y (List.mem_cons_self ..), Option.bind_some, List.any_cons]
    cases hp : p y
    · obtain ⟨r, h1, h2⟩ := stepsL_index l (i + 1) (by omega) (fun i y' hy => h i y' (List.mem_cons_of_mem _ hy))
      refine ⟨r, h1, ?_⟩
      cases r <;> simpa using h2
    · exact ⟨.inr i, rfl, hi, rfl⟩
theorem index_any {α : Type} (l : List α) (hn : l.length ≤ 9223372036854775807) (f : α → Option Bool) (p : α → Bool) (h : ∀ y ∈ l, f y = some (p y)) :
    (Option.bind (Option.bind (rangeN (l.length : Int) (fun (i : Int) (_ : Unit) => Option.bind (getI l i) fun x => Option.bind (f x) fun v => bif v then (some (Fl.ret i)) else (some (Fl.next ()))) ()) fun (t : Unit ⊕ Int) => match t with | .inl _ => (some (-1)) | .inr r2 => some r2) fun v => some (decide (v ≥ 0))) = some (l.any p) := by
  rw [rangeN_list l hn (fun (i : Int) x (_ : Unit) => Option.bind (f x) fun v => bif v then (some (Fl.ret i)) else (some (Fl.next ())))]
  obtain ⟨r, h1, h2⟩ := stepsL_index (f := fun (i : Int) x (_ : Unit) => Option.bind (f x) fun v => bif v then (some (Fl.ret i)) else (some (Fl.next ()))) (p := p) l 0 (Int.le_refl 0) (fun i y hy => by
    simp only [h y hy, Option.bind_some]; cases p y <;> rfl)
  rw [h1]
  cases r with
  | inl u => simp only [Option.bind_some]; simp at h2; simp; intro x hx; simpa using h2 x hx
  | inr j => simp only [Option.bind_some]; rw [h2.2]; simp [h2.1]
end Go.Pv
namespace Go.Pv
open Go.RowKit
/-- A value that is a whole row of its own: the first n elements are xs. -/
def OwnV (w : World) (v : Value) (e sz n : Nat) (xs : List Value) : Prop :=
  (v = .slice none 0 0 ∧ n = 0 ∧ xs = []) ∨
  ∃ (g cap : Nat) (cur : List Value), v = .slice (some ⟨g, 0, none⟩) n cap ∧ w.heap[g]? = some (.cells cur.toArray e (0, 0)) ∧ n ≤ cap ∧ cap ≤ maxLen ∧ cur.length = cap * sz ∧ cur.take (n * sz) = xs
theorem run_append_none {P : Program} {w : World} {t ty e : Nat} {ti : TI} {v x : Value} {n c : Nat} {xs : List Value} {a : Option Addr} (ht : P.underlying t = some (.slice e)) (hte : TIok P e ti) (hv : OwnV w v e ti.size n xs) (hx : x = .slice a 0 c) :
    (Builtin.append_ #[t, t] ty #[v, x]).run P w = .ok v w := by
  obtain ⟨i, d, hi, hs, _⟩ := hte
  subst hx
  have hf : (Builtin.firstCells i.size 0 (.slice a 0 c)).run P w = .ok #[] w := by
    cases a <;> simp [Builtin.firstCells, loadCells, loadCellsFrom]
  rcases hv with ⟨rfl, rfl, rfl⟩ | ⟨g, cap, cur, rfl, hg, hn, _⟩
  · simp [Builtin.append_, run_underlying ht, sizeOf, typeInfo, hi, Builtin.lenOf, hf]
  · simp [Builtin.append_, run_underlying ht, sizeOf, typeInfo, hi, Builtin.lenOf, hf, hn, storeCells]
theorem run_append_some {P : Program} {w : World} {t ty e : Nat} {ti : TI} {v : Value} {n m c : Nat} {xs news : List Value} {a : Addr} (ht : P.underlying t = some (.slice e)) (hte : TIok P e ti) (hz : ti.zero.length = ti.size) (hv : OwnV w v e ti.size n xs)
    (hl : news.length = m * ti.size) (hnews : ∀ j u, news[j]? = some u → w.cell? (a.add j) = some u) (h1 : ∀ u ∈ news, u.oneCell' = true) (h0 : 0 < m) (hmax : n + m ≤ 1073741824) :
    ∃ v' w', (Builtin.append_ #[t, t] ty #[v, .slice (some a) m c]).run P w = .ok v' w' ∧ Keep true (fun b => blkOf v = some b) w w' ∧ OwnV w' v' e ti.size (n + m) (xs ++ news) ∧
      (∀ b, blkOf v' = some b → b < w'.heap.size ∧ (blkOf v = some b ∨ w.heap.size ≤ b)) := by
  obtain ⟨i, d, hi, hs, _, _, ⟨z, hzz, hzc⟩, hby⟩ := hte
  rw [← hs] at hv hl hz ⊢
  have hzs : z.cells.size = i.size := by rw [← hz, ← hzc]; simp
  have hbytes : (n + m) * i.bytes ≤ 140737488355328 := by
    have := Nat.mul_le_mul hmax hby
    omega
  have grown : ∀ (old : Nat), old < n + m → xs.length = n * i.size →
      OwnV (w.drew.alloc (.cells (xs.toArray ++ news.toArray ++ Builtin.zeroCells z.cells (grownCap w (n + m) old e - (n + m))) e)) (.slice (some ⟨w.heap.size, 0, none⟩) (n + m) (grownCap w (n + m) old e)) e i.size (n + m) (xs ++ news) := by
    intro old ho hxl
    have hge := grownCap_ge w (n + m) old e
    have hcm : grownCap w (n + m) old e ≤ maxLen := grownCap_le_maxLen w (n + m) old e (by simp only [maxLen]; omega)
    have hlen : (xs ++ news).length = (n + m) * i.size := by rw [List.length_append, hxl, hl, Nat.add_mul]
    refine .inr ⟨w.heap.size, _, (xs ++ news) ++ (Builtin.zeroCells z.cells (grownCap w (n + m) old e - (n + m))).toList, rfl, ?_, hge, hcm, ?_, ?_⟩
    · have : ((xs ++ news) ++ (Builtin.zeroCells z.cells (grownCap w (n + m) old e - (n + m))).toList).toArray = xs.toArray ++ news.toArray ++ Builtin.zeroCells z.cells (grownCap w (n + m) old e - (n + m)) := by simp
      rw [this]
      exact heap_alloc_new w.drew _
    · rw [List.length_append, hlen, Array.length_toList, size_zeroCells, hzs, ← Nat.add_mul]
      congr 1
      omega
    · rw [← hlen]
      exact List.take_left
  have kept : ∀ o, Keep true (fun b => blkOf v = some b) w (w.drew.alloc o) := fun o => ⟨rfl, rfl, rfl, by simp, fun k hk _ => Below.heap_alloc w.drew _ _ hk, fun _ => Nat.le_succ _⟩
  rcases hv with ⟨rfl, rfl, rfl⟩ | ⟨g, cap, cur, rfl, hg, hn, hcm, hcs, htake⟩
  · have hr := run_append_nil (P := P) w t ty e i z ht hi hzz a m c news hl hnews h0 (by omega) (by have hb := hbytes; simp only [Nat.zero_add] at hb; omega)
    have hgr := grown 0 (by omega) (by simp)
    simp only [Nat.zero_add, List.nil_append, Array.empty_append] at hgr ⊢
    exact ⟨_, _, hr, kept _, hgr, fun b hb => by cases hb; simp⟩
  · have hxl : xs.length = n * i.size := by
      rw [← htake, List.length_take, hcs]
      exact Nat.min_eq_left (Nat.mul_le_mul_right _ hn)
    by_cases hroom : n + m ≤ cap
    · have hfit : n * i.size + news.length ≤ cur.toArray.size := by rw [hl, List.size_toArray, hcs, ← Nat.add_mul]; exact Nat.mul_le_mul_right _ hroom
      have hr := run_append_room (P := P) w t ty e i ht hi g n cap cur.toArray hg a m c news hl hnews h1 hroom hfit
      refine ⟨_, _, hr, ⟨rfl, rfl, rfl, by simp, fun k _ hk => setRow_other w g k _ (fun e => hk (by simp [blkOf, e])), fun _ => Nat.le_refl _⟩, .inr ⟨g, cap, _, rfl, setRow_heap w g cur.toArray _ e _ hg, hroom, hcm, ?_, ?_⟩, fun b hb => ?_⟩
      · simp only [List.length_append, List.length_take, List.length_drop]
        rw [hl, hcs]
        have h2 : n * i.size + m * i.size ≤ cap * i.size := by rw [← Nat.add_mul]; exact Nat.mul_le_mul_right _ hroom
        have h3 : n * i.size ≤ cap * i.size := Nat.mul_le_mul_right _ hn
        omega
      · rw [htake]
        have hlen : (xs ++ news).length = (n + m) * i.size := by rw [List.length_append, hxl, hl, Nat.add_mul]
        rw [← hlen]
        exact List.take_left
      · cases hb
        refine ⟨?_, .inl rfl⟩
        have := (Array.getElem?_eq_some_iff.1 hg).1
        simpa using this
    · have holds : ∀ j u, xs[j]? = some u → w.cell? ((⟨g, 0, none⟩ : Addr).add j) = some u := by
        intro j u hu
        have hadd : (⟨g, 0, none⟩ : Addr).add j = ⟨g, j, none⟩ := by rw [addr_add]; simp
        rw [hadd, cell_of_row w g j _ e (0, 0) hg]
        rw [← htake, List.getElem?_take] at hu
        split at hu
        · simpa using hu
        · cases hu
      have hr := run_append_grow (P := P) w t ty e i z ht hi hzz ⟨g, 0, none⟩ n cap xs hxl holds a m c news hl hnews (by omega) (by omega) (growslice_fits (by omega) hbytes)
      exact ⟨_, _, hr, kept _, grown cap (by omega) hxl, fun b hb => by cases hb; simp⟩
end Go.Pv
namespace Go.Pv
open Go.RowKit
section
variable {w0 : World} {L : Lim} {nt : Nat} {tm : List (Nat × T)} {hp : List (Nat × Blk)} {S : Nat → Prop} {E : Nat → Value} {a : Act} {w w' : World}
/-- The block of v is turned, or left for a new one; the rest of the state stands. -/
theorem Ok.regrow (h : Ok w0 L nt ⟨tm, hp⟩ S E a w) {id : Nat} {v v' : Value} {b : Blk} (hbig : Nat.blt id big = true) (hf : freshT id tm = true) (hb : freshB id hp = true)
    (hv : ∀ β, blkOf v = some β → ¬ S β ∧ β < w.heap.size ∧ (w0.heap.size ≤ β ∨ L.lent β)) (hd : ∀ i blk β, look hp i = some blk → blkOf v = some β → blkOf (E i) = some β → False)
    (hk : Keep L.dr (fun x => blkOf v = some x) w w') (hv' : ∀ β, blkOf v' = some β → β < w'.heap.size ∧ (blkOf v = some β ∨ w.heap.size ≤ β))
    (hok : ∀ E', BlkOk w' S E' v' b) : ∃ E', E' id = v' ∧ Ok w0 L nt ⟨tm, (id, b) :: hp⟩ S E' a w' := by
  let E' : Nat → Value := fun i => if i = id then v' else E i
  have hE : ∀ i, i ≠ id → E' i = E i := fun i hi => by simp [E', hi]
  have hid : E' id = v' := by simp [E']
  have hS : ∀ x, S x → w'.heap[x]? = w.heap[x]? := fun x hx => hk.block x (h.stab x hx) (fun e => (hv x e).1 hx)
  have hsz := h.keep.size
  refine ⟨E', hid, { keep := h.keep.trans hk (fun x hx => (hv x hx).2.2.symm), stab := fun x hx => Nat.lt_of_lt_of_le (h.stab x hx) hk.size, base := h.base, size := h.size, defers := h.defers, tm := ?_, hp := ?_, own := ?_, dist := ?_, pin := fun i hi => by rw [hE i (fun e => by have : id < big := Nat.le_of_ble_eq_true hbig; omega)]; exact h.pin i hi }⟩
  · exact fun k t ht => (h.tm k t ht).mono (fun _ x => x) hS fun i hi => hE i fun e => by
      have := freshT_look hf k t ht; subst e; rw [this] at hi; cases hi
  · intro i blk hl
    simp only [look] at hl
    by_cases he : id = i
    · subst he
      simp only [Nat.beq_refl, cond_true, Option.some.injEq] at hl
      subst hl; rw [hid]; exact hok E'
    · simp only [beq_ne he, cond_false] at hl
      rw [hE i (fun e => he e.symm)]
      exact (h.hp i blk hl).mono (fun _ x => x) hS (fun β hβ => hk.block β (h.own i blk β hl hβ).2.1 (fun e => hd i blk β hl e hβ)) fun j hj => hE j fun e => by
        have := (freshB_look hb i blk hl).2; subst e; rw [this] at hj; cases hj
  · intro i blk β hl hβ
    simp only [look] at hl
    by_cases he : id = i
    · subst he
      rw [hid] at hβ
      obtain ⟨h1, h2⟩ := hv' β hβ
      rcases h2 with h2 | h2
      · exact ⟨(hv β h2).1, h1, (hv β h2).2.2⟩
      · exact ⟨fun hs => by have := h.stab β hs; omega, h1, .inl (by omega)⟩
    · simp only [beq_ne he, cond_false] at hl
      rw [hE i (fun e => he e.symm)] at hβ
      have := h.own i blk β hl hβ
      exact ⟨this.1, Nat.lt_of_lt_of_le this.2.1 hk.size, this.2.2⟩
  · intro i i' blk blk' β hl hl' hβ hβ'
    simp only [look] at hl hl'
    have clash : ∀ j bj, look hp j = some bj → blkOf v' = some β → blkOf (E j) = some β → False := fun j bj hj h1 h2 => by
      rcases (hv' β h1).2 with h3 | h3
      · exact hd j bj β hj h3 h2
      · have := (h.own j bj β hj h2).2.1; omega
    by_cases he : id = i <;> by_cases he' : id = i'
    · exact he.symm.trans he'
    · subst he
      simp only [beq_ne he', cond_false] at hl'
      rw [hid] at hβ
      rw [hE i' (fun e => he' e.symm)] at hβ'
      exact (clash i' blk' hl' hβ hβ').elim
    · subst he'
      simp only [beq_ne he, cond_false] at hl
      rw [hid] at hβ'
      rw [hE i (fun e => he e.symm)] at hβ
      exact (clash i blk hl hβ' hβ).elim
    · simp only [beq_ne he, beq_ne he', cond_false] at hl hl'
      rw [hE i (fun e => he e.symm)] at hβ
      rw [hE i' (fun e => he' e.symm)] at hβ'
      exact h.dist i i' blk blk' β hl hl' hβ hβ'
theorem pos_of_mul {j a s : Nat} (h : j < a * s) : 0 < s := by
  rcases Nat.eq_zero_or_pos s with h1 | h1
  · subst h1; simp at h
  · exact h1
def oneTree : Tree → Bool
  | .v x => x.oneCell'
  | .sl _ _ => true
theorem RT.one {v : Value} {t : Tree} (h : RT w S v t) (ht : oneTree t = true) : v.oneCell' = true := by
  cases h <;> first | exact ht | rfl
/-- The row that a frozen slice or one of the call's own is: its cells, one after another. -/
theorem rows_cells {v : Value} {m sz : Nat} {rs : List (List Tree)} (h : RT w S v (.sl m rs)) (hsz : ∀ r ∈ rs, r.length = sz) (hone : ∀ r ∈ rs, ∀ t ∈ r, oneTree t = true) :
    m = rs.length ∧ ∃ (ad : Option Addr) (c : Nat), v = .slice ad m c ∧ (0 < m → ∃ (x : Addr) (news : List Value), ad = some x ∧ news.length = m * sz ∧ (∀ j u, news[j]? = some u → w.cell? (x.add j) = some u) ∧ (∀ u ∈ news, u.oneCell' = true) ∧
      ∀ i j (hi : i < rs.length) (hj : j < (rs[i]).length) (hb : i * sz + j < news.length), RT w S (news[i * sz + j]) ((rs[i])[j])) := by
  cases h with
  | slE a c => exact ⟨rfl, a, c, rfl, fun h => absurd h (by omega)⟩
  | sl b o c sz' rows vs _ hb hsz' hc hr =>
    refine ⟨rfl, _, c, rfl, fun h0 => ⟨_, (List.range (rs.length * sz)).map (fun k => vs (k / sz) (k % sz)), rfl, by simp, ?_, ?_, ?_⟩⟩
    all_goals
      have hne : sz' = sz := by rw [← hsz' (rs[0]) (List.getElem_mem h0), hsz (rs[0]) (List.getElem_mem h0)]
      subst hne
    · intro j u hu
      rw [List.getElem?_map] at hu
      obtain ⟨k, hk, rfl⟩ := Option.map_eq_some_iff.1 hu
      obtain ⟨hj, rfl⟩ := List.getElem?_eq_some_iff.1 hk
      simp only [List.length_range] at hj
      simp only [List.getElem_range]
      have hs0 : 0 < sz' := pos_of_mul hj
      have h1 : j / sz' < rs.length := Nat.div_lt_of_lt_mul (by rw [Nat.mul_comm]; exact hj)
      have h2 : j % sz' < sz' := Nat.mod_lt _ hs0
      have := hc (j / sz') (j % sz') h1 h2
      rw [addr_add]
      have e : o + j / sz' * sz' + j % sz' = o + j := by have := Nat.div_add_mod j sz'; rw [Nat.mul_comm] at this; omega
      rw [e] at this
      exact this
    · intro u hu
      obtain ⟨k, hk, rfl⟩ := List.mem_map.1 hu
      have hj := List.mem_range.1 hk
      have hs0 : 0 < sz' := pos_of_mul hj
      have h1 : k / sz' < rs.length := Nat.div_lt_of_lt_mul (by rw [Nat.mul_comm]; exact hj)
      have h2 : k % sz' < (rs[k / sz']).length := by rw [hsz _ (List.getElem_mem h1)]; exact Nat.mod_lt _ hs0
      exact (hr (k / sz') (k % sz') h1 h2).one (hone _ (List.getElem_mem h1) _ (List.getElem_mem h2))
    · intro i j hi hj hb'
      simp only [List.getElem_map, List.getElem_range]
      have hj' : j < sz' := by rw [← hsz _ (List.getElem_mem hi)]; exact hj
      have e1 : (i * sz' + j) / sz' = i := by rw [Nat.mul_comm, Nat.mul_add_div (by omega), Nat.div_eq_of_lt hj', Nat.add_zero]
      have e2 : (i * sz' + j) % sz' = j := by rw [Nat.mul_comm, Nat.mul_add_mod, Nat.mod_eq_of_lt hj']
      rw [e1, e2]
      exact hr i j hi hj
end
end Go.Pv
namespace Go.Pv
open Go.RowKit
/-- A slice value whose elements are the rows rs. -/
def Src (w : World) (S : Nat → Prop) (v : Value) (m sz : Nat) (rs : List (List Tree)) : Prop :=
  m = rs.length ∧ ∃ (ad : Option Addr) (c : Nat), v = .slice ad m c ∧ (0 < m → ∃ (x : Addr) (news : List Value), ad = some x ∧ news.length = m * sz ∧ (∀ j u, news[j]? = some u → w.cell? (x.add j) = some u) ∧ (∀ u ∈ news, u.oneCell' = true) ∧
      ∀ i j (hi : i < rs.length) (hj : j < (rs[i]).length) (hb : i * sz + j < news.length), RT w S (news[i * sz + j]) ((rs[i])[j]))
section
variable {P : Program} {w0 : World} {L : Lim} {nt : Nat} {tm : List (Nat × T)} {hp : List (Nat × Blk)} {S : Nat → Prop} {E : Nat → Value} {a : Act} {w : World}
theorem src_blk {v : Value} {e sz m : Nat} {rs : List (List Tree)} (h : BlkOk w S E v (.rows e sz m rs)) (hone : ∀ r ∈ rs, ∀ t ∈ r, oneTree t = true) : Src w S v m sz rs := by
  obtain ⟨hn, hx⟩ := h
  subst hn
  refine ⟨rfl, ?_⟩
  rcases hx with ⟨rfl, hr⟩ | ⟨β, cap, vs, hm, rfl, hh, hl, hc, hsz, hr⟩
  · subst hr; exact ⟨_, _, rfl, fun h => absurd h (by simp)⟩
  · refine ⟨_, _, rfl, fun h0 => ⟨_, vs.take (rs.length * sz), rfl, ?_, ?_, ?_, ?_⟩⟩
    · rw [List.length_take, hl]; exact Nat.min_eq_left (Nat.mul_le_mul_right _ hc)
    · intro j u hu
      rw [List.getElem?_take] at hu
      split at hu
      · rw [addr_add, cell_of_row w β _ _ e _ hh]; simpa using hu
      · cases hu
    · intro u hu
      obtain ⟨k, hk, rfl⟩ := List.mem_iff_getElem.1 hu
      have hk' : k < rs.length * sz := by have := hk; simp only [List.length_take] at this; omega
      have hs0 : 0 < sz := pos_of_mul hk'
      have h1 : k / sz < rs.length := Nat.div_lt_of_lt_mul (by rw [Nat.mul_comm]; exact hk')
      have h2 : k % sz < (rs[k / sz]).length := by rw [hsz _ (List.getElem_mem h1)]; exact Nat.mod_lt _ hs0
      have e1 : k / sz * sz + k % sz = k := by have := Nat.div_add_mod k sz; rw [Nat.mul_comm] at this; exact this
      have hkv : k < vs.length := by simp only [List.length_take] at hk; omega
      have := hr (k / sz) (k % sz) h1 h2 (by rw [e1]; exact hkv)
      simp only [e1] at this
      rw [List.getElem_take]
      exact this.one (hone _ (List.getElem_mem h1) _ (List.getElem_mem h2))
    · intro i j hi hj hb
      rw [List.getElem_take]
      exact hr i j hi hj _
theorem getElem_of_take {α : Type} {l r : List α} {k i : Nat} (h : l.take k = r) (hi : i < r.length) (hl : i < l.length) : l[i] = r[i] := by
  subst h; rw [List.getElem_take]
theorem Ok.append (h : Ok w0 L nt ⟨tm, hp⟩ S E a w) {id e n m t ty : Nat} {ti : TI} {v x : Value} {rs r2 : List (List Tree)} (hbig : Nat.blt id big = true) (hf : freshT id tm = true) (hb : freshB id hp = true)
    (hv : ∀ β, blkOf v = some β → ¬ S β ∧ β < w.heap.size ∧ (w0.heap.size ≤ β ∨ L.lent β)) (hd : ∀ i blk β, look hp i = some blk → blkOf v = some β → blkOf (E i) = some β → False)
    (hbv : BlkOk w S E v (.rows e ti.size n rs)) (ht : P.underlying t = some (.slice e)) (hte : TIok P e ti) (hz : ti.zero.length = ti.size)
    (hx : Src w S x m ti.size r2) (h2 : ∀ r ∈ r2, r.length = ti.size) (hmax : n + m ≤ 1073741824) :
    ∃ v' w' E', (Builtin.append_ #[t, t] ty #[v, x]).run P w = .ok v' w' ∧ E' id = v' ∧ Ok w0 L nt ⟨tm, (id, .rows e ti.size (n + m) (rs ++ r2)) :: hp⟩ S E' a w' := by
  obtain ⟨hm, ad, c, rfl, hsrc⟩ := hx
  obtain ⟨hn, hrow⟩ := hbv
  have hown : ∃ xs : List Value, OwnV w v e ti.size n xs ∧ xs.length = n * ti.size ∧ (∀ r ∈ rs, r.length = ti.size) ∧ ∀ i j (hi : i < rs.length) (hj : j < (rs[i]).length) (hb : i * ti.size + j < xs.length), RT w S (xs[i * ti.size + j]) ((rs[i])[j]) := by
    rcases hrow with ⟨rfl, hr⟩ | ⟨β, cap, vs, hcm, rfl, hh, hl, hc, hsz, hr⟩
    · subst hr; subst hn; exact ⟨[], .inl ⟨rfl, rfl, rfl⟩, by simp, by simp, fun i j hi => by simp at hi⟩
    · subst hn
      refine ⟨vs.take (rs.length * ti.size), .inr ⟨β, cap, vs, rfl, hh, hc, hcm, hl, rfl⟩, ?_, hsz, fun i j hi hj hb => ?_⟩
      · rw [List.length_take, hl]; exact Nat.min_eq_left (Nat.mul_le_mul_right _ hc)
      · rw [List.getElem_take]; exact hr i j hi hj _
  obtain ⟨xs, hov, hxl, hrl, hrx⟩ := hown
  rcases Nat.eq_zero_or_pos m with h0 | h0
  · subst h0
    have hr2 : r2 = [] := List.eq_nil_of_length_eq_zero hm.symm
    subst hr2
    have hr := run_append_none (ty := ty) ht hte hov (x := .slice ad 0 c) rfl
    obtain ⟨E', hE, hk⟩ := h.regrow hbig hf hb hv hd (Keep.refl _ w) (v' := v) (b := .rows e ti.size (n + 0) (rs ++ [])) (fun β hβ => ⟨(hv β hβ).2.1, .inl hβ⟩) (fun E' => by
      rw [List.append_nil, Nat.add_zero]; exact ⟨hn, hrow⟩)
    exact ⟨v, w, E', hr, hE, hk⟩
  · obtain ⟨y, news, rfl, hnl, hnews, hone, hrn⟩ := hsrc h0
    obtain ⟨v', w', hr, hk, hov', hbl⟩ := run_append_some (ty := ty) ht hte hz hov hnl hnews hone h0 hmax
    have hS : ∀ b, S b → w'.heap[b]? = w.heap[b]? := fun b hb => hk.block b (h.stab b hb) (fun e => (hv b e).1 hb)
    obtain ⟨E', hE, hok⟩ := h.regrow hbig hf hb hv hd (hk.weak fun _ => rfl) (v' := v') (b := .rows e ti.size (n + m) (rs ++ r2)) hbl (fun E' => by
      refine ⟨by rw [List.length_append, hn, hm], ?_⟩
      rcases hov' with ⟨_, hz0, _⟩ | ⟨g, cap, cur, rfl, hg, hnc, hcm, hcl, htk⟩
      · omega
      · refine .inr ⟨g, cap, cur, hcm, by rw [List.length_append, ← hn, ← hm], hg, hcl, by rw [List.length_append, ← hn, ← hm]; exact hnc, ?_, ?_⟩
        · intro r hr
          rcases List.mem_append.1 hr with hr | hr
          · exact hrl r hr
          · exact h2 r hr
        · intro i j hi hj hb'
          by_cases hin : i < rs.length
          · have hj1 : j < (rs[i]).length := by rw [List.getElem_append_left hin] at hj; exact hj
            have hjs : j < ti.size := by rw [← hrl _ (List.getElem_mem hin)]; exact hj1
            have hlt : i * ti.size + j < xs.length := by
              rw [hxl, hn]
              have : (i + 1) * ti.size ≤ rs.length * ti.size := Nat.mul_le_mul_right _ hin
              rw [Nat.succ_mul] at this; omega
            have e1 : cur[i * ti.size + j] = xs[i * ti.size + j] := by
              rw [getElem_of_take htk (by rw [List.length_append]; omega) hb', List.getElem_append_left hlt]
            have e2 : (rs ++ r2)[i] = rs[i] := List.getElem_append_left hin
            rw [e1]
            simp only [e2]
            exact (hrx i j hin hj1 hlt).mono (fun _ x => x) hS
          · have hi2 : i - rs.length < r2.length := by rw [List.length_append] at hi; omega
            have e2 : (rs ++ r2)[i] = r2[i - rs.length] := List.getElem_append_right (by omega)
            have hj1 : j < (r2[i - rs.length]).length := by rw [e2] at hj; exact hj
            have hjs : j < ti.size := by rw [← h2 _ (List.getElem_mem hi2)]; exact hj1
            have hlt : (i - rs.length) * ti.size + j < news.length := by
              rw [hnl, hm]
              have : (i - rs.length + 1) * ti.size ≤ r2.length * ti.size := Nat.mul_le_mul_right _ hi2
              rw [Nat.succ_mul] at this; omega
            have esum : i * ti.size = rs.length * ti.size + (i - rs.length) * ti.size := by rw [← Nat.add_mul]; congr 1; omega
            have e3 : i * ti.size + j - xs.length = (i - rs.length) * ti.size + j := by rw [hxl, hn, esum]; omega
            have e1 : cur[i * ti.size + j] = news[(i - rs.length) * ti.size + j] := by
              rw [getElem_of_take htk (by rw [List.length_append, hxl, hn, esum]; omega) hb', List.getElem_append_right (by rw [hxl, hn, esum]; omega)]
              simp only [e3]
            rw [e1]
            simp only [e2]
            exact (hrn (i - rs.length) j hi2 hj1 hlt).mono (fun _ x => x) hS)
    exact ⟨v', w', E', hr, hE, hok⟩
end
end Go.Pv
namespace Go.Pv
open Go.RowKit
section
variable {ρ α : Type} {X : Cx} {ks : List K} {tm tm' : List (Nat × T)} {hp hp' : List (Nat × Blk)} {Q : ρ → Exit → St → Prop} {all : Array Oper} {o : Oper} {rest : List Oper}
theorem all_one {enc : α → List Tree} (hone : ∀ y, (enc y).all oneTree = true) (l : List α) : ∀ r ∈ l.map enc, ∀ t ∈ r, oneTree t = true := by
  intro r hr t ht
  obtain ⟨y, _, rfl⟩ := List.mem_map.1 hr
  exact List.all_eq_true.1 (hone y) t ht
theorem all_len {enc : α → List Tree} {sz : Nat} (h : ∀ y, (enc y).length = sz) (l : List α) : ∀ r ∈ l.map enc, r.length = sz := by
  intro r hr
  obtain ⟨y, _, rfl⟩ := List.mem_map.1 hr
  exact h y
/-- append(s, x...): s a row of the call's own, or nil; x frozen, or a row of the call's own. The row keeps its name; what else names it is dropped. -/
theorem TieO.append {t e e' d id n m s0 : Nat} {z0 : List Value} {te : TI} {s x : Operand} {l r : List α} {enc : α → List Tree} {k : List α → Option ρ}
    (ho : o.op = .call ⟨.builtin .append, #[s, x], #[t, t]⟩) (hd : o.dst = some d) (hdn : Nat.blt d X.nt = true) (hg : guardT all.toList tm o.guard = some true)
    (hty : look X.tab t = some ⟨s0, .slice e, z0⟩) (hte : look X.tab e = some te) (hz : te.zero.length = te.size) (henc : ∀ y, (enc y).length = te.size) (hone : ∀ y, (enc y).all oneTree = true)
    (hs : (val tm s = some (.own id) ∧ look hp id = some (.rows e te.size n (l.map enc))) ∨ (val tm s = some (.t (.v (.slice none 0 0))) ∧ l = []))
    (hx : val tm x = some (.t (.sl m (r.map enc))) ∨ ∃ i2, val tm x = some (.own i2) ∧ look hp i2 = some (.rows e' te.size m (r.map enc)))
    (hsub : Sub ⟨tm', hp'⟩ ⟨tm, hp⟩) (hbig : Nat.blt id big = true) (hft : freshT id tm' = true) (hfb : freshB id hp' = true)
    (h : TieO X all rest ks ⟨(d, .own id) :: tm', (id, .rows e te.size (l ++ r).length ((l ++ r).map enc)) :: hp'⟩ (k (l ++ r)) Q) :
    TieO X all (o :: rest) ks ⟨tm, hp⟩ ((appendM l r).bind k) Q := fun y hy a w ⟨S, E, hk⟩ => by
  unfold appendM at hy
  split at hy
  · rename_i hmax
    simp only [Option.bind_some] at hy
    obtain ⟨dd, _, hu, ho2⟩ : ∃ d, X.P.underlying t = some d ∧ X.P.underlying t = some d ∧ TD.ok X.P (.slice e) d := by
      obtain ⟨i, d, _, _, hu, hdd, _⟩ := X.htab t _ hty
      exact ⟨d, hu, hu, hdd⟩
    simp only [TD.ok] at ho2
    subst ho2
    have hk' : Ok X.w0 X.L X.nt ⟨tm', hp'⟩ S E a w := hk.sub hsub
    have hsrc : Src w S (a.eval x) r.length te.size (r.map enc) := by
      rcases hx with hx | ⟨i2, hx, hb2⟩
      · have hv := hk.val hx
        generalize a.eval x = xv at hv
        cases hv with
        | t hv =>
          have := rows_cells hv (all_len henc r) (all_one hone r)
          have hm : m = r.length := by simpa using this.1
          subst hm
          exact ⟨by simp, this.2⟩
      · have hv := hk.val hx
        have hb := hk.hp i2 _ hb2
        generalize a.eval x = xv at hv
        cases hv with
        | own _ _ hE =>
          subst hE
          have := src_blk hb (all_one hone r)
          have hm : m = r.length := by simpa using this.1
          subst hm
          exact this
    have hfirst : ∃ v, a.eval s = v ∧ BlkOk w S E v (.rows e te.size l.length (l.map enc)) ∧ (∀ β, blkOf v = some β → ¬ S β ∧ β < w.heap.size ∧ (X.w0.heap.size ≤ β ∨ X.L.lent β)) ∧
        (∀ i blk β, look hp' i = some blk → blkOf v = some β → blkOf (E i) = some β → False) := by
      rcases hs with ⟨hs, hb⟩ | ⟨hs, hl⟩
      · have hv := hk.val hs
        have hb1 := hk.hp id _ hb
        have hn : n = l.length := by have := hb1.1; simpa using this
        subst hn
        generalize a.eval s = sv at hv
        cases hv with
        | own _ _ hE =>
          subst hE
          refine ⟨_, rfl, hb1, fun β hβ => hk.own id _ β hb hβ, fun i blk β hi h1 h2 => ?_⟩
          obtain ⟨blk', hi', _⟩ := subB_look hsub.2 i blk hi
          have := hk.dist id i _ blk' β hb hi' h1 h2
          exact (freshB_look hfb i blk hi).1 this.symm
      · have hv := (hk.val hs).tv
        subst hl
        rw [hv]
        exact ⟨_, rfl, ⟨by simp, .inl ⟨rfl, rfl⟩⟩, fun β hβ => by simp [blkOf] at hβ, fun i blk β _ h1 => by simp [blkOf] at h1⟩
    obtain ⟨v, hv, hbv, hown, hdist⟩ := hfirst
    obtain ⟨v', w', E', hr, hE, hok⟩ := hk'.append (ty := o.type) hbig hft hfb hown hdist hbv hu (X.htab e _ hte) hz hsrc (all_len henc r) (by simpa using hmax)
    refine wpList_step fun K hK => ?_
    rw [guardT_ok hk hg, if_pos rfl]
    unfold Oper.wp
    have hexec : (execOp a.eval o).run X.P w = .ok (.value v') w' := by
      unfold execOp
      simp only [ho, resolve, invoke, builtin, Sem.run_bind, Sem.run_pure, Result.andThen_ok, List.map_toArray, List.map_cons, List.map_nil, hv, hr]
    rw [hexec]
    refine hK _ _ (h y hy _ _ ⟨S, E', ?_⟩)
    rw [hd, List.map_append, List.length_append]
    exact hok.put (Nat.le_of_ble_eq_true hdn) (.own id _ hE)
  · simp at hy
end
end Go.Pv
namespace Go.Pv
open Go.RowKit
section
variable {ρ α : Type} {X : Cx} {ks : List K} {tm tm' : List (Nat × T)} {hp hp' : List (Nat × Blk)} {m : Option ρ} {Q : ρ → Exit → St → Prop} {all : Array Oper} {o : Oper} {rest : List Oper}
end
end Go.Pv
namespace Go.Pv
open Go.RowKit
def splc {α : Type} (l : List α) (o : Nat) (c : List α) : List α := l.take o ++ c ++ l.drop (o + c.length)
theorem splc_length {α : Type} (l : List α) (o : Nat) (c : List α) (h : o + c.length ≤ l.length) : (splc l o c).length = l.length := by
  simp [splc]; omega
theorem splc_get {α : Type} (l : List α) (o : Nat) (c : List α) (h : o + c.length ≤ l.length) (p : Nat) : (splc l o c)[p]? = if p < o then l[p]? else if p < o + c.length then c[p - o]? else l[p]? := by
  unfold splc
  have e1 : min o l.length = o := by omega
  by_cases h1 : p < o
  · rw [if_pos h1, List.append_assoc, List.getElem?_append_left (by simp; omega), List.getElem?_take, if_pos h1]
  · rw [if_neg h1]
    by_cases h2 : p < o + c.length
    · rw [if_pos h2, List.getElem?_append_left (by simp; omega), List.getElem?_append_right (by simp; omega)]
      simp only [List.length_take, e1]
    · rw [if_neg h2, List.getElem?_append_right (by simp; omega), List.getElem?_drop]
      congr 1
      simp only [List.length_append, List.length_take, e1]
      omega
section
variable {P : Program} {w0 : World} {L : Lim} {nt : Nat} {σ : St} {S : Nat → Prop} {E : Nat → Value} {a : Act} {w : World}
theorem RV.rt {v : Value} {y : Tree} (h : RV w S E v (.t y)) : RT w S v y := by cases h with | t h => exact h
theorem store_own (hok : Ok w0 L nt σ S E a w) {t : Nat} {ti : TI} (hti : TIok P t ti) {id i sz off e n : Nat} {rs : List (List Tree)} {row lt : List Tree} {x : T} {v pv : Value}
    (hb : look σ.hp id = some (.rows e sz n rs)) (hp : RV w S E pv (.pe id i sz off)) (hi : rs[i]? = some row) (hv : RV w S E v x) (hx : cellsT σ.hp x = some (lt.map .t)) (hs : lt.length = ti.size) (hle : off + lt.length ≤ sz) :
    ∃ w', (Instr.storeAt t pv v).run P w = .ok () w' ∧ Ok w0 L nt ⟨σ.tm, hput σ.hp id (.rows e sz n (rs.set i (splc row off lt)))⟩ S E a w' := by
  obtain ⟨vs, hvs, hl, hr, h1⟩ := hok.cells hv hx
  obtain ⟨hn, hrow⟩ := hok.hp id _ hb
  obtain ⟨hil, hirow⟩ := List.getElem?_eq_some_iff.1 hi
  have hvl : vs.length = lt.length := by simpa using hl
  rcases hrow with ⟨_, hr0⟩ | ⟨β, cap, cs, hcm, hE, hh, hcl, hcc, hsz, hcr⟩
  · subst hr0; simp at hil
  · cases hp with
    | pe _ _ _ _ β' n' cap' hE' =>
      rw [hE] at hE'
      cases hE'
      have hrl : row.length = sz := by rw [← hirow]; exact hsz _ (List.getElem_mem hil)
      have hfit : i * sz + off + vs.length ≤ cs.length := by
        have h2 : (i + 1) * sz ≤ cap * sz := Nat.mul_le_mul_right _ (by omega)
        rw [Nat.succ_mul] at h2
        omega
      have hst : (Instr.storeAt t (.pointer (some ⟨β, i * sz + off, none⟩)) v).run P w = .ok () (w.setRow β (splc cs (i * sz + off) vs).toArray) := by
        have := run_storeCells_at (P := P) β (i * sz + off) e vs 0 cs.toArray w hh (by simp; omega) h1
        have hl2 : vs.length = ti.size := by omega
        simp only [Instr.storeAt, Instr.sureAddr, Sem.run_bind, Sem.run_pure, Result.andThen_ok, storeVar, hti.run_size, hvs]
        simpa [splc, hl2] using this
      refine ⟨_, hst, hok.setRow hb (by rw [hE]; rfl) hh fun hS hnew => ⟨by rw [List.length_set]; exact hn, .inr ⟨β, cap, splc cs (i * sz + off) vs, hcm, by rw [List.length_set]; exact hE, hnew, by rw [splc_length _ _ _ hfit]; exact hcl, by rw [List.length_set]; exact hcc, ?_, ?_⟩⟩⟩
      · intro r hr'
        obtain ⟨j, hj, rfl⟩ := List.mem_iff_getElem.1 hr'
        rw [List.length_set] at hj
        rw [List.getElem_set]
        split
        · rw [splc_length _ _ _ (by omega)]; exact hrl
        · exact hsz _ (List.getElem_mem hj)
      · intro i' j hi' hj hb'
        have hi2 : i' < rs.length := by rw [List.length_set] at hi'; exact hi'
        have hg := splc_get cs (i * sz + off) vs hfit (i' * sz + j)
        rw [List.getElem?_eq_getElem hb'] at hg
        have old : ∀ (hne : i' ≠ i ∨ j < off ∨ off + vs.length ≤ j), (i' = i → (splc row off lt)[j]? = row[j]?) → RT (w.setRow β (splc cs (i * sz + off) vs).toArray) S ((splc cs (i * sz + off) vs)[i' * sz + j]) (((rs.set i (splc row off lt))[i']'(by rw [List.length_set]; exact hi2))[j]) := by
          intro hne hsame
          have hjr : ((rs.set i (splc row off lt))[i']'(by rw [List.length_set]; exact hi2)).length = sz := by
            rw [List.getElem_set]
            split
            · rw [splc_length _ _ _ (by omega)]; exact hrl
            · exact hsz _ (List.getElem_mem hi2)
          have hjs : j < sz := by rw [hjr] at hj; exact hj
          have hrange : i' * sz + j < i * sz + off ∨ i * sz + off + vs.length ≤ i' * sz + j := by
            rcases Nat.lt_trichotomy i' i with h2 | h2 | h2
            · left
              have : (i' + 1) * sz ≤ i * sz := Nat.mul_le_mul_right _ h2
              rw [Nat.succ_mul] at this; omega
            · subst h2
              rcases hne with h3 | h3 | h3
              · exact absurd rfl h3
              · left; omega
              · right; omega
            · right
              have : (i + 1) * sz ≤ i' * sz := Nat.mul_le_mul_right _ h2
              rw [Nat.succ_mul] at this; omega
          have e1 : some ((splc cs (i * sz + off) vs)[i' * sz + j]) = cs[i' * sz + j]? := by
            rw [hg]
            rcases hrange with h2 | h2
            · rw [if_pos h2]
            · rw [if_neg (by omega), if_neg (by omega)]
          obtain ⟨hlt, e1⟩ := List.getElem?_eq_some_iff.1 e1.symm
          have hj2 : j < (rs[i']).length := by rw [hsz _ (List.getElem_mem hi2)]; exact hjs
          have e2 : ((rs.set i (splc row off lt))[i']'(by rw [List.length_set]; exact hi2))[j] = (rs[i'])[j] := by
            apply Option.some.inj
            rw [← List.getElem?_eq_getElem, ← List.getElem?_eq_getElem, List.getElem_set]
            split
            · rename_i h3
              subst h3
              rw [hsame rfl, ← hirow]
            · rfl
          rw [← e1, e2]
          exact (hcr i' j hi2 hj2 hlt).mono (fun _ x => x) hS
        by_cases hii : i' = i
        · subst hii
          have hsg := splc_get row off lt (by omega) j
          by_cases c1 : j < off
          · exact old (.inr (.inl c1)) (fun _ => by rw [hsg, if_pos c1])
          · by_cases c2 : j < off + lt.length
            · have hjv : j - off < vs.length := by omega
              have e1 : (splc cs (i' * sz + off) vs)[i' * sz + j] = vs[j - off] := by
                apply Option.some.inj
                rw [hg, if_neg (by omega), if_pos (by omega), show i' * sz + j - (i' * sz + off) = j - off by omega, List.getElem?_eq_getElem hjv]
              have e2 : ((rs.set i' (splc row off lt))[i']'(by rw [List.length_set]; exact hi2))[j] = lt[j - off] := by
                apply Option.some.inj
                rw [← List.getElem?_eq_getElem, List.getElem_set_self, hsg, if_neg c1, if_pos c2, List.getElem?_eq_getElem (by omega)]
              rw [e1, e2]
              have := hr (j - off) hjv (by simp; omega)
              rw [List.getElem_map] at this
              exact this.rt.mono (fun _ x => x) hS
            · exact old (.inr (.inr (by omega))) (fun _ => by rw [hsg, if_neg c1, if_neg c2])
        · exact old (.inl hii) (fun h => absurd h hii)
theorem load_own (hok : Ok w0 L nt σ S E a w) {t : Nat} {ti : TI} (hti : TIok P t ti) {id i sz off e n : Nat} {rs : List (List Tree)} {row : List Tree} {pv : Value} {r : T}
    (hb : look σ.hp id = some (.rows e sz n rs)) (hp : RV w S E pv (.pe id i sz off)) (hi : rs[i]? = some row) (hx : takeT ti.desc.isAgg ti.size (row.map .t) off = some r) :
    ∃ v, (Instr.loadAt t pv).run P w = .ok v w ∧ RV w S E v r := by
  obtain ⟨hn, hrow⟩ := hok.hp id _ hb
  obtain ⟨hil, hirow⟩ := List.getElem?_eq_some_iff.1 hi
  rcases hrow with ⟨_, hr0⟩ | ⟨β, cap, cs, hcm, hE, hh, hcl, hcc, hsz, hcr⟩
  · subst hr0; simp at hil
  · cases hp with
    | pe _ _ _ _ β' n' cap' hE' =>
      rw [hE] at hE'
      cases hE'
      have hrl : row.length = sz := by rw [← hirow]; exact hsz _ (List.getElem_mem hil)
      have hfit : i * sz + sz ≤ cs.length := by
        have h2 : (i + 1) * sz ≤ cap * sz := Nat.mul_le_mul_right _ (by omega)
        rw [Nat.succ_mul] at h2
        omega
      refine load_ok (P := P) (b := β) (o := i * sz) (vs := (cs.drop (i * sz)).take sz) hti (l := row.map .t) ?_ ?_ ?_ hx
      · simp; omega
      · intro j h1
        simp only [List.length_take, List.length_drop] at h1
        rw [cell_of_row w β _ _ e _ hh]
        have : i * sz + j < cs.length := by omega
        simp [this]
      · intro j h1 h2
        simp only [List.length_take, List.length_drop] at h1
        have hj : j < sz := by omega
        have := hcr i j hil (by rw [hsz _ (List.getElem_mem hil)]; exact hj) (by omega)
        simp only [List.getElem_take, List.getElem_drop, List.getElem_map]
        simp only [hirow] at this
        exact .t this
end
end Go.Pv
namespace Go.Pv
open Go.RowKit
section
variable {ρ α : Type} {X : Cx} {ks : List K} {tm : List (Nat × T)} {hp : List (Nat × Blk)} {m : Option ρ} {Q : ρ → Exit → St → Prop} {all : Array Oper} {o : Oper} {rest : List Oper}
theorem TieO.loadO {t d id i sz off e n : Nat} {ti : TI} {p : Operand} {l : List α} {enc : α → List Tree} {y : α} {r : T} (hy : l[i]? = some y)
    (ho : o.op = .load t p) (hd : o.dst = some d) (hdn : Nat.blt d X.nt = true) (hg : guardT all.toList tm o.guard = some true) (hp1 : val tm p = some (.pe id i sz off)) (hb : look hp id = some (.rows e sz n (l.map enc)))
    (hti : look X.tab t = some ti) (hr : takeT ti.desc.isAgg ti.size ((enc y).map .t) off = some r) (h : TieO X all rest ks ⟨(d, r) :: tm, hp⟩ m Q) : TieO X all (o :: rest) ks ⟨tm, hp⟩ m Q := by
  have := TieO.one (X := X) (ks := ks) (tm := tm) (hp := hp) (all := all) (o := o) (rest := rest) (Q := Q) (k := fun _ => m) (m₁ := some ()) hd hdn hg (fun _ => r) (fun _ S E a w _ hk => by
    obtain ⟨v, h1, h2⟩ := load_own (P := X.P) hk (X.htab t _ hti) hb (hk.val hp1) (by rw [List.getElem?_map, hy]; rfl) hr
    refine ⟨v, ?_, h2⟩
    unfold execOp
    simp only [ho, Sem.run_bind, h1, Result.andThen_ok, Sem.run_pure]) (fun _ _ => h)
  simpa using this
end
end Go.Pv
namespace Go.Pv
open Go.RowKit
mutual
/-- The same content under other names. -/
def renT (h : List (Nat × Nat)) : T → Option T
  | .t x => some (.t x)
  | .el c => some (.el c)
  | .fz n c => some (.fz n c)
  | .any => some .any
  | .ptr id off => match look h id with | some i => some (.ptr i off) | none => none
  | .own id => match look h id with | some i => some (.own i) | none => none
  | .pe id i sz off => match look h id with | some j => some (.pe j i sz off) | none => none
  | .vw id lo n sz => match look h id with | some j => some (.vw j lo n sz) | none => none
  | .agg l => match renL h l with | some r => some (.agg r) | none => none
  | .tup l => match renL h l with | some r => some (.tup r) | none => none
  | .clo f l => match renL h l with | some r => some (.clo f r) | none => none
def renL (h : List (Nat × Nat)) : List T → Option (List T)
  | [] => some []
  | x :: r => match renT h x, renL h r with | some y, some l => some (y :: l) | _, _ => none
end
def renB (h : List (Nat × Nat)) : Blk → Option Blk
  | .box l => match renL h l with | some r => some (.box r) | none => none
  | .rows e sz n rs => some (.rows e sz n rs)
  | .mp es => some (.mp es)
  | .rv y e sz n rs => some (.rv y e sz n rs)
section
variable {w : World} {S : Nat → Prop} {E E' : Nat → Value} {h : List (Nat × Nat)}
mutual
theorem renT_ok (hE : ∀ i j, look h i = some j → E' j = E i) : ∀ {t u : T} {v : Value}, RV w S E v t → renT h t = some u → RV w S E' v u
  | .t x, u, v, hv, hr => by simp only [renT, Option.some.injEq] at hr; subst hr; exact hv.mono (fun _ x => x) (fun _ _ => rfl) (fun id hid => by simp [names] at hid)
  | .el c, u, v, hv, hr => by simp only [renT, Option.some.injEq] at hr; subst hr; exact hv.mono (fun _ x => x) (fun _ _ => rfl) (fun id hid => by simp [names] at hid)
  | .fz n c, u, v, hv, hr => by simp only [renT, Option.some.injEq] at hr; subst hr; exact hv.mono (fun _ x => x) (fun _ _ => rfl) (fun id hid => by simp [names] at hid)
  | .any, u, v, hv, hr => by simp only [renT, Option.some.injEq] at hr; subst hr; exact .any v
  | .ptr id off, u, v, hv, hr => by
    simp only [renT] at hr
    split at hr <;> try (cases hr; done)
    rename_i i hi
    simp only [Option.some.injEq] at hr; subst hr
    cases hv with | ptr _ _ β hb => exact .ptr i off β (by rw [hE id i hi]; exact hb)
  | .own id, u, v, hv, hr => by
    simp only [renT] at hr
    split at hr <;> try (cases hr; done)
    rename_i i hi
    simp only [Option.some.injEq] at hr; subst hr
    cases hv with | own _ _ hb => exact .own i v (by rw [hE id i hi]; exact hb)
  | .pe id k sz off, u, v, hv, hr => by
    simp only [renT] at hr
    split at hr <;> try (cases hr; done)
    rename_i i hi
    simp only [Option.some.injEq] at hr; subst hr
    cases hv with | pe _ _ _ _ β n cap hb => exact .pe i k sz off β n cap (by rw [hE id i hi]; exact hb)
  | .vw id lo n sz, u, v, hv, hr => by
    simp only [renT] at hr
    split at hr <;> try (cases hr; done)
    rename_i i hi
    simp only [Option.some.injEq] at hr; subst hr
    cases hv with | vw _ _ _ _ c a hb => exact .vw i lo n sz c a (by rw [hE id i hi]; exact hb)
  | .agg l, u, v, hv, hr => by
    simp only [renT] at hr
    split at hr <;> try (cases hr; done)
    rename_i r hl
    simp only [Option.some.injEq] at hr; subst hr
    cases hv with | agg vs _ hlen hrr => have := renL_ok hE ⟨hlen, hrr⟩ hl; exact .agg vs r this.1 this.2
  | .tup l, u, v, hv, hr => by
    simp only [renT] at hr
    split at hr <;> try (cases hr; done)
    rename_i r hl
    simp only [Option.some.injEq] at hr; subst hr
    cases hv with | tup vs _ hlen hrr => have := renL_ok hE ⟨hlen, hrr⟩ hl; exact .tup vs r this.1 this.2
  | .clo f l, u, v, hv, hr => by
    simp only [renT] at hr
    split at hr <;> try (cases hr; done)
    rename_i r hl
    simp only [Option.some.injEq] at hr; subst hr
    cases hv with | clo _ vs _ hlen hrr => have := renL_ok hE ⟨hlen, hrr⟩ hl; exact .clo f vs r this.1 this.2
theorem renL_ok (hE : ∀ i j, look h i = some j → E' j = E i) : ∀ {l r : List T} {vs : List Value}, RVL w S E vs l → renL h l = some r → RVL w S E' vs r
  | [], r, vs, hv, hr => by simp only [renL, Option.some.injEq] at hr; subst hr; exact ⟨hv.1, fun j _ h2 => by simp at h2⟩
  | x :: l, r, vs, hv, hr => by
    simp only [renL] at hr
    split at hr <;> try (cases hr; done)
    rename_i y l' hy hl'
    simp only [Option.some.injEq] at hr; subst hr
    cases vs with
    | nil => have := hv.1; simp at this
    | cons v vs =>
      have h1 := renT_ok hE (t := x) (hv.2 0 (by simp) (by simp)) hy
      have h2 := renL_ok hE (l := l) (vs := vs) ⟨by simpa using hv.1, fun j a b => hv.2 (j + 1) (by simpa using a) (by simpa using b)⟩ hl'
      refine ⟨by simp [h2.1], fun j a b => ?_⟩
      cases j with
      | zero => exact h1
      | succ j => exact h2.2 j (by simpa using a) (by simpa using b)
end
mutual
/-- The other way. -/
theorem unrenT_ok (hE : ∀ i j, look h i = some j → E' j = E i) : ∀ {t u : T} {v : Value}, RV w S E' v u → renT h t = some u → RV w S E v t
  | .t x, u, v, hv, hr => by simp only [renT, Option.some.injEq] at hr; subst hr; exact hv.mono (fun _ x => x) (fun _ _ => rfl) (fun id hid => by simp [names] at hid)
  | .el c, u, v, hv, hr => by simp only [renT, Option.some.injEq] at hr; subst hr; exact hv.mono (fun _ x => x) (fun _ _ => rfl) (fun id hid => by simp [names] at hid)
  | .fz n c, u, v, hv, hr => by simp only [renT, Option.some.injEq] at hr; subst hr; exact hv.mono (fun _ x => x) (fun _ _ => rfl) (fun id hid => by simp [names] at hid)
  | .any, u, v, hv, hr => .any v
  | .ptr id off, u, v, hv, hr => by
    simp only [renT] at hr
    split at hr <;> try (cases hr; done)
    rename_i i hi
    simp only [Option.some.injEq] at hr; subst hr
    cases hv with | ptr _ _ β hb => exact .ptr id off β (by rw [← hE id i hi]; exact hb)
  | .own id, u, v, hv, hr => by
    simp only [renT] at hr
    split at hr <;> try (cases hr; done)
    rename_i i hi
    simp only [Option.some.injEq] at hr; subst hr
    cases hv with | own _ _ hb => exact .own id v (by rw [← hE id i hi]; exact hb)
  | .pe id k sz off, u, v, hv, hr => by
    simp only [renT] at hr
    split at hr <;> try (cases hr; done)
    rename_i i hi
    simp only [Option.some.injEq] at hr; subst hr
    cases hv with | pe _ _ _ _ β n cap hb => exact .pe id k sz off β n cap (by rw [← hE id i hi]; exact hb)
  | .vw id lo n sz, u, v, hv, hr => by
    simp only [renT] at hr
    split at hr <;> try (cases hr; done)
    rename_i i hi
    simp only [Option.some.injEq] at hr; subst hr
    cases hv with | vw _ _ _ _ c a hb => exact .vw id lo n sz c a (by rw [← hE id i hi]; exact hb)
  | .agg l, u, v, hv, hr => by
    simp only [renT] at hr
    split at hr <;> try (cases hr; done)
    rename_i r hl
    simp only [Option.some.injEq] at hr; subst hr
    cases hv with | agg vs _ hlen hrr => have := unrenL_ok hE ⟨hlen, hrr⟩ hl; exact .agg vs l this.1 this.2
  | .tup l, u, v, hv, hr => by
    simp only [renT] at hr
    split at hr <;> try (cases hr; done)
    rename_i r hl
    simp only [Option.some.injEq] at hr; subst hr
    cases hv with | tup vs _ hlen hrr => have := unrenL_ok hE ⟨hlen, hrr⟩ hl; exact .tup vs l this.1 this.2
  | .clo f l, u, v, hv, hr => by
    simp only [renT] at hr
    split at hr <;> try (cases hr; done)
    rename_i r hl
    simp only [Option.some.injEq] at hr; subst hr
    cases hv with | clo _ vs _ hlen hrr => have := unrenL_ok hE ⟨hlen, hrr⟩ hl; exact .clo f vs l this.1 this.2
theorem unrenL_ok (hE : ∀ i j, look h i = some j → E' j = E i) : ∀ {l r : List T} {vs : List Value}, RVL w S E' vs r → renL h l = some r → RVL w S E vs l
  | [], r, vs, hv, hr => by simp only [renL, Option.some.injEq] at hr; subst hr; exact ⟨hv.1, fun j _ h2 => by simp at h2⟩
  | x :: l, r, vs, hv, hr => by
    simp only [renL] at hr
    split at hr <;> try (cases hr; done)
    rename_i y l' hy hl'
    simp only [Option.some.injEq] at hr; subst hr
    cases vs with
    | nil => have := hv.1; simp at this
    | cons v vs =>
      have h1 := unrenT_ok hE (t := x) (hv.2 0 (by simp) (by simp)) hy
      have h2 := unrenL_ok hE (l := l) (vs := vs) ⟨by simpa using hv.1, fun j a b => hv.2 (j + 1) (by simpa using a) (by simpa using b)⟩ hl'
      refine ⟨by simp [h2.1], fun j a b => ?_⟩
      cases j with
      | zero => exact h1
      | succ j => exact h2.2 j (by simpa using a) (by simpa using b)
end
theorem renB_ok (hE : ∀ i j, look h i = some j → E' j = E i) {x : Value} {b c : Blk} (hb : BlkOk w S E x b) (hr : renB h b = some c) : BlkOk w S E' x c := by
  cases b with
  | box l =>
    simp only [renB] at hr
    split at hr <;> try (cases hr; done)
    rename_i r hl
    simp only [Option.some.injEq] at hr; subst hr
    obtain ⟨β, vs, elem, h1, h2, h3, h4, h5⟩ := hb
    have := renL_ok hE (l := l) (vs := vs) ⟨h3, h4⟩ hl
    exact ⟨β, vs, elem, h1, h2, this.1, this.2, h5⟩
  | rows e sz n rs =>
    simp only [renB, Option.some.injEq] at hr; subst hr
    exact hb.mono (fun _ x => x) (fun _ _ => rfl) (fun _ _ => rfl) (fun _ hid => by simp [namesB] at hid)
  | mp es =>
    simp only [renB, Option.some.injEq] at hr; subst hr
    exact hb.mono (fun _ x => x) (fun _ _ => rfl) (fun _ _ => rfl) (fun _ hid => by simp [namesB] at hid)
  | rv y e sz n rs =>
    simp only [renB, Option.some.injEq] at hr; subst hr
    exact hb.mono (fun _ x => x) (fun _ _ => rfl) (fun _ _ => rfl) (fun _ hid => by simp [namesB] at hid)
theorem unrenB_ok (hE : ∀ i j, look h i = some j → E' j = E i) {x : Value} {b c : Blk} (hb : BlkOk w S E' x c) (hr : renB h b = some c) : BlkOk w S E x b := by
  cases b with
  | box l =>
    simp only [renB] at hr
    split at hr <;> try (cases hr; done)
    rename_i r hl
    simp only [Option.some.injEq] at hr; subst hr
    obtain ⟨β, vs, elem, h1, h2, h3, h4, h5⟩ := hb
    have := unrenL_ok hE (l := l) (vs := vs) ⟨h3, h4⟩ hl
    exact ⟨β, vs, elem, h1, h2, this.1, this.2, h5⟩
  | rows e sz n rs =>
    simp only [renB, Option.some.injEq] at hr; subst hr
    exact hb.mono (fun _ x => x) (fun _ _ => rfl) (fun _ _ => rfl) (fun _ hid => by simp [namesB] at hid)
  | mp es =>
    simp only [renB, Option.some.injEq] at hr; subst hr
    exact hb.mono (fun _ x => x) (fun _ _ => rfl) (fun _ _ => rfl) (fun _ hid => by simp [namesB] at hid)
  | rv y e sz n rs =>
    simp only [renB, Option.some.injEq] at hr; subst hr
    exact hb.mono (fun _ x => x) (fun _ _ => rfl) (fun _ _ => rfl) (fun _ hid => by simp [namesB] at hid)
end
/-- Blocks that are somebody's own: each as said, none of them among those that stay, no two the same. -/
structure Owned (w : World) (S : Nat → Prop) (E : Nat → Value) (hp : List (Nat × Blk)) : Prop where
  blk : ∀ id b, look hp id = some b → BlkOk w S E (E id) b
  own : ∀ id b β, look hp id = some b → blkOf (E id) = some β → ¬ S β ∧ β < w.heap.size
  dist : ∀ id id' b b' β, look hp id = some b → look hp id' = some b' → blkOf (E id) = some β → blkOf (E id') = some β → id = id'
def lentOf (hp : List (Nat × Blk)) (E : Nat → Value) (β : Nat) : Prop := ∃ id b, look hp id = some b ∧ blkOf (E id) = some β
/-- A function's contract: it is lent the blocks hp (under names from big on), and hands back what reads as res r, with the blocks hp' r: those that were lent, as they are now, and new ones (under names below big). -/
def TieG {ρ : Type} (P : Program) (n : FuncId) (args : List T) (hp : List (Nat × Blk)) (m : Option ρ) (res : ρ → T) (hp' : ρ → List (Nat × Blk)) (d : Bool := true) : Prop :=
  (∀ vs w, (callFunc n vs).run P w = .ok (.enter n vs) w) ∧
  ∀ r, m = some r → ∀ (w : World) (S : Nat → Prop) (E : Nat → Value) (vs : List Value), GlL P w (lentOf hp E) → (∀ b, S b → b < w.heap.size) → Owned w S E hp → RVL w S E vs args →
    Calls P n vs.toArray w fun e w' => ∃ v S' E', e = .returned v ∧ RV w' S' E' v (res r) ∧ Keep d (lentOf hp E) w w' ∧ (∀ b, S' b → b < w'.heap.size) ∧ (∀ b, S' b → S b ∨ lentOf hp E b ∨ w.heap.size ≤ b) ∧
      Owned w' S' E' (hp' r) ∧ (∀ β, lentOf (hp' r) E' β → lentOf hp E β ∨ w.heap.size ≤ β) ∧ (∀ id, big ≤ id → E' id = E id)
/-- Owned blocks as the state of a call that has begun. -/
theorem Owned.ok {w : World} {S : Nat → Prop} {E : Nat → Value} {hp : List (Nat × Blk)} (h : Owned w S E hp) (hS : ∀ b, S b → b < w.heap.size) : Ok w ⟨fun _ => True, fun _ => True, E, true⟩ 0 ⟨[], hp⟩ S E ⟨#[], []⟩ w where
  keep := Keep.refl _ _
  stab := hS
  base := fun _ _ => .inl trivial
  size := rfl
  defers := rfl
  tm := fun k t ht => by simp [look] at ht
  hp := h.blk
  own := fun id b β hb hβ => ⟨(h.own id b β hb hβ).1, (h.own id b β hb hβ).2, .inr trivial⟩
  dist := h.dist
  pin := fun _ _ => rfl
/-- What is handed back, taken as what stays. -/
theorem TieG.toF {d : Bool} {ρ : Type} {P : Program} {n : FuncId} {args : List T} {m : Option ρ} {res res' : ρ → T} {hp' : ρ → List (Nat × Blk)} (h : TieG P n args [] m res hp' d) (hz : ∀ r, frzT (hp' r) (res r) = some (res' r)) : TieF P n args m res' d := by
  refine ⟨h.1, fun r hr w S E vs hgl hS hv => (h.2 r hr w S E vs (hgl.mono fun β ⟨id, b, hb, _⟩ => by simp [look] at hb) hS ⟨fun id b hb => by simp [look] at hb, fun id b β hb => by simp [look] at hb, fun id id' b b' β hb => by simp [look] at hb⟩ hv).mono fun e w' ⟨v, S', E', he, hv', hk, h1, h2, hO, h3, _⟩ => ?_⟩
  have nl : ∀ β, ¬ lentOf [] E β := fun β ⟨id, b, hb, _⟩ => by simp [look] at hb
  refine ⟨v, fun b => S' b ∨ ownRows (hp' r) E' b, he, frzT_ok (hO.ok h1) (fun _ x => .inl x) (fun _ x => .inr x) hv' (hz r) E, ⟨hk.os, hk.tape, hk.output, hk.size, fun k hk' _ => hk.block k hk' (nl k), hk.drawn⟩, fun b hb => ?_, fun b hb => ?_⟩
  · rcases hb with hb | ⟨id, _, hl, hβ⟩
    · exact h1 b hb
    · exact (hO.own id _ b hl hβ).2
  · rcases hb with hb | ⟨id, _, hl, hβ⟩
    · rcases h2 b hb with h4 | h4 | h4
      · exact .inl h4
      · exact absurd h4 (nl b)
      · exact .inr h4
    · rcases h3 b ⟨id, _, hl, hβ⟩ with h4 | h4
      · exact absurd h4 (nl b)
      · exact .inr h4
end Go.Pv
namespace Go.Pv
open Go.RowKit
def nodupB : List Nat → Bool
  | [] => true
  | x :: r => !(r.any (Nat.beq x)) && nodupB r
def rev : List (Nat × Nat) → Nat → Option Nat
  | [], _ => none
  | (a, b) :: r, c => bif Nat.beq b c then some a else rev r c
theorem any_beq {l : List Nat} {x : Nat} (h : l.any (Nat.beq x) = false) : x ∉ l := by
  intro hx
  rw [List.any_eq_false] at h
  exact h x hx (Nat.beq_refl x)
theorem look_mem {α : Type} : ∀ {l : List (Nat × α)} {i : Nat} {x : α}, look l i = some x → (i, x) ∈ l
  | [], i, x, h => by simp [look] at h
  | (a, b) :: r, i, x, h => by
    simp only [look] at h
    by_cases hi : a = i
    · subst hi; simp only [Nat.beq_refl, cond_true, Option.some.injEq] at h; subst h; exact List.mem_cons_self ..
    · simp only [beq_ne hi, cond_false] at h; exact List.mem_cons_of_mem _ (look_mem h)
theorem rev_look : ∀ {h : List (Nat × Nat)} {i j : Nat}, nodupB (h.map (·.2)) = true → look h i = some j → rev h j = some i
  | [], i, j, _, hl => by simp [look] at hl
  | (a, b) :: r, i, j, hn, hl => by
    simp only [List.map_cons, nodupB, Bool.and_eq_true, Bool.not_eq_true'] at hn
    simp only [look] at hl
    by_cases hi : a = i
    · subst hi; simp only [Nat.beq_refl, cond_true, Option.some.injEq] at hl; subst hl; simp [rev]
    · simp only [beq_ne hi, cond_false] at hl
      have hne : b ≠ j := fun e => any_beq hn.1 (e ▸ List.mem_map.2 ⟨(i, j), look_mem hl, rfl⟩)
      simp only [rev, beq_ne hne, cond_false]
      exact rev_look hn.2 hl
theorem rev_none : ∀ {h : List (Nat × Nat)} {c : Nat}, c ∉ h.map (·.2) → rev h c = none
  | [], c, _ => rfl
  | (a, b) :: r, c, hc => by
    simp only [List.map_cons, List.mem_cons, not_or] at hc
    simp only [rev, beq_ne (Ne.symm hc.1), cond_false]
    exact rev_none hc.2
theorem rev_mem : ∀ {h : List (Nat × Nat)} {c a : Nat}, rev h c = some a → (a, c) ∈ h
  | [], c, a, hr => by simp [rev] at hr
  | (x, y) :: r, c, a, hr => by
    simp only [rev] at hr
    by_cases hy : y = c
    · subst hy; simp only [Nat.beq_refl, cond_true, Option.some.injEq] at hr; subst hr; exact List.mem_cons_self ..
    · simp only [beq_ne hy, cond_false] at hr; exact List.mem_cons_of_mem _ (rev_mem hr)
theorem look_append {α : Type} : ∀ (l m : List (Nat × α)) (i : Nat), look (l ++ m) i = match look l i with | some x => some x | none => look m i
  | [], m, i => rfl
  | (a, b) :: r, m, i => by
    simp only [List.cons_append, look]
    by_cases hi : a = i
    · subst hi; simp
    · simp only [beq_ne hi, cond_false]; exact look_append r m i
theorem nodup_append : ∀ {l m : List Nat}, nodupB (l ++ m) = true → nodupB l = true ∧ nodupB m = true ∧ ∀ x, x ∈ l → x ∉ m
  | [], m, h => ⟨rfl, h, fun x hx => by simp at hx⟩
  | a :: r, m, h => by
    simp only [List.cons_append, nodupB, Bool.and_eq_true, Bool.not_eq_true', List.any_append, Bool.or_eq_false_iff] at h
    obtain ⟨h1, h2, h3⟩ := nodup_append h.2
    refine ⟨by simp [nodupB, h.1.1, h1], h2, fun x hx => ?_⟩
    rcases List.mem_cons.1 hx with rfl | hx
    · exact any_beq h.1.2
    · exact h3 x hx
def renHp (h : List (Nat × Nat)) : List (Nat × Blk) → Option (List (Nat × Blk))
  | [] => some []
  | (i, b) :: r => match look h i, renB h b, renHp h r with | some j, some c, some l => some ((j, c) :: l) | _, _, _ => none
def renTm (h : List (Nat × Nat)) : List (Nat × T) → Option (List (Nat × T))
  | [] => some []
  | (k, t) :: r => match renT h t, renTm h r with | some u, some l => some ((k, u) :: l) | _, _ => none
theorem renHp_back {h : List (Nat × Nat)} : ∀ {hp hp' : List (Nat × Blk)}, renHp h hp = some hp' → ∀ {c : Nat} {b' : Blk}, look hp' c = some b' → ∃ i b, look hp i = some b ∧ look h i = some c ∧ renB h b = some b'
  | [], hp', hr, c, b', hl => by simp only [renHp, Option.some.injEq] at hr; subst hr; simp [look] at hl
  | (i, b) :: r, hp', hr, c, b', hl => by
    simp only [renHp] at hr
    split at hr <;> try (cases hr; done)
    rename_i j b1 l hj hb hl'
    simp only [Option.some.injEq] at hr; subst hr
    simp only [look] at hl
    by_cases hc : j = c
    · subst hc
      simp only [Nat.beq_refl, cond_true, Option.some.injEq] at hl; subst hl
      exact ⟨i, b, by simp [look], hj, hb⟩
    · simp only [beq_ne hc, cond_false] at hl
      obtain ⟨i', b2, h1, h2, h3⟩ := renHp_back hl' hl
      refine ⟨i', b2, ?_, h2, h3⟩
      have hne : i ≠ i' := by intro e; subst e; rw [hj] at h2; exact hc (Option.some.inj h2)
      simp only [look, beq_ne hne, cond_false]
      exact h1
theorem renHp_fwd {h : List (Nat × Nat)} : ∀ {hp hp' : List (Nat × Blk)}, renHp h hp = some hp' → ∀ {i : Nat} {b : Blk}, look hp i = some b → ∃ j b', look h i = some j ∧ renB h b = some b' ∧ (j, b') ∈ hp'
  | [], hp', hr, i, b, hl => by simp [look] at hl
  | (i0, b0) :: r, hp', hr, i, b, hl => by
    simp only [renHp] at hr
    split at hr <;> try (cases hr; done)
    rename_i j b1 l hj hb hl'
    simp only [Option.some.injEq] at hr; subst hr
    simp only [look] at hl
    by_cases hi : i0 = i
    · subst hi
      simp only [Nat.beq_refl, cond_true, Option.some.injEq] at hl; subst hl
      exact ⟨j, b1, hj, hb, List.mem_cons_self ..⟩
    · simp only [beq_ne hi, cond_false] at hl
      obtain ⟨j', b2, h1, h2, h3⟩ := renHp_fwd hl' hl
      exact ⟨j', b2, h1, h2, List.mem_cons_of_mem _ h3⟩
theorem renTm_back {h : List (Nat × Nat)} : ∀ {tm tm' : List (Nat × T)}, renTm h tm = some tm' → ∀ {k : Nat} {u : T}, look tm' k = some u → ∃ t, look tm k = some t ∧ renT h t = some u
  | [], tm', hr, k, u, hl => by simp only [renTm, Option.some.injEq] at hr; subst hr; simp [look] at hl
  | (k0, t0) :: r, tm', hr, k, u, hl => by
    simp only [renTm] at hr
    split at hr <;> try (cases hr; done)
    rename_i u1 l hu hl'
    simp only [Option.some.injEq] at hr; subst hr
    simp only [look] at hl
    by_cases hk : k0 = k
    · subst hk
      simp only [Nat.beq_refl, cond_true, Option.some.injEq] at hl; subst hl
      exact ⟨t0, by simp [look], hu⟩
    · simp only [beq_ne hk, cond_false] at hl
      obtain ⟨t, h1, h2⟩ := renTm_back hl' hl
      exact ⟨t, by simp only [look, beq_ne hk, cond_false]; exact h1, h2⟩
def renOk (h : List (Nat × Nat)) : Bool := nodupB (h.map (·.2)) && h.all (fun p => Nat.blt p.2 big || Nat.beq p.1 p.2)
/-- A state under other names. -/
theorem Ok.ren {w0 : World} {L : Lim} {nt : Nat} {tm tm' : List (Nat × T)} {hp hp' : List (Nat × Blk)} {S : Nat → Prop} {E : Nat → Value} {a : Act} {w : World} (k : Ok w0 L nt ⟨tm, hp⟩ S E a w) (h : List (Nat × Nat)) (ho : renOk h = true)
    (ht : renTm h tm = some tm') (hh : renHp h hp = some hp') : ∃ E', Ok w0 L nt ⟨tm', hp'⟩ S E' a w := by
  simp only [renOk, Bool.and_eq_true, List.all_eq_true] at ho
  let E' : Nat → Value := fun c => match rev h c with | some s => E s | none => E c
  have hE : ∀ i j, look h i = some j → E' j = E i := fun i j hl => by simp [E', rev_look ho.1 hl]
  refine ⟨E', { keep := k.keep, stab := k.stab, base := k.base, size := k.size, defers := k.defers, tm := fun n u hl => ?_, hp := fun c b hl => ?_, own := fun c b β hl hβ => ?_, dist := fun c c' b b' β hl hl' hβ hβ' => ?_, pin := fun id hid => ?_ }⟩
  · obtain ⟨t, h1, h2⟩ := renTm_back ht hl
    exact renT_ok hE (k.tm n t h1) h2
  · obtain ⟨i, b0, h1, h2, h3⟩ := renHp_back hh hl
    rw [hE i c h2]
    exact renB_ok hE (k.hp i b0 h1) h3
  · obtain ⟨i, b0, h1, h2, h3⟩ := renHp_back hh hl
    rw [hE i c h2] at hβ
    exact k.own i b0 β h1 hβ
  · obtain ⟨i, b0, h1, h2, h3⟩ := renHp_back hh hl
    obtain ⟨i', b0', h1', h2', h3'⟩ := renHp_back hh hl'
    rw [hE i c h2] at hβ
    rw [hE i' c' h2'] at hβ'
    have := k.dist i i' b0 b0' β h1 h1' hβ hβ'
    subst this
    rw [h2] at h2'
    exact Option.some.inj h2'
  · simp only [E']
    split
    · rename_i s hs
      have := ho.2 _ (rev_mem hs)
      simp only [Bool.or_eq_true] at this
      rcases this with h1 | h1
      · have := Nat.le_of_ble_eq_true h1; omega
      · have := Nat.eq_of_beq_eq_true h1; subst this; exact k.pin _ hid
    · exact k.pin id hid
def callA (tm : List (Nat × T)) (o : Oper) : Option (Nat × List T) :=
  match o.op with
  | .call ⟨.value f, args, _⟩ => match val tm f, vals tm args.toList with
    | some (.fz n caps), some l => some (n, l ++ caps.map .el)
    | some (.clo n c), some l => some (n, l ++ c)
    | _, _ => none
  | _ => none
theorem callA_ok {P : Program} {w0 : World} {L : Lim} {nt : Nat} {σ : St} {S : Nat → Prop} {E : Nat → Value} {a : Act} {w : World} (h : Ok w0 L nt σ S E a w) {o : Oper} {n : Nat} {l : List T} (ho : callA σ.tm o = some (n, l)) (hn : ∀ vs w, (callFunc n vs).run P w = .ok (.enter n vs) w) :
    ∃ vs : List Value, (execOp a.eval o).run P w = .ok (.enter n vs.toArray) w ∧ RVL w S E vs l := by
  obtain ⟨dst, op, type, pos, aft, guard⟩ := o
  unfold callA at ho
  split at ho <;> try (cases ho; done)
  rename_i f args tys hop
  simp only at hop
  subst hop
  have fin : ∀ (ps : List Value) (caps : List T) (l' : List T), a.eval f = .func (.func n) #[] ps.toArray → RVL w S E ps caps → vals σ.tm args.toList = some l' → l = l' ++ caps →
      ∃ vs : List Value, (execOp a.eval ⟨dst, .call ⟨.value f, args, tys⟩, type, pos, aft, guard⟩).run P w = .ok (.enter n vs.toArray) w ∧ RVL w S E vs l := by
    intro ps caps l' hx hps hl e
    subst e
    refine ⟨args.toList.map a.eval ++ ps, ?_, (vals_ok h _ _ hl).append hps⟩
    have : (args.map a.eval) = (args.toList.map a.eval).toArray := Array.ext' (by simp)
    simp only [execOp, resolve, Sem.run_bind, hx, Deferred.ofValue, Sem.run_pure, Result.andThen_ok, invoke]
    rw [hn]
    simp [this]
  split at ho <;> try (cases ho; done)
  · rename_i n' caps' l' hf hl
    simp only [Option.some.injEq, Prod.mk.injEq] at ho
    obtain ⟨rfl, rfl⟩ := ho
    have hfv := h.val hf
    generalize hx : a.eval f = x at hfv
    cases hfv with
    | fz _ ps _ hpl hp =>
      exact fin ps (caps'.map .el) l' hx ⟨by simpa using hpl, fun j h1 h2 => by simp only [List.getElem_map]; exact (hp j h1 (by simpa using h2)).rv⟩ hl rfl
  · rename_i n' c l' hf hl
    simp only [Option.some.injEq, Prod.mk.injEq] at ho
    obtain ⟨rfl, rfl⟩ := ho
    have hfv := h.val hf
    generalize hx : a.eval f = x at hfv
    cases hfv with
    | clo _ ps _ hpl hp => exact fin ps c l' hx ⟨hpl, hp⟩ hl rfl
def memB (c : Nat) (l : List (Nat × Nat)) : Bool := l.any fun p => Nat.beq p.2 c
def dropIds (lm : List (Nat × Nat)) : List (Nat × Blk) → List (Nat × Blk)
  | [] => []
  | (i, b) :: r => match memB i lm with | true => dropIds lm r | false => (i, b) :: dropIds lm r
theorem dropIds_look {lm : List (Nat × Nat)} : ∀ {hp : List (Nat × Blk)} {i : Nat} {b : Blk}, look (dropIds lm hp) i = some b → look hp i = some b ∧ i ∉ lm.map (·.2)
  | [], i, b, h => by simp [dropIds, look] at h
  | (j, c) :: r, i, b, h => by
    simp only [dropIds] at h
    cases hm : memB j lm <;> simp only [hm] at h
    · simp only [look] at h
      by_cases hj : j = i
      · subst hj
        simp only [Nat.beq_refl, cond_true, Option.some.injEq] at h; subst h
        refine ⟨by simp [look], fun hx => ?_⟩
        obtain ⟨p, hp, he⟩ := List.mem_map.1 hx
        unfold memB at hm
        rw [List.any_eq_false] at hm
        exact hm p hp (by simp [he])
      · simp only [beq_ne hj, cond_false] at h
        have := dropIds_look h
        exact ⟨by simp only [look, beq_ne hj, cond_false]; exact this.1, this.2⟩
    · have := dropIds_look h
      refine ⟨?_, this.2⟩
      by_cases hj : j = i
      · subst hj
        exfalso
        unfold memB at hm
        rw [List.any_eq_true] at hm
        obtain ⟨p, hp, he⟩ := hm
        exact this.2 (List.mem_map.2 ⟨p, hp, Nat.eq_of_beq_eq_true he⟩)
      · simp only [look, beq_ne hj, cond_false]; exact this.1
def mapsOk (lm nm : List (Nat × Nat)) (tm : List (Nat × T)) (hp : List (Nat × Blk)) : Bool :=
  nodupB ((lm ++ nm).map (·.2)) && lm.all (fun p => Nat.ble big p.1) && nm.all (fun p => Nat.blt p.2 big && freshT p.2 tm && freshB p.2 hp)
/-- What a call leaves behind. -/
theorem Ok.called {w0 : World} {L : Lim} {nt : Nat} {tm : List (Nat × T)} {hp chp chp' rchp rhp : List (Nat × Blk)} {S S' : Nat → Prop} {E E' : Nat → Value} {a : Act} {w w' : World} (k : Ok w0 L nt ⟨tm, hp⟩ S E a w) {lm nm : List (Nat × Nat)} {v : Value} {t u : T}
    (hm : mapsOk lm nm tm hp = true) (hr : renHp lm chp = some rchp) (hsub : rchp.map (look3 hp) = rchp.map (fun p => some p.2)) {Ec : Nat → Value} (hEc : ∀ i j, look lm i = some j → Ec i = E j)
    (hv : RV w' S' E' v t) (hkeep : Keep L.dr (lentOf chp Ec) w w') (h1 : ∀ b, S' b → b < w'.heap.size) (h2 : ∀ b, S' b → S b ∨ lentOf chp Ec b ∨ w.heap.size ≤ b)
    (hO : Owned w' S' E' chp') (h3 : ∀ β, lentOf chp' E' β → lentOf chp Ec β ∨ w.heap.size ≤ β) (h4 : ∀ id, big ≤ id → E' id = Ec id)
    (hres : renT (lm ++ nm) t = some u) (hrhp : renHp (lm ++ nm) chp' = some rhp) :
    ∃ S2 E2, Ok w0 L nt ⟨tm, rhp ++ dropIds lm hp⟩ S2 E2 a w' ∧ RV w' S2 E2 v u := by
  simp only [mapsOk, Bool.and_eq_true, List.all_eq_true] at hm
  obtain ⟨⟨hnd, hbig⟩, hfr⟩ := hm
  rw [List.map_append] at hnd
  obtain ⟨nd1, nd2, ndx⟩ := nodup_append hnd
  have hmem : ∀ p ∈ rchp, ∃ b', look hp p.1 = some b' ∧ mrgB b' p.2 = p.2 := by
    intro p hp'
    obtain ⟨n, hn, rfl⟩ := List.mem_iff_getElem.1 hp'
    have : (rchp.map (look3 hp))[n]? = (rchp.map (fun p => some p.2))[n]? := by rw [hsub]
    rw [List.getElem?_map, List.getElem?_map, List.getElem?_eq_getElem hn] at this
    simp only [Option.map_some, Option.some.injEq] at this
    unfold look3 at this
    split at this
    · rename_i b' hb'; exact ⟨b', hb', Option.some.inj this⟩
    · cases this
  -- who is lent
  have lent : ∀ β, lentOf chp Ec β → ∃ i j b', look lm i = some j ∧ look hp j = some b' ∧ blkOf (E j) = some β := by
    rintro β ⟨i, b, hb, hβ⟩
    obtain ⟨j, b', e1, e2, e3⟩ := renHp_fwd hr hb
    obtain ⟨b0, e4, _⟩ := hmem _ e3
    exact ⟨i, j, b0, e1, e4, by rw [← hEc i j e1]; exact hβ⟩
  have lentOwn : ∀ β, lentOf chp Ec β → ¬ S β ∧ β < w.heap.size ∧ (w0.heap.size ≤ β ∨ L.lent β) := fun β hl => by
    obtain ⟨i, j, b', _, e2, e3⟩ := lent β hl
    exact k.own j b' β e2 e3
  have tgt : ∀ {i j : Nat}, look lm i = some j → j ∈ lm.map (·.2) := fun h => List.mem_map.2 ⟨_, look_mem h, rfl⟩
  have hS : ∀ b, S b → w'.heap[b]? = w.heap[b]? := fun b hb => hkeep.block b (k.stab b hb) (fun hl => (lentOwn b hl).1 hb)
  have hsz := hkeep.size
  have hsz0 := k.keep.size
  let E2 : Nat → Value := fun c => match rev nm c with | some s => E' s | none => E c
  have e2none : ∀ c, c ∉ nm.map (·.2) → E2 c = E c := fun c hc => by simp [E2, rev_none hc]
  have freshTm : ∀ c, c ∈ nm.map (·.2) → c < big ∧ freshT c tm = true ∧ freshB c hp = true := fun c hc => by
    obtain ⟨p, hp', rfl⟩ := List.mem_map.1 hc
    obtain ⟨⟨f1, f2⟩, f3⟩ := by simpa using hfr p hp'
    exact ⟨by simpa using f1, f2, f3⟩
  have hE2 : ∀ i j, look (lm ++ nm) i = some j → E2 j = E' i := by
    intro i j hl
    rw [look_append] at hl
    cases hli : look lm i with
    | some j' =>
      simp only [hli, Option.some.injEq] at hl
      subst hl
      rw [e2none j' (ndx j' (tgt hli)), h4 i (Nat.le_of_ble_eq_true (hbig _ (look_mem hli))), hEc i j' hli]
    | none =>
      simp only [hli] at hl
      simp [E2, rev_look nd2 hl]
  refine ⟨fun b => S b ∨ S' b, E2, ?_, (renT_ok hE2 hv hres).mono (fun _ x => .inr x) (fun _ _ => rfl) (fun _ _ => rfl)⟩
  have nameTm : ∀ n x, look tm n = some x → ∀ id, names id x = true → E2 id = E id := fun n x hx id hid => e2none id fun hc => by
    have := freshT_look (freshTm id hc).2.1 n x hx; rw [this] at hid; cases hid
  have fromA : ∀ {c b}, look rhp c = some b → ∃ i b0, look chp' i = some b0 ∧ look (lm ++ nm) i = some c ∧ renB (lm ++ nm) b0 = some b := fun h => renHp_back hrhp h
  have fromB : ∀ {c b}, look (dropIds lm hp) c = some b → look hp c = some b ∧ c ∉ lm.map (·.2) ∧ E2 c = E c := fun {c b} h => by
    have := dropIds_look h
    exact ⟨this.1, this.2, e2none c fun hc => (freshB_look (freshTm c hc).2.2 c b this.1).1 rfl⟩
  have blkA : ∀ {c b β}, look rhp c = some b → blkOf (E2 c) = some β → lentOf chp' E' β ∧ ¬ S' β ∧ β < w'.heap.size := fun {c b β} h hβ => by
    obtain ⟨i, b0, e1, e2, e3⟩ := fromA h
    rw [hE2 i c e2] at hβ
    exact ⟨⟨i, b0, e1, hβ⟩, hO.own i b0 β e1 hβ⟩
  have notLent : ∀ {c b β}, look hp c = some b → c ∉ lm.map (·.2) → blkOf (E c) = some β → ¬ lentOf chp Ec β := fun {c b β} h hc hβ hl => by
    obtain ⟨i, j, b', e1, e2, e3⟩ := lent β hl
    have := k.dist c j b b' β h e2 hβ e3
    subst this
    exact hc (tgt e1)
  exact {
    keep := k.keep.trans hkeep (fun x hx => (lentOwn x hx).2.2.symm)
    stab := fun b hb => hb.elim (fun h => Nat.lt_of_lt_of_le (k.stab b h) hsz) (h1 b)
    base := fun b hb => by
      rcases hb with hb | hb
      · exact k.base b hb
      · rcases h2 b hb with h5 | h5 | h5
        · exact k.base b h5
        · exact .inr ((lentOwn b h5).2.2.symm)
        · exact .inr (.inr (Nat.le_trans hsz0 h5))
    size := k.size
    defers := k.defers
    tm := fun n x hx => (k.tm n x hx).mono (fun _ x => .inl x) hS (nameTm n x hx)
    hp := fun c b hl => by
      simp only at hl
      rw [look_append] at hl
      cases hA : look rhp c with
      | some b0 =>
        simp only [hA, Option.some.injEq] at hl
        subst hl
        obtain ⟨i, b1, e1, e2, e3⟩ := fromA hA
        rw [hE2 i c e2]
        exact (renB_ok hE2 (hO.blk i b1 e1) e3).mono (fun _ x => .inr x) (fun _ _ => rfl) (fun _ _ => rfl) (fun _ _ => rfl)
      | none =>
        simp only [hA] at hl
        obtain ⟨e1, e2, e3⟩ := fromB hl
        rw [e3]
        exact (k.hp c b e1).mono (fun _ x => .inl x) hS (fun β hβ => hkeep.block β (k.own c b β e1 hβ).2.1 (notLent e1 e2 hβ)) fun id hid => e2none id fun hc => by
          have := (freshB_look (freshTm id hc).2.2 c b e1).2; rw [this] at hid; cases hid
    own := fun c b β hl hβ => by
      simp only at hl
      rw [look_append] at hl
      cases hA : look rhp c with
      | some b0 =>
        obtain ⟨e1, e2, e3⟩ := blkA hA hβ
        rcases h3 β e1 with h5 | h5
        · exact ⟨fun hx => hx.elim (lentOwn β h5).1 e2, e3, (lentOwn β h5).2.2⟩
        · exact ⟨fun hx => hx.elim (fun h6 => absurd (k.stab β h6) (Nat.not_lt.2 h5)) e2, e3, .inl (Nat.le_trans hsz0 h5)⟩
      | none =>
        simp only [hA] at hl
        obtain ⟨e1, e2, e3⟩ := fromB hl
        rw [e3] at hβ
        have := k.own c b β e1 hβ
        refine ⟨fun hx => hx.elim this.1 fun h6 => ?_, Nat.lt_of_lt_of_le this.2.1 hsz, this.2.2⟩
        rcases h2 β h6 with h7 | h7 | h7
        · exact this.1 h7
        · exact notLent e1 e2 hβ h7
        · exact absurd this.2.1 (Nat.not_lt.2 h7)
    dist := fun c c' b b' β hl hl' hβ hβ' => by
      simp only at hl hl'
      rw [look_append] at hl hl'
      have clash : ∀ {c c' b b'}, look rhp c = some b → look (dropIds lm hp) c' = some b' → blkOf (E2 c) = some β → blkOf (E2 c') = some β → False := fun {c c' b b'} hA hB q1 q2 => by
        obtain ⟨e1, e2, e3⟩ := blkA hA q1
        obtain ⟨f1, f2, f3⟩ := fromB hB
        rw [f3] at q2
        rcases h3 β e1 with h5 | h5
        · exact notLent f1 f2 q2 h5
        · exact absurd (k.own c' b' β f1 q2).2.1 (Nat.not_lt.2 h5)
      cases hA : look rhp c with
      | some b0 =>
        cases hA' : look rhp c' with
        | some b0' =>
          obtain ⟨i, b1, e1, e2, e3⟩ := fromA hA
          obtain ⟨i', b1', e1', e2', e3'⟩ := fromA hA'
          rw [hE2 i c e2] at hβ
          rw [hE2 i' c' e2'] at hβ'
          have := hO.dist i i' b1 b1' β e1 e1' hβ hβ'
          subst this
          rw [e2] at e2'
          exact Option.some.inj e2'
        | none =>
          simp only [hA'] at hl'
          exact (clash hA hl' hβ hβ').elim
      | none =>
        simp only [hA] at hl
        cases hA' : look rhp c' with
        | some b0' => exact (clash hA' hl hβ' hβ).elim
        | none =>
          simp only [hA'] at hl'
          obtain ⟨e1, _, e3⟩ := fromB hl
          obtain ⟨e1', _, e3'⟩ := fromB hl'
          rw [e3] at hβ
          rw [e3'] at hβ'
          exact k.dist c c' b b' β e1 e1' hβ hβ'
    pin := fun id hid => by
      rw [e2none id fun hc => by have := (freshTm id hc).1; omega]
      exact k.pin id hid }
section
variable {ρ τ : Type} {X : Cx} {ks : List K} {tm tm' : List (Nat × T)} {hp hp' : List (Nat × Blk)} {m : Option ρ} {Q : ρ → Exit → St → Prop}
theorem TieX.ren {e' : Exit} (h : List (Nat × Nat)) (ho : renOk h = true) (ht : renTm h tm = some tm') (hh : renHp h hp = some hp') (k : TieX X ks e' ⟨tm', hp'⟩ m Q) : TieX X ks e' ⟨tm, hp⟩ m Q := fun r hr a w ⟨S, E, hw⟩ => by
  obtain ⟨E', h'⟩ := hw.ren h ho ht hh
  exact k r hr a w ⟨S, E', h'⟩
end
end Go.Pv
namespace Go.Pv
open Go.RowKit
theorem look_of_mem {α : Type} : ∀ {h : List (Nat × α)} {a : Nat} {b : α}, nodupB (h.map (·.1)) = true → (a, b) ∈ h → look h a = some b
  | [], a, b, _, hm => by simp at hm
  | (x, y) :: r, a, b, hn, hm => by
    simp only [List.map_cons, nodupB, Bool.and_eq_true, Bool.not_eq_true'] at hn
    rcases List.mem_cons.1 hm with h1 | h1
    · simp only [Prod.mk.injEq] at h1; obtain ⟨rfl, rfl⟩ := h1; simp [look]
    · have hne : x ≠ a := fun e => any_beq hn.1 (e ▸ List.mem_map.2 ⟨(a, b), h1, rfl⟩)
      simp only [look, beq_ne hne, cond_false]
      exact look_of_mem hn.2 h1
/-- What the function hands back, as it stands. -/
def endT (tab : Tab) (σ : St) (l : List ResultVar) : Option T :=
  match resVals tab σ l with
  | some [x] => some x
  | some l => some (.tup l)
  | none => none
theorem endT_ok {P : Program} {tab : Tab} (htab : TabOk P tab) {σ : St} {w0 : World} {L : Lim} {nt : Nat} {S : Nat → Prop} {E : Nat → Value} {a : Act} {w : World} (h : Ok w0 L nt σ S E a w) {fn : Func} {t : T}
    (hr : endT tab σ fn.results.toList = some t) : ∃ v, (results fn a.tmps).run P w = .ok v w ∧ RV w S E v t := by
  unfold endT at hr
  cases hl : resVals tab σ fn.results.toList with
  | none => simp [hl] at hr
  | some l =>
    obtain ⟨vs, h1, h2⟩ := resVals_ok htab h _ _ hl
    have hm : (fn.results.mapM (resOne a.tmps)).run P w = .ok vs.toArray w := by
      rw [Array.mapM_eq_mapM_toList, Sem.run_map, h1]; rfl
    have hrun : (results fn a.tmps).run P w = .ok (if h : vs.toArray.size = 1 then vs.toArray[0] else .tuple vs.toArray) w := by
      show (do let vs ← fn.results.mapM (resOne a.tmps); pure (if h : vs.size = 1 then vs[0] else .tuple vs) : Sem Value).run P w = _
      rw [Sem.run_bind, hm]
      rfl
    refine ⟨_, hrun, ?_⟩
    rw [hl] at hr
    have hlen := h2.1
    match l, hr, hlen with
    | [x], hr, hlen =>
      match vs, hlen, h2 with
      | [v], _, h2 =>
        simp only [Option.some.injEq] at hr
        subst hr
        exact h2.2 0 (Nat.zero_lt_one) (Nat.zero_lt_one)
    | [], hr, hlen =>
      simp only [Option.some.injEq] at hr
      subst hr
      match vs, hlen with
      | [], _ => exact .tup [] [] rfl fun j h1 => by simp at h1
    | x :: y :: l, hr, hlen =>
      simp only [Option.some.injEq] at hr
      subst hr
      have hsz : ¬ vs.toArray.size = 1 := by simp at hlen ⊢; omega
      rw [dif_neg hsz]
      exact .tup vs _ h2.1 h2.2
def endB (nm : List (Nat × Nat)) (hp : List (Nat × Blk)) (p : Nat × Blk) : Option Blk :=
  match rev nm p.1 with
  | some s => match look hp s with
    | some b => match renB nm b with
      | some c => some (mrgB c p.2)
      | none => none
    | none => none
  | none => none
/-- The state at a function's end, under the contract's names nm. -/
def EndG (tab : Tab) (σ : St) (rs : List ResultVar) (t : T) (bl : List (Nat × Blk)) : Prop :=
  ∃ (nm : List (Nat × Nat)) (t0 t1 : T), (renOk nm && nodupB (nm.map (·.1))) = true ∧ endT tab σ rs = some t0 ∧ renT nm t0 = some t1 ∧ mrg t1 t = t ∧ bl.map (endB nm σ.hp) = bl.map (fun p => some p.2)
theorem TieG.intro {d : Bool} {τ : Type} {P : Program} {tab : Tab} (htab : TabOk P tab) {n : Nat} {fn : Func} {c : Code} {args : List T} {hp : List (Nat × Blk)} {m : Option τ} {res : τ → T} {hp' : τ → List (Nat × Blk)} (nt : Nat) (rs : List ResultVar)
    (hcall : ∀ vs w, (callFunc n vs).run P w = .ok (.enter n vs) w) (hf : P.funcs[n]? = some fn) (hb : fn.body = some c) (hnt : fn.ntmps = nt) (hrs : fn.results.toList = rs) (hsz : args.length ≤ nt)
    (body : ∀ (w0 : World) (L : Lim) (gl : GlL P w0 L.lent) (_ : L.dr = d), TieS ⟨P, tab, htab, w0, L, nt, gl⟩ [.c c] ⟨number 0 args, hp⟩ m (fun r e σ' => (e = .ret ∨ e = .normal) ∧ EndG tab σ' rs (res r) (hp' r))) : TieG P n args hp m res hp' d := by
  refine ⟨hcall, fun r hr w S E vs hgl hS hO hv => ?_⟩
  refine calls_of_wp hf hb ?_
  have h := body w ⟨lentOf hp E, S, E, d⟩ hgl rfl r hr ⟨vs.toArray ++ Array.replicate (fn.ntmps - vs.toArray.size) undef, []⟩ w ⟨S, E, {
    keep := Keep.refl _ _, stab := hS, base := fun b hb => .inl hb, size := by have := hv.1; simp; omega, defers := rfl,
    tm := fun k t ht => by
      obtain ⟨_, hk⟩ := number_look args 0 k t ht
      simp only [Nat.sub_zero] at hk
      obtain ⟨hlt, rfl⟩ := List.getElem?_eq_some_iff.1 hk
      have hlt' : k < vs.length := by have := hv.1; omega
      have := hv.2 k hlt' hlt
      simpa [Array.getElem?_append, hlt'] using this
    hp := hO.blk
    own := fun id b β hb hβ => ⟨(hO.own id b β hb hβ).1, (hO.own id b β hb hβ).2, .inr ⟨id, b, hb, hβ⟩⟩
    dist := hO.dist
    pin := fun _ _ => rfl }⟩
  refine wp_mono h fun e a' w' ⟨σ', ⟨S', E1, hk⟩, he, nm, t0, t1, hok, ht0, ht1, hmr, hbl⟩ => ?_
  rw [← hrs] at ht0
  obtain ⟨v, hv1, hv2⟩ := endT_ok htab hk ht0
  simp only [Bool.and_eq_true, renOk, List.all_eq_true] at hok
  obtain ⟨⟨hnd, hbg⟩, hkeys⟩ := hok
  let E2 : Nat → Value := fun c => match rev nm c with | some s => E1 s | none => E1 c
  have hE : ∀ i j, look nm i = some j → E2 j = E1 i := fun i j hl => by simp [E2, rev_look hnd hl]
  have hmem : ∀ id b, look (hp' r) id = some b → ∃ s b0 c, rev nm id = some s ∧ look nm s = some id ∧ look σ'.hp s = some b0 ∧ renB nm b0 = some c ∧ mrgB c b = b := by
    intro id b hl
    obtain ⟨n, hn, hx⟩ := List.mem_iff_getElem.1 (look_mem hl)
    have : ((hp' r).map (endB nm σ'.hp))[n]? = ((hp' r).map (fun p => some p.2))[n]? := by rw [hbl]
    rw [List.getElem?_map, List.getElem?_map, List.getElem?_eq_getElem hn, hx] at this
    simp only [Option.map_some, Option.some.injEq] at this
    unfold endB at this
    split at this <;> try (cases this; done)
    rename_i s hs
    split at this <;> try (cases this; done)
    rename_i b0 hb0
    split at this <;> try (cases this; done)
    rename_i c hc
    exact ⟨s, b0, c, hs, look_of_mem hkeys (rev_mem hs), hb0, hc, Option.some.inj this⟩
  have fin : a'.defers = [] ∧ ∃ v, (results fn a'.tmps).run P w' = .ok v w' ∧ ∃ v' S'' E'', Ending.returned v = .returned v' ∧ RV w' S'' E'' v' (res r) ∧ Keep d (lentOf hp E) w w' ∧ (∀ b, S'' b → b < w'.heap.size) ∧ (∀ b, S'' b → S b ∨ lentOf hp E b ∨ w.heap.size ≤ b) ∧
      Owned w' S'' E'' (hp' r) ∧ (∀ β, lentOf (hp' r) E'' β → lentOf hp E β ∨ w.heap.size ≤ β) ∧ (∀ id, big ≤ id → E'' id = E id) := by
    refine ⟨hk.defers, v, hv1, v, S', E2, rfl, ?_, hk.keep, hk.stab, fun b hb => hk.base b hb, ⟨fun id b hl => ?_, fun id b β hl hβ => ?_, fun id id' b b' β hl hl' hβ hβ' => ?_⟩, fun β hl => ?_, fun id hid => ?_⟩
    · have := mrg_ok (u := res r) (renT_ok hE hv2 ht1)
      rw [hmr] at this
      exact this
    · obtain ⟨s, b0, c, e1, e2, e3, e4, e5⟩ := hmem id b hl
      have := mrgB_ok (u := b) (renB_ok hE (hk.hp s b0 e3) e4)
      rw [e5] at this
      rw [hE s id e2]
      exact this
    · obtain ⟨s, b0, c, e1, e2, e3, e4, e5⟩ := hmem id b hl
      rw [hE s id e2] at hβ
      have := hk.own s b0 β e3 hβ
      exact ⟨this.1, this.2.1⟩
    · obtain ⟨s, b0, c, e1, e2, e3, e4, e5⟩ := hmem id b hl
      obtain ⟨s', b0', c', e1', e2', e3', e4', e5'⟩ := hmem id' b' hl'
      rw [hE s id e2] at hβ
      rw [hE s' id' e2'] at hβ'
      have := hk.dist s s' b0 b0' β e3 e3' hβ hβ'
      subst this
      rw [e2] at e2'
      exact Option.some.inj e2'
    · obtain ⟨id, b, hl, hβ⟩ := hl
      obtain ⟨s, b0, c, e1, e2, e3, e4, e5⟩ := hmem id b hl
      rw [hE s id e2] at hβ
      exact (hk.own s b0 β e3 hβ).2.2.symm
    · simp only [E2]
      split
      · rename_i s hs
        have := hbg _ (rev_mem hs)
        simp only [Bool.or_eq_true] at this
        rcases this with h1 | h1
        · have := Nat.le_of_ble_eq_true h1; omega
        · have := Nat.eq_of_beq_eq_true h1; subst this; exact hk.pin _ hid
      · exact hk.pin id hid
  rcases he with rfl | rfl <;> exact fin
/-- The nil slice at a place within a slot's content, under a name of its own. -/
def setNil (id : Nat) : List Nat → T → Option T
  | [], .t (.v (.slice none 0 0)) => some (.own id)
  | i :: p, .agg l => match l[i]? with
    | some x => match setNil id p x with
      | some y => some (.agg (l.set i y))
      | none => none
    | none => none
  | i :: p, .tup l => match l[i]? with
    | some x => match setNil id p x with
      | some y => some (.tup (l.set i y))
      | none => none
    | none => none
  | _, _ => none
theorem RVL.set {w : World} {S : Nat → Prop} {E : Nat → Value} {vs : List Value} {l : List T} {i : Nat} {y : T} (h : RVL w S E vs l) (hi : i < vs.length) (hy : RV w S E (vs[i]) y) : RVL w S E vs (l.set i y) := by
  refine ⟨by simp [h.1], fun j h1 h2 => ?_⟩
  rw [List.getElem_set]
  split
  · rename_i e; subst e; exact hy
  · exact h.2 j h1 (by simpa using h2)
theorem setNil_ok {w : World} {S : Nat → Prop} {E : Nat → Value} {id : Nat} (hE : E id = .slice none 0 0) : ∀ {p : List Nat} {t u : T} {v : Value}, RV w S E v t → setNil id p t = some u → RV w S E v u
  | [], t, u, v, hv, hs => by
    unfold setNil at hs
    split at hs <;> try (cases hs; done)
    · simp only [Option.some.injEq] at hs; subst hs
      have := hv.tv
      subst this
      exact .own id _ hE
    · rename_i heq; cases heq
    · rename_i heq; cases heq
  | i :: p, t, u, v, hv, hs => by
    unfold setNil at hs
    split at hs
    · rename_i heq; cases heq
    · rename_i i' p' l heq
      cases heq
      split at hs <;> try (cases hs; done)
      rename_i x hx
      split at hs <;> try (cases hs; done)
      rename_i y hy
      simp only [Option.some.injEq] at hs; subst hs
      obtain ⟨hi, rfl⟩ := List.getElem?_eq_some_iff.1 hx
      cases hv with
      | agg vs _ hl hr =>
        have := RVL.set (w := w) (S := S) (E := E) (vs := vs) (l := l) ⟨hl, hr⟩ (by omega) (setNil_ok hE (hr i (by omega) hi) hy)
        exact .agg vs _ this.1 this.2
    · rename_i i' p' l heq
      cases heq
      split at hs <;> try (cases hs; done)
      rename_i x hx
      split at hs <;> try (cases hs; done)
      rename_i y hy
      simp only [Option.some.injEq] at hs; subst hs
      obtain ⟨hi, rfl⟩ := List.getElem?_eq_some_iff.1 hx
      cases hv with
      | tup vs _ hl hr =>
        have := RVL.set (w := w) (S := S) (E := E) (vs := vs) (l := l) ⟨hl, hr⟩ (by omega) (setNil_ok hE (hr i (by omega) hi) hy)
        exact .tup vs _ this.1 this.2
    · cases hs
theorem Ok.nilP {w0 : World} {L : Lim} {nt : Nat} {tm : List (Nat × T)} {hp : List (Nat × Blk)} {S : Nat → Prop} {E : Nat → Value} {a : Act} {w : World} (h : Ok w0 L nt ⟨tm, hp⟩ S E a w) {id e sz : Nat} (hbig : Nat.blt id big = true) (hft : freshT id tm = true) (hfb : freshB id hp = true) :
    ∃ E', E' id = .slice none 0 0 ∧ Ok w0 L nt ⟨tm, (id, .rows e sz 0 []) :: hp⟩ S E' a w :=
  h.regrow (v := .slice none 0 0) (v' := .slice none 0 0) (b := .rows e sz 0 []) hbig hft hfb (fun β hβ => by simp [blkOf] at hβ) (fun i blk β _ h1 => by simp [blkOf] at h1)
    (Keep.refl _ w) (fun β hβ => by simp [blkOf] at hβ) (fun E' => ⟨rfl, .inl ⟨rfl, rfl⟩⟩)
section
variable {ρ τ : Type} {X : Cx} {ks : List K} {tm tm' : List (Nat × T)} {hp hp' : List (Nat × Blk)} {m : Option ρ} {Q : ρ → Exit → St → Prop}
theorem TieX.nilP {e' : Exit} (k id e sz : Nat) (path : List Nat) {t u : T} (hk : look tm k = some t) (hu : setNil id path t = some u) (hbig : Nat.blt id big = true) (hft : freshT id tm = true) (hfb : freshB id hp = true)
    (h : TieX X ks e' ⟨(k, u) :: tm, (id, .rows e sz 0 []) :: hp⟩ m Q) : TieX X ks e' ⟨tm, hp⟩ m Q := fun r hr a w ⟨S, E, hw⟩ => by
  obtain ⟨E', hE, hok⟩ := hw.nilP (e := e) (sz := sz) hbig hft hfb
  refine h r hr a w ⟨S, E', { hok with tm := fun j t' ht => ?_ }⟩
  simp only [look] at ht
  by_cases hj : k = j
  · subst hj
    simp only [Nat.beq_refl, cond_true, Option.some.injEq] at ht
    subst ht
    exact setNil_ok hE (hok.tm k t hk) hu
  · simp only [beq_ne hj, cond_false] at ht
    exact hok.tm j t' ht
/-- The same within a box. -/
theorem TieX.nilB {e' : Exit} (b id e sz : Nat) (path : List Nat) {ts us : List T} (hk : look hp b = some (.box ts)) (hu : setNil id path (.agg ts) = some (.agg us)) (hbig : Nat.blt id big = true) (hft : freshT id tm = true) (hfb : freshB id hp = true)
    (h : TieX X ks e' ⟨tm, (id, .rows e sz 0 []) :: hput hp b (.box us)⟩ m Q) : TieX X ks e' ⟨tm, hp⟩ m Q := fun r hr a w ⟨S, E, hw⟩ => by
  obtain ⟨E', hE, hok⟩ := hw.nilP (e := e) (sz := sz) hbig hft hfb
  have hne : id ≠ b := fun e => (freshB_look hfb b _ hk).1 e.symm
  have lk : ∀ i blk, look ((id, Blk.rows e sz 0 []) :: hput hp b (.box us)) i = some blk → ∃ blk0, look ((id, Blk.rows e sz 0 []) :: hp) i = some blk0 ∧ (blk = blk0 ∨ (i = b ∧ blk = .box us)) := by
    intro i blk hl
    simp only [look] at hl ⊢
    by_cases hi : id = i
    · subst hi; simp only [Nat.beq_refl, cond_true] at hl ⊢; exact ⟨blk, hl, .inl rfl⟩
    · simp only [beq_ne hi, cond_false] at hl ⊢
      rw [look_hput] at hl
      by_cases hb : b = i
      · subst hb; simp only [if_true, hk, Option.map_some, Option.some.injEq] at hl; exact ⟨_, hk, .inr ⟨rfl, hl.symm⟩⟩
      · simp only [hb, if_false] at hl; exact ⟨blk, hl, .inl rfl⟩
  refine h r hr a w ⟨S, E', { hok with
    hp := fun i blk hl => ?_
    own := fun i blk β hl hβ => by obtain ⟨blk0, h0, _⟩ := lk i blk hl; exact hok.own i blk0 β h0 hβ
    dist := fun i i' blk blk' β hl hl' hβ hβ' => by
      obtain ⟨blk0, h0, _⟩ := lk i blk hl
      obtain ⟨blk0', h0', _⟩ := lk i' blk' hl'
      exact hok.dist i i' blk0 blk0' β h0 h0' hβ hβ' }⟩
  obtain ⟨blk0, h0, h1⟩ := lk i blk hl
  have hb0 := hok.hp i blk0 h0
  rcases h1 with rfl | ⟨rfl, rfl⟩
  · exact hb0
  · have : blk0 = .box ts := by
      simp only [look, beq_ne hne, cond_false] at h0
      rw [hk] at h0; exact (Option.some.inj h0).symm
    subst this
    obtain ⟨β, vs, elem, g1, g2, g3, g4, g5⟩ := hb0
    have := setNil_ok (w := w) (S := S) (p := path) hE (.agg vs ts g3 g4) hu
    generalize hvs : Value.agg vs.toArray = v at this
    cases this with
    | agg vs' _ k1 k2 =>
      simp only [Value.agg.injEq] at hvs
      have : vs = vs' := by simpa using congrArg Array.toList hvs
      subst this
      exact ⟨β, vs, elem, g1, g2, k1, k2, g5⟩
end
mutual
/-- Pointers into the box id, where they stand, point to cells that stay. -/
def elT (id : Nat) (c : List Tree) : T → T
  | .ptr i off => bif Nat.beq i id then .el (c.drop off) else .ptr i off
  | .agg l => .agg (elL id c l)
  | .tup l => .tup (elL id c l)
  | .clo f l => .clo f (elL id c l)
  | x => x
def elL (id : Nat) (c : List Tree) : List T → List T
  | [] => []
  | x :: r => elT id c x :: elL id c r
end
def elTm (id : Nat) (c : List Tree) : List (Nat × T) → List (Nat × T)
  | [] => []
  | (k, x) :: r => (k, elT id c x) :: elTm id c r
def elHp (id : Nat) (c : List Tree) : List (Nat × Blk) → List (Nat × Blk)
  | [] => []
  | (k, .box l) :: r => bif Nat.beq k id then elHp id c r else (k, .box (elL id c l)) :: elHp id c r
  | (k, x) :: r => bif Nat.beq k id then elHp id c r else (k, x) :: elHp id c r
section
variable {w : World} {S S' : Nat → Prop} {E : Nat → Value} {id : Nat} {c : List Tree}
mutual
theorem elT_ok (hS : ∀ b, S b → S' b) (hu : ∀ β off, E id = .pointer (some ⟨β, 0, none⟩) → PF w S' (.pointer (some ⟨β, off, none⟩)) (c.drop off)) : ∀ {t : T} {v : Value}, RV w S E v t → RV w S' E v (elT id c t)
  | .t x, v, h => by simp only [elT]; exact h.mono hS (fun _ _ => rfl) (fun _ _ => rfl)
  | .el c, v, h => by simp only [elT]; exact h.mono hS (fun _ _ => rfl) (fun _ _ => rfl)
  | .own i, v, h => by simp only [elT]; exact h.mono hS (fun _ _ => rfl) (fun _ _ => rfl)
  | .pe i a b c, v, h => by simp only [elT]; exact h.mono hS (fun _ _ => rfl) (fun _ _ => rfl)
  | .vw i a b c, v, h => by simp only [elT]; exact h.mono hS (fun _ _ => rfl) (fun _ _ => rfl)
  | .fz n c, v, h => by simp only [elT]; exact h.mono hS (fun _ _ => rfl) (fun _ _ => rfl)
  | .any, v, h => by simp only [elT]; exact .any v
  | .ptr i off, v, h => by
    simp only [elT]
    by_cases hi : i = id
    · subst hi
      simp only [Nat.beq_refl, cond_true]
      cases h with | ptr _ _ β hE => exact (hu β off hE).rv
    · simp only [beq_ne hi, cond_false]; exact h.mono hS (fun _ _ => rfl) (fun _ _ => rfl)
  | .agg l, v, h => by
    simp only [elT]
    cases h with | agg vs _ hl hr => have := elL_ok hS hu (l := l) (vs := vs) ⟨hl, hr⟩; exact .agg vs _ this.1 this.2
  | .tup l, v, h => by
    simp only [elT]
    cases h with | tup vs _ hl hr => have := elL_ok hS hu (l := l) (vs := vs) ⟨hl, hr⟩; exact .tup vs _ this.1 this.2
  | .clo f l, v, h => by
    simp only [elT]
    cases h with | clo _ vs _ hl hr => have := elL_ok hS hu (l := l) (vs := vs) ⟨hl, hr⟩; exact .clo f vs _ this.1 this.2
theorem elL_ok (hS : ∀ b, S b → S' b) (hu : ∀ β off, E id = .pointer (some ⟨β, 0, none⟩) → PF w S' (.pointer (some ⟨β, off, none⟩)) (c.drop off)) : ∀ {l : List T} {vs : List Value}, RVL w S E vs l → RVL w S' E vs (elL id c l)
  | [], vs, h => ⟨h.1, fun j _ h2 => by simp [elL] at h2⟩
  | x :: l, vs, h => by
    cases vs with
    | nil => have := h.1; simp at this
    | cons v vs =>
      have h1 := elT_ok hS hu (t := x) (h.2 0 (by simp) (by simp))
      have h2 := elL_ok hS hu (l := l) (vs := vs) ⟨by simpa using h.1, fun j a b => h.2 (j + 1) (by simpa using a) (by simpa using b)⟩
      refine ⟨by simp [elL, h2.1], fun j a b => ?_⟩
      cases j with
      | zero => exact h1
      | succ j => exact h2.2 j (by simpa using a) (by simpa [elL] using b)
end
end
theorem elTm_look (id : Nat) (c : List Tree) : ∀ (l : List (Nat × T)) (k : Nat), look (elTm id c l) k = (look l k).map (elT id c)
  | [], k => rfl
  | (j, x) :: r, k => by
    simp only [elTm, look]
    by_cases hj : j = k
    · subst hj; simp
    · simp [beq_ne hj, elTm_look id c r k]
theorem elHp_look (id : Nat) (c : List Tree) : ∀ (l : List (Nat × Blk)) (k : Nat) (b : Blk), look (elHp id c l) k = some b → k ≠ id ∧ ∃ b0, look l k = some b0 ∧ (match b0 with | .box ts => b = .box (elL id c ts) | x => b = x)
  | [], k, b, h => by simp [elHp, look] at h
  | (j, .box ts) :: r, k, b, h => by
    simp only [elHp] at h
    by_cases hj : j = id
    · subst hj
      simp only [Nat.beq_refl, cond_true] at h
      obtain ⟨h1, b0, h2, h3⟩ := elHp_look j c r k b h
      exact ⟨h1, b0, by simp only [look, beq_ne (Ne.symm h1), cond_false]; exact h2, h3⟩
    · simp only [beq_ne hj, cond_false, look] at h
      by_cases hk : j = k
      · subst hk
        simp only [Nat.beq_refl, cond_true, Option.some.injEq] at h
        exact ⟨hj, .box ts, by simp [look], h.symm⟩
      · simp only [beq_ne hk, cond_false] at h
        obtain ⟨h1, b0, h2, h3⟩ := elHp_look id c r k b h
        exact ⟨h1, b0, by simp only [look, beq_ne hk, cond_false]; exact h2, h3⟩
  | (j, .rows e sz n rs) :: r, k, b, h => by
    simp only [elHp] at h
    by_cases hj : j = id
    · subst hj
      simp only [Nat.beq_refl, cond_true] at h
      obtain ⟨h1, b0, h2, h3⟩ := elHp_look j c r k b h
      exact ⟨h1, b0, by simp only [look, beq_ne (Ne.symm h1), cond_false]; exact h2, h3⟩
    · simp only [beq_ne hj, cond_false, look] at h
      by_cases hk : j = k
      · subst hk
        simp only [Nat.beq_refl, cond_true, Option.some.injEq] at h
        subst h
        exact ⟨hj, .rows e sz n rs, by simp [look], rfl⟩
      · simp only [beq_ne hk, cond_false] at h
        obtain ⟨h1, b0, h2, h3⟩ := elHp_look id c r k b h
        exact ⟨h1, b0, by simp only [look, beq_ne hk, cond_false]; exact h2, h3⟩
  | (j, .mp es) :: r, k, b, h => by
    simp only [elHp] at h
    by_cases hj : j = id
    · subst hj
      simp only [Nat.beq_refl, cond_true] at h
      obtain ⟨h1, b0, h2, h3⟩ := elHp_look j c r k b h
      exact ⟨h1, b0, by simp only [look, beq_ne (Ne.symm h1), cond_false]; exact h2, h3⟩
    · simp only [beq_ne hj, cond_false, look] at h
      by_cases hk : j = k
      · subst hk
        simp only [Nat.beq_refl, cond_true, Option.some.injEq] at h
        subst h
        exact ⟨hj, .mp es, by simp [look], rfl⟩
      · simp only [beq_ne hk, cond_false] at h
        obtain ⟨h1, b0, h2, h3⟩ := elHp_look id c r k b h
        exact ⟨h1, b0, by simp only [look, beq_ne hk, cond_false]; exact h2, h3⟩
  | (j, .rv y e sz n rs) :: r, k, b, h => by
    simp only [elHp] at h
    by_cases hj : j = id
    · subst hj
      simp only [Nat.beq_refl, cond_true] at h
      obtain ⟨h1, b0, h2, h3⟩ := elHp_look j c r k b h
      exact ⟨h1, b0, by simp only [look, beq_ne (Ne.symm h1), cond_false]; exact h2, h3⟩
    · simp only [beq_ne hj, cond_false, look] at h
      by_cases hk : j = k
      · subst hk
        simp only [Nat.beq_refl, cond_true, Option.some.injEq] at h
        subst h
        exact ⟨hj, .rv y e sz n rs, by simp [look], rfl⟩
      · simp only [beq_ne hk, cond_false] at h
        obtain ⟨h1, b0, h2, h3⟩ := elHp_look id c r k b h
        exact ⟨h1, b0, by simp only [look, beq_ne hk, cond_false]; exact h2, h3⟩
theorem Ok.frzBox {w0 : World} {L : Lim} {nt : Nat} {tm : List (Nat × T)} {hp : List (Nat × Blk)} {S : Nat → Prop} {E : Nat → Value} {a : Act} {w : World} (hk : Ok w0 L nt ⟨tm, hp⟩ S E a w) (id : Nat) {ts : List T} {c : List Tree} (hb : look hp id = some (.box ts)) (hc : trees ts = some c) :
    ∃ S', Ok w0 L nt ⟨elTm id c tm, elHp id c hp⟩ S' E a w := by
  let S' : Nat → Prop := fun b => S b ∨ blkOf (E id) = some b
  have hS : ∀ b, S b → S' b := fun _ x => .inl x
  obtain ⟨β, vs, elem, hE, hh, hl, hr, h1⟩ := hk.hp id _ hb
  have hβ : blkOf (E id) = some β := by rw [hE]; rfl
  have htr := trees_ok hc
  have hlen : ts.length = c.length := by have := congrArg List.length htr; simpa using this
  have hu : ∀ β' off, E id = .pointer (some ⟨β', 0, none⟩) → PF w S' (.pointer (some ⟨β', off, none⟩)) (c.drop off) := by
    intro β' off hE'
    rw [hE] at hE'
    cases hE'
    refine ⟨β, off, fun j => vs.getD (off + j) undef, rfl, .inr hβ, fun j hj => ?_, fun j hj => ?_⟩
    · simp only [List.length_drop] at hj
      rw [cell_of_row w β _ _ elem _ hh]
      have : off + j < vs.length := by omega
      simp [this]
    · simp only [List.length_drop] at hj
      have h3 : off + j < vs.length := by omega
      have h4 := nilT_ok (hr (off + j) h3 (by omega))
      have h5 : nilT (ts[off + j]'(by omega)) = T.t (c[off + j]'(by omega)) := by
        have h6 : (ts.map nilT)[off + j]? = (c.map T.t)[off + j]? := by rw [htr]
        rw [List.getElem?_map, List.getElem?_map, List.getElem?_eq_getElem (by omega), List.getElem?_eq_getElem (by omega)] at h6
        simpa using h6
      rw [h5] at h4
      simp only [List.getD_eq_getElem?_getD, List.getElem?_eq_getElem h3, Option.getD_some, List.getElem_drop]
      exact h4.rtree.mono hS (fun _ _ => rfl)
  refine ⟨S', { keep := hk.keep, size := hk.size, defers := hk.defers, pin := hk.pin, stab := fun b hb' => ?_, base := fun b hb' => ?_, tm := fun k t ht => ?_, hp := fun i b hi => ?_, own := fun i b β' hi hβ' => ?_, dist := fun i i' b b' β' q1 q2 hβ1 hβ2 => ?_ }⟩
  · rcases hb' with h2 | h2
    · exact hk.stab b h2
    · exact (hk.own id _ b hb h2).2.1
  · rcases hb' with h2 | h2
    · exact hk.base b h2
    · rcases (hk.own id _ b hb h2).2.2 with h3 | h3
      · exact .inr (.inr h3)
      · exact .inr (.inl h3)
  · simp only at ht
    rw [elTm_look] at ht
    cases hl' : look tm k with
    | none => simp [hl'] at ht
    | some t0 => simp only [hl', Option.map_some, Option.some.injEq] at ht; subst ht; exact elT_ok hS hu (hk.tm k t0 hl')
  · obtain ⟨hne, b0, hb0, hm⟩ := elHp_look _ _ _ _ _ hi
    have hk0 := hk.hp i b0 hb0
    cases b0 with
    | box ts' =>
      simp only at hm
      subst hm
      obtain ⟨β', vs', elem', g1, g2, g3, g4, g5⟩ := hk0
      have := elL_ok hS hu (l := ts') (vs := vs') ⟨g3, g4⟩
      exact ⟨β', vs', elem', g1, g2, this.1, this.2, g5⟩
    | rows e' sz' n' rs' =>
      simp only at hm
      subst hm
      exact hk0.mono hS (fun _ _ => rfl) (fun _ _ => rfl) (fun _ _ => rfl)
    | mp es =>
      simp only at hm
      subst hm
      exact hk0.mono hS (fun _ _ => rfl) (fun _ _ => rfl) (fun _ _ => rfl)
    | rv y e sz n rs =>
      simp only at hm
      subst hm
      exact hk0.mono hS (fun _ _ => rfl) (fun _ _ => rfl) (fun _ _ => rfl)
  · obtain ⟨hne, b0, hb0, _⟩ := elHp_look _ _ _ _ _ hi
    have := hk.own i b0 β' hb0 hβ'
    exact ⟨fun hx => hx.elim this.1 (fun hx => hne (hk.dist i id b0 _ β' hb0 hb hβ' hx)), this.2⟩
  · obtain ⟨_, d, hd, _⟩ := elHp_look _ _ _ _ _ q1
    obtain ⟨_, d', hd', _⟩ := elHp_look _ _ _ _ _ q2
    exact hk.dist i i' d d' β' hd hd' hβ1 hβ2
section
variable {ρ τ : Type} {X : Cx} {ks : List K} {tm tm' : List (Nat × T)} {hp hp' : List (Nat × Blk)} {m : Option ρ} {Q : ρ → Exit → St → Prop}
theorem TieO.frzBox {all : Array Oper} {ops : List Oper} (id : Nat) {ts : List T} {c : List Tree} (hb : look hp id = some (.box ts)) (hc : trees ts = some c) (h : TieO X all ops ks ⟨elTm id c tm, elHp id c hp⟩ m Q) : TieO X all ops ks ⟨tm, hp⟩ m Q :=
  fun r hr a w ⟨S, E, hw⟩ => by
    obtain ⟨S', hk⟩ := hw.frzBox id hb hc
    exact h r hr a w ⟨S', E, hk⟩
theorem TieX.frzBox {e' : Exit} (id : Nat) {ts : List T} {c : List Tree} (hb : look hp id = some (.box ts)) (hc : trees ts = some c) (h : TieX X ks e' ⟨elTm id c tm, elHp id c hp⟩ m Q) : TieX X ks e' ⟨tm, hp⟩ m Q :=
  fun r hr a w ⟨S, E, hw⟩ => by
    obtain ⟨S', hk⟩ := hw.frzBox id hb hc
    exact h r hr a w ⟨S', E, hk⟩
/-- A name for a value, in the midst of operations. -/
theorem TieO.name {all : Array Oper} {ops : List Oper} {σ : St} {v : τ} {k : τ → Option ρ} (σ₁ : τ → St) (hs : Sub (σ₁ v) σ) (h : ∀ t, t = v → TieO X all ops ks (σ₁ t) (k t) Q) : TieO X all ops ks σ ((some v).bind k) Q := TieO.sub hs (h v rfl)
end
end Go.Pv

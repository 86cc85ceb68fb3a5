/- This file joins: The value machine, part Xf: slices.SortFunc, by the kit's contract. The value machine, part Xh: quiet steps of regions that draw their order, taken at once. The value machine, part Xj: slices.Sort and slices.Compact at int, by the kit's contracts. The value machine, part Xl: what grows from nil by zeros; cap and slicing of nil. The value machine, part Xm: math/bits.Len64 and Mul64, by the kit's contracts. The value machine, part Xn: parts of rows of the call's own: copied within, cleared. The value machine, part Xo: regions that draw their order, said shortly. Ties, printed by gen.py: each function of the loaded program computes its model. What the arguments are known to be. Printed by law.py. What the arguments of the rows hold. Printed by law.py. Part Xg: loops by invariants, lists. Plain Lean. Part Xk: slices.SortStableFunc, as it computes: that it sorts, and keeps the order of equals. Plain Lean. (The functions are those that gen2.py prints for an instance, with a type in the element's place.) Plain Lean: what fault's functions compute on states that are right. -/
import Derived.Test.YtjgoihfcmpjimaaTopReadinessD
import Derived.Shelf.SlSortCmp.NoneTotal
import Derived.Deep.Draws
import Derived.Shelf.Sort.Plain
import Derived.Shelf.Slices.In.SortNone
import Derived.Shelf.Slices.CompactI
import Derived.Shelf.Strconv.Itoa0
import Derived.Shelf.Bits.Mul64
import Derived.Scope
import Derived.Test.YtjgoihfcmpjimaaProg
import Derived.KernelRfl
set_option linter.unusedSimpArgs false
set_option linter.unusedVariables false
namespace Go.Pv
open Go.RowKit Go.Sort Go.Shelf Go.Proofs
section
variable {α : Type} [Inhabited α] (enc : α → List Value) (k : Nat) (w : World) (β m : Nat) (d : Array α) (os : Array Obj)
end
/-- What keeps all that was there has only drawn and laid. -/
theorem Keep.grown {w w' : World} (h : Keep (fun _ => False) w w') : ∃ q os, w' = grow (w.drewN q) os := by
  refine ⟨w'.drawn - w.drawn, w'.heap.extract w.heap.size w'.heap.size, ?_⟩
  have hd := h.drawn
  have hz := h.size
  obtain ⟨heap', tape', drawn', os', out'⟩ := w'
  have e1 := h.os; have e2 := h.tape; have e3 := h.output
  simp only at e1 e2 e3 hd hz
  subst e1 e2 e3
  simp only [grow, World.drewN, World.mk.injEq]
  refine ⟨?_, trivial, by omega, trivial, trivial⟩
  apply Array.ext_getElem?
  intro i
  by_cases hi : i < w.heap.size
  · rw [Array.getElem?_append_left hi]; exact h.block i hi (fun x => x)
  · rw [Array.getElem?_append_right (by omega), Array.getElem?_extract]
    split
    · congr 1; omega
    · rw [Array.getElem?_eq_none (by omega)]
end Go.Pv
namespace Go.Pv
open Go.RowKit
section
variable {X : Cx} {ops : Array Oper} {fe fuel : Nat} {le l l' : List Bool} {σ' : St} {o : Oper} {α : Type}
theorem TieA.bin {d ty yt : Nat} {op : BinOp} {k k' : IntKind} {x y : Operand} {u v : Int} {V : T} {tm : List (Nat × T)} {hp : List (Nat × Blk)} (i : Nat) (l' : List Bool) (ho : ops[i]? = some o) (hl : l.set i true = l') (hop : o.op = .binOp op ty x y yt) (hd : o.dst = some d) (hdn : Nat.blt d X.nt = true) (hg : o.guard = none)
    (hs : Region.noSelect ops = true) (hf : Region.free .any ops l.toArray i = true) (hr : (Region.ready .any ops l.toArray).contains i = true)
    (hx : val tm x = some (.t (.v (.int k u)))) (hy : val tm y = some (.t (.v (.int k' v)))) (hk : (sameKind k k' || isShift op) = true) (hb : ((arith op k u v).map fun z => T.t (.v z)) = some V) (h : TieA X ops fe le fuel l' ⟨(d, V) :: tm, hp⟩ σ') :
    TieA X ops fe le (fuel + 1) l ⟨tm, hp⟩ σ' := TieA.take1 i l' ho hl hd hdn hg hs hf hr (fun S E a w hw => by
  have e1 := (hw.val hx).tv
  have e2 := (hw.val hy).tv
  cases ha : arith op k u v with
  | none => simp [ha] at hb
  | some z =>
    simp only [ha, Option.map_some, Option.some.injEq] at hb
    subst hb
    refine ⟨z, fun w' => ?_, .t (.v z)⟩
    obtain ⟨h1, h2⟩ := arith_ok (P := X.P) (w := w') (by simpa using hk) ha
    simp only [execOp, hop, e1, e2, Sem.run_bind, eqGuard_run op ty x y (.int k u) (.int k' v) (by simp) (by simp), Result.andThen_ok, h2, h1, Sem.run_pure]) h
theorem TieA.idx {ty e sz el n s0 : Nat} {x ix : Operand} {ik : IntKind} {j : Int} {z0 : List Value} {te : TI} {d id : Nat} {r : List α} {enc : α → List Tree} {y : α} {tm : List (Nat × T)} {hp : List (Nat × Blk)} (i : Nat) (l' : List Bool) (hy : getI r j = some y) (ho : ops[i]? = some o) (hl : l.set i true = l')
    (hop : o.op = .indexAddr ty x ix) (hd : o.dst = some d) (hdn : Nat.blt d X.nt = true) (hg : o.guard = none)
    (hs : Region.noSelect ops = true) (hf : Region.free .any ops l.toArray i = true) (hr : (Region.ready .any ops l.toArray).contains i = true)
    (hx : val tm x = some (.own id)) (hb : look hp id = some (.rows el sz n (r.map enc))) (hi : val tm ix = some (.t (.v (.int ik j))))
    (hty : look X.tab ty = some ⟨s0, .slice e, z0⟩) (hte : look X.tab e = some te) (hsz : te.size = sz) (h : TieA X ops fe le fuel l' ⟨(d, .pe id j.toNat sz 0) :: tm, hp⟩ σ') :
    TieA X ops fe le (fuel + 1) l ⟨tm, hp⟩ σ' := TieA.take1 i l' ho hl hd hdn hg hs hf hr (fun S E a w hk => by
  obtain ⟨h0, hgl, hlt⟩ := getI_some hy
  have hiv := (hk.val hi).tv
  have hll : j.toNat < r.length := by omega
  have hxv := hk.val hx
  generalize hxe : a.eval x = xv at hxv
  cases hxv with
  | own _ _ hE =>
    obtain ⟨hn, ⟨hE', hr⟩ | ⟨β, cap, vs, _, hE', hh, _⟩⟩ := hk.hp id _ hb
    · simp at hr; subst hr; simp at hll
    · subst hsz
      have hpe := RV.pe (w := w) (S := S) (E := E) id j.toNat te.size 0 β (r.map enc).length cap hE'
      refine ⟨_, fun w' => ?_, hpe⟩
      obtain ⟨dd, hdd, ho2⟩ := (X.htab ty _ hty).run_under w'
      simp only [TD.ok] at ho2
      subst ho2
      have hsw := (X.htab e _ hte).run_size w'
      rw [hE'] at hE
      subst hE
      simp only [execOp, hop, Instr.indexAt, hiv, asIntOf, Sem.run_bind, Sem.run_pure, Result.andThen_ok, hdd, hxe]
      have c1 : 0 ≤ j ∧ j < ((r.map enc).length : Int) := ⟨h0, by simpa using hlt⟩
      simp only [Sem.run_bind, Result.andThen_ok, Sem.run_pure, c1, and_self, if_true, hsw, addr_add, Nat.zero_add, Nat.add_zero]) h
end
end Go.Pv
namespace Go.Pv
open Go.RowKit Go.Sort Go.Shelf Go.Proofs
section
variable (w : World) (β m : Nat) (d : Array Int) (os : Array Obj)
end
end Go.Pv
namespace Go.Pv
open Go.RowKit
/-- Zeros behind nil. -/
theorem run_append_zeros {P : Program} {w : World} (t u ty e : TypeId) (i : TypeInfo) (z : Value) (kk ik : IntKind) (ht : P.underlying t = some (.slice e)) (hu : P.underlying u = some (.int kk)) (hi : P.info? e = some i) (hz : i.zero = some z) (n : Nat) (h0 : 0 < n) (hs0 : 0 < i.size) (hn : n ≤ 1073741824) (hb : n * i.bytes ≤ 140737488355328) :
    (Builtin.append_ #[t, u] ty #[.slice none 0 0, .int ik n]).run P w =
      .ok (.slice (some ⟨w.heap.size, 0, none⟩) n (grownCap w n 0 e)) (w.drew.alloc (.cells (Builtin.zeroCells z.cells n ++ Builtin.zeroCells z.cells (grownCap w n 0 e - n)) e)) := by
  have hn0 : n ≠ 0 := by omega
  have hs1 : i.size ≠ 0 := by omega
  have hw : IntKind.i64.wrap (n : Int) = (n : Int) := w64_of (by omega) (by omega)
  have hneg : ¬ ((n : Int) < 0) := by omega
  have hbi : ¬ ((281474976710656 : Int) < (n : Int) * (i.bytes : Int)) := by
    have : ((n * i.bytes : Nat) : Int) ≤ 140737488355328 := by omega
    rw [Int.natCast_mul] at this
    omega
  have h63' : ¬ (9223372036854775807 < (n : Int)) := by omega
  have h48' : ¬ (281474976710656 < Builtin.nextslicecap n 0 * i.bytes) := by rw [nextslicecap_zero h0]; omega
  simp [Builtin.append_, run_underlying ht, run_underlying hu, sizeOf, typeInfo, zeroValue, hi, hz, Builtin.lenOf, Builtin.firstCells, hn0, hs1, hw, hneg, hbi, h63', h48', asInt, asIntOf, Question.forced, newRow, grownCap]
  intro h
  exact absurd h (Nat.mul_ne_zero hn0 hs1)
section
variable {ρ α : Type} {X : Cx} {ks : List K} {tm tm' : List (Nat × T)} {hp hp' : List (Nat × Blk)} {m : Option ρ} {Q : ρ → Exit → St → Prop} {all : Array Oper} {o : Oper} {rest : List Oper} {w0 : World} {L : Lim} {nt : Nat} {S : Nat → Prop} {E : Nat → Value} {a : Act} {w : World}
theorem Ok.zeros {P : Program} (h : Ok w0 L nt ⟨tm, hp⟩ S E a w) {id t u ty e n : Nat} {kk ik : IntKind} {ti : TI} {c : List Tree} (hbig : Nat.blt id big = true) (hf : freshT id tm = true) (hb : freshB id hp = true) (ht : P.underlying t = some (.slice e)) (hu : P.underlying u = some (.int kk)) (hte : TIok P e ti) (hz : ti.zero.length = ti.size) (hpos : 0 < ti.size)
    (hc : c = ti.zero.map fun v => nilTree (.v v)) (h0 : 0 < n) (hmax : n ≤ 1073741824) :
    ∃ v' w' E', (Builtin.append_ #[t, u] ty #[.slice none 0 0, .int ik n]).run P w = .ok v' w' ∧ E' id = v' ∧ Ok w0 L nt ⟨tm, (id, .rows e ti.size n (List.replicate n c)) :: hp⟩ S E' a w' := by
  obtain ⟨i, d, hi, hs, _, _, ⟨z, hzz, hzc⟩, hby⟩ := hte
  have hcl : c.length = ti.size := by rw [hc, List.length_map, hz]
  have hzs : z.cells.size = i.size := by rw [hs, ← hz, ← hzc]; simp
  have hbytes : n * i.bytes ≤ 140737488355328 := by
    have := Nat.mul_le_mul hmax hby
    omega
  have hr := run_append_zeros (P := P) (w := w) t u ty e i z kk ik ht hu hi hzz n h0 (by omega) hmax hbytes
  have hge := grownCap_ge w n 0 e
  have hcm : grownCap w n 0 e ≤ maxLen := grownCap_le_maxLen w n 0 e (by simp only [maxLen]; omega)
  generalize grownCap w n 0 e = cap at hr hge hcm
  have hget : ∀ k (hk : k < n * i.size) (hk2 : k < (Builtin.zeroCells z.cells n ++ Builtin.zeroCells z.cells (cap - n)).toList.length), (Builtin.zeroCells z.cells n ++ Builtin.zeroCells z.cells (cap - n)).toList[k] = ti.zero[k % ti.size]'(by rw [hz]; exact Nat.mod_lt _ hpos) := by
    intro k hk hk2
    have hm : k % z.cells.size < z.cells.size := Nat.mod_lt _ (by omega)
    have hk3 : k < (Builtin.zeroCells z.cells n).size := by rw [size_zeroCells, hzs]; exact hk
    rw [Array.getElem_toList, Array.getElem_append_left hk3]
    simp only [Builtin.zeroCells, Array.getElem_map, Array.getElem_range]
    rw [getElem!_pos z.cells _ hm]
    have : z.cells[k % z.cells.size] = z.cells.toList[k % z.cells.size]'(by simpa using hm) := by simp
    rw [this]
    simp only [hzc, hzs, hs]
  obtain ⟨E', hE, hok⟩ := h.regrow (w' := w.drew.alloc (.cells (Builtin.zeroCells z.cells n ++ Builtin.zeroCells z.cells (cap - n)) e)) (v := .slice none 0 0) (v' := .slice (some ⟨w.heap.size, 0, none⟩) n cap) (b := .rows e ti.size n (List.replicate n c)) hbig hf hb (fun β hβ => by cases hβ) (fun _ _ β _ hβ => by cases hβ)
    ⟨rfl, rfl, rfl, by simp, fun k hk _ => Below.heap_alloc w.drew _ _ hk, Nat.le_succ _⟩ (fun β hβ => by cases hβ; simp) (fun E' => by
    refine ⟨by simp, .inr ⟨w.heap.size, cap, (Builtin.zeroCells z.cells n ++ Builtin.zeroCells z.cells (cap - n)).toList, hcm, by simp, by rw [Array.toArray_toList]; exact heap_alloc_new w.drew _, ?_, by simpa using hge, ?_, ?_⟩⟩
    · rw [Array.length_toList, Array.size_append, size_zeroCells, size_zeroCells, hzs, ← Nat.add_mul, hs]
      congr 1
      omega
    · intro r hr; rw [(List.mem_replicate.1 hr).2]; exact hcl
    · intro i' j hi' hj hb'
      have hi2 : i' < n := by simpa using hi'
      simp only [List.getElem_replicate] at hj ⊢
      have hj2 : j < ti.size := by rw [← hcl]; exact hj
      have hlt : i' * ti.size + j < n * i.size := by
        have : (i' + 1) * ti.size ≤ n * ti.size := Nat.mul_le_mul_right _ (by omega)
        rw [Nat.succ_mul] at this
        rw [hs]; omega
      have e1 : (Builtin.zeroCells z.cells n ++ Builtin.zeroCells z.cells (cap - n)).toList[i' * ti.size + j] = ti.zero[j]'(by rw [hz]; exact hj2) := by
        rw [hget _ hlt hb']
        have : (i' * ti.size + j) % ti.size = j := by rw [Nat.mul_comm, Nat.mul_add_mod, Nat.mod_eq_of_lt hj2]
        simp only [this]
      rw [e1]
      have e2 : c[j] = nilTree (.v (ti.zero[j]'(by rw [hz]; exact hj2))) := by subst hc; simp
      rw [e2]
      exact nilTree_ok (.v _))
  exact ⟨_, _, E', hr, hE, hok⟩
end
end Go.Pv
namespace Go.Pv
open Go.RowKit Go.Shelf Go.Proofs
section
variable {ρ : Type} {X : Cx} {ks : List K} {tm tmMin : List (Nat × T)} {hp : List (Nat × Blk)} {Q : ρ → Exit → St → Prop} {all : Array Oper} {o : Oper} {rest : List Oper}
theorem TieO.shl {ty yt d : Nat} {x y : Operand} {ik jk : IntKind} {i j : Int} {k : Int → Option ρ} (ho : o.op = .binOp .shl ty x y yt) (hd : o.dst = some d) (hdn : Nat.blt d X.nt = true) (hg : guardT all.toList tm o.guard = some true)
    (hx : val tm x = some (.t (.v (.int ik i)))) (hy : val tm y = some (.t (.v (.int jk j)))) (h : ∀ q, TieO X all rest ks ⟨(d, .t (.v (.int ik q))) :: tm, hp⟩ (k q) Q) :
    TieO X all (o :: rest) ks ⟨tm, hp⟩ ((shlM ik i j).bind k) Q :=
  TieO.one hd hdn hg (fun q => .t (.v (.int ik q))) (fun q S E a w hm hk => by
    unfold shlM at hm
    split at hm
    · cases hm
    · rename_i hj
      cases hm
      refine ⟨_, ?_, .t (.v _)⟩
      simp only [execOp, ho, Sem.run_bind, (hk.val hx).tv, (hk.val hy).tv, eqGuard_run .shl ty x y (.int ik i) (.int jk j) (by simp) (by simp), Result.andThen_ok]
      simp [binOp, Op.shift, hj, bitShl]) (fun q _ => h q)
theorem TieO.shr {ty yt d : Nat} {x y : Operand} {ik jk : IntKind} {i j : Int} {k : Int → Option ρ} (ho : o.op = .binOp .shr ty x y yt) (hd : o.dst = some d) (hdn : Nat.blt d X.nt = true) (hg : guardT all.toList tm o.guard = some true)
    (hx : val tm x = some (.t (.v (.int ik i)))) (hy : val tm y = some (.t (.v (.int jk j)))) (h : ∀ q, TieO X all rest ks ⟨(d, .t (.v (.int ik q))) :: tm, hp⟩ (k q) Q) :
    TieO X all (o :: rest) ks ⟨tm, hp⟩ ((shrM ik i j).bind k) Q :=
  TieO.one hd hdn hg (fun q => .t (.v (.int ik q))) (fun q S E a w hm hk => by
    unfold shrM at hm
    split at hm
    · cases hm
    · rename_i hj
      cases hm
      refine ⟨_, ?_, .t (.v _)⟩
      simp only [execOp, ho, Sem.run_bind, (hk.val hx).tv, (hk.val hy).tv, eqGuard_run .shr ty x y (.int ik i) (.int jk j) (by simp) (by simp), Result.andThen_ok]
      simp [binOp, Op.shift, hj, bitShr]) (fun q _ => h q)
theorem StepQ.op1 {V : T} (hg : guardT all.toList tmMin o.guard = some true)
    (hrun : ∀ tm, more tmMin tm → ∀ (a : Act) w S E, Ok X.w0 X.L X.nt ⟨tm, hp⟩ S E a w → ∃ v, (execOp a.eval o).run X.P w = .ok (.value v) w ∧ RV w S E v V) : StepQ X all o tmMin hp V := by
  intro tm hm a w S E hk K Q' hK
  obtain ⟨v, h1, h2⟩ := hrun tm hm a w S E hk
  rw [guardT_ok hk (guardT_more hm hg), if_pos rfl]
  unfold Oper.wp
  rw [h1]
  exact hK _ _ _ _ hk h2
theorem StepQ.rem {ty yt : Nat} {x y : Operand} {ik : IntKind} {i j q : Int} (hq : remM i j = some q) (ho : o.op = .binOp .rem ty x y yt) (hg : guardT all.toList tmMin o.guard = some true)
    (hx : val tmMin x = some (.t (.v (.int ik i)))) (hy : val tmMin y = some (.t (.v (.int ik j)))) : StepQ X all o tmMin hp (.t (.v (.int ik q))) :=
  .op1 hg fun tm hm a w S E hk => ⟨.int ik q, by
    unfold remM at hq
    split at hq
    · cases hq
    · rename_i hj
      cases hq
      simp only [execOp, ho, Sem.run_bind, (hk.val (val_more hm hx)).tv, (hk.val (val_more hm hy)).tv, eqGuard_run .rem ty x y (.int ik i) (.int ik j) (by simp) (by simp), Result.andThen_ok]
      simp [binOp, Op.intDiv, hj], .t (.v _)⟩
theorem StepQ.shl {ty yt : Nat} {x y : Operand} {ik jk : IntKind} {i j q : Int} (hq : shlM ik i j = some q) (ho : o.op = .binOp .shl ty x y yt) (hg : guardT all.toList tmMin o.guard = some true)
    (hx : val tmMin x = some (.t (.v (.int ik i)))) (hy : val tmMin y = some (.t (.v (.int jk j)))) : StepQ X all o tmMin hp (.t (.v (.int ik q))) :=
  .op1 hg fun tm hm a w S E hk => ⟨.int ik q, by
    unfold shlM at hq
    split at hq
    · cases hq
    · rename_i hj
      cases hq
      simp only [execOp, ho, Sem.run_bind, (hk.val (val_more hm hx)).tv, (hk.val (val_more hm hy)).tv, eqGuard_run .shl ty x y (.int ik i) (.int jk j) (by simp) (by simp), Result.andThen_ok]
      simp [binOp, Op.shift, hj, bitShl], .t (.v _)⟩
theorem StepQ.shr {ty yt : Nat} {x y : Operand} {ik jk : IntKind} {i j q : Int} (hq : shrM ik i j = some q) (ho : o.op = .binOp .shr ty x y yt) (hg : guardT all.toList tmMin o.guard = some true)
    (hx : val tmMin x = some (.t (.v (.int ik i)))) (hy : val tmMin y = some (.t (.v (.int jk j)))) : StepQ X all o tmMin hp (.t (.v (.int ik q))) :=
  .op1 hg fun tm hm a w S E hk => ⟨.int ik q, by
    unfold shrM at hq
    split at hq
    · cases hq
    · rename_i hj
      cases hq
      simp only [execOp, ho, Sem.run_bind, (hk.val (val_more hm hx)).tv, (hk.val (val_more hm hy)).tv, eqGuard_run .shr ty x y (.int ik i) (.int jk j) (by simp) (by simp), Result.andThen_ok]
      simp [binOp, Op.shift, hj, bitShr], .t (.v _)⟩
end
end Go.Pv
namespace Go.Pv
open Go.RowKit
section
variable {P : Program} {w0 : World} {L : Lim} {nt : Nat} {tm : List (Nat × T)} {hp : List (Nat × Blk)} {S : Nat → Prop} {E : Nat → Value} {a : Act} {w : World}
end
section
variable {ρ α : Type} {X : Cx} {ks : List K} {tm tmMin : List (Nat × T)} {hp : List (Nat × Blk)} {m : Option ρ} {Q : ρ → Exit → St → Prop} {all : Array Oper} {o : Oper} {rest : List Oper}
end
section
variable {X : Cx} {ops : Array Oper} {fe fuel : Nat} {le l l' : List Bool} {σ' : St} {o : Oper}
theorem TieA.nilP {d id off : Nat} {x : Operand} {tm : List (Nat × T)} {hp : List (Nat × Blk)} (i : Nat) (l' : List Bool) (ho : ops[i]? = some o) (hl : l.set i true = l') (hop : o.op = .nilCheck x) (hd : o.dst = some d) (hdn : Nat.blt d X.nt = true) (hg : o.guard = none)
    (hs : Region.noSelect ops = true) (hf : Region.free .any ops l.toArray i = true) (hr : (Region.ready .any ops l.toArray).contains i = true) (hx : val tm x = some (.ptr id off)) (h : TieA X ops fe le fuel l' ⟨(d, .ptr id off) :: tm, hp⟩ σ') :
    TieA X ops fe le (fuel + 1) l ⟨tm, hp⟩ σ' := TieA.take1 i l' ho hl hd hdn hg hs hf hr (fun S E a w hk => by
  obtain ⟨β, hpv, hE⟩ := (hk.val hx).ptr_inv
  exact ⟨_, fun w' => by simp [execOp, hop, hpv], .ptr id _ β hE⟩) h
end
section
variable {ρ : Type} {X : Cx} {ks : List K} {σ : St} {m : Option ρ} {Q : ρ → Exit → St → Prop}
end
end Go.Pv
namespace Go.Pv
open Go.RowKit
/-- The bits of a number, lowest first. -/
def bm : Nat → Nat → List Bool
  | 0, _ => []
  | n + 1, k => Nat.beq (k % 2) 1 :: bm n (k / 2)
/-- Rows that hold the trees of a list. -/
abbrev Blk.rs {α : Type} (e sz : Nat) (l : List α) (enc : α → List Tree) : Blk := .rows e sz l.length (l.map enc)
section
variable {X : Cx} {ops : Array Oper} {fe fuel : Nat} {le l : List Bool} {σ σ₁ σ₂ σ' : St} {o : Oper}
theorem AllA.consE {i : Nat} {rs : List Nat} (l' : List Bool) (ho : ops[i]? = some o) (hl : l.set i true = l') (h₁ : TieO X ops [o] [] σ (some ()) (fun _ e σ'' => e = .normal ∧ σ'' = σ₁)) (h₂ : TieA X ops fe le fuel l' σ₁ σ') (h₃ : AllA X ops fe le fuel l σ σ' rs) : AllA X ops fe le fuel l σ σ' (i :: rs) := fun j hj Q hp hQ a w hw => by
  rcases List.mem_cons.1 hj with rfl | hj
  · have h := h₁ () rfl a w hw
    unfold wpOp
    simp only [ho]
    have next : ∀ a w, wpList X.P ops (after X.P [] (X.post fun e σ'' => e = .normal ∧ σ'' = σ₁)) [] a w → wpAny X.P .any ops Q fuel (l.toArray.setIfInBounds j true) a w := fun a w ⟨σ'', hs, _, e⟩ => by
      rw [List.setIfInBounds_toArray, hl]
      subst e; exact h₂ Q hp hQ a w hs
    unfold wpList at h
    split at h
    · rename_i hg
      rw [if_pos hg]
      rcases h with h | ⟨h1, h2⟩
      · refine .inl ?_
        revert h
        unfold Oper.wp
        generalize (execOp a.eval o).run X.P w = r
        intro h
        cases r with
        | ok n w' =>
          cases n <;> simp only [Oper.upon] at h ⊢
          all_goals first
            | exact next _ _ h
            | exact Calls.mono h (fun e w'' he => by cases e <;> first | exact next _ _ he | (obtain ⟨_, _, _, _, he, _⟩ := he; cases he) | (obtain ⟨_, _, he, _⟩ := he; cases he))
            | exact Rows.mono h (fun _ _ he => next _ _ he)
            | (obtain ⟨_, _, he, _⟩ := h; cases he)
            | exact h
        | halt x w' => cases x <;> simp only [Oper.upon] at h ⊢ <;> first | exact h | (obtain ⟨_, _, he, _⟩ := h; cases he)
      · obtain ⟨_, _, _, _, he, _⟩ := h2; cases he
    · rename_i hg
      rw [if_neg hg]
      exact next _ _ h
  · exact h₃ j hj Q hp hQ a w hw
theorem AllA.run {i : Nat} {rs : List Nat} (l' : List Bool) (ho : ops[i]? = some o) (hl : l.set i true = l') (he : runOps X.tab X.nt ops.toList 1 [o] σ = ([], σ₁)) (h₂ : TieA X ops fe le fuel l' σ₁ σ') (h₃ : AllA X ops fe le fuel l σ σ' rs) : AllA X ops fe le fuel l σ σ' (i :: rs) :=
  AllA.consE l' ho hl (TieO.run 1 he (.nil (.leaf ⟨rfl, rfl⟩))) h₂ h₃
theorem AllA.runTo {i : Nat} {rs : List Nat} (l' : List Bool) (ho : ops[i]? = some o) (hl : l.set i true = l') (he : runOps X.tab X.nt ops.toList 1 [o] σ = ([], σ₂)) (hs : Sub σ₁ σ₂) (h₂ : TieA X ops fe le fuel l' σ₁ σ') (h₃ : AllA X ops fe le fuel l σ σ' rs) : AllA X ops fe le fuel l σ σ' (i :: rs) :=
  AllA.cons l' ho hl (TieO.run 1 he (.nil (.leaf ⟨rfl, hs⟩))) h₂ h₃
/-- An operation that may be taken at once. -/
def okA (nt : Nat) (ops : Array Oper) (l : List Bool) (i d : Nat) (o : Oper) : Bool := Nat.blt d nt && o.guard.isNone && Region.noSelect ops && Region.free .any ops l.toArray i && (Region.ready .any ops l.toArray).contains i
theorem okA_of {nt i d : Nat} (h : okA nt ops l i d o = true) : Nat.blt d nt = true ∧ o.guard = none ∧ Region.noSelect ops = true ∧ Region.free .any ops l.toArray i = true ∧ (Region.ready .any ops l.toArray).contains i = true := by
  unfold okA at h
  simp only [Bool.and_eq_true, Option.isNone_iff_eq_none] at h
  exact ⟨h.1.1.1.1, h.1.1.1.2, h.1.1.2, h.1.2, h.2⟩
theorem TieA.mv {d : Nat} {x : Operand} {t : T} {tm : List (Nat × T)} {hp : List (Nat × Blk)} (i : Nat) (ho : ops[i]? = some o) (hop : o.op = .move x ∨ o.op = .assign x) (hd : o.dst = some d) (hb : okA X.nt ops l i d o = true) (hx : val tm x = some t)
    (h : TieA X ops fe le fuel (l.set i true) ⟨(d, t) :: tm, hp⟩ σ') : TieA X ops fe le (fuel + 1) l ⟨tm, hp⟩ σ' :=
  have k := okA_of hb
  TieA.move i _ ho rfl hop hd k.1 k.2.1 k.2.2.1 k.2.2.2.1 k.2.2.2.2 hx h
theorem TieA.fP {d s f sz p n id off : Nat} {fs : List (Nat × Nat)} {z : List Value} {x : Operand} {tm : List (Nat × T)} {hp : List (Nat × Blk)} (i : Nat) (ho : ops[i]? = some o) (hop : o.op = .fieldAddr s x f) (hd : o.dst = some d) (hb : okA X.nt ops l i d o = true)
    (hx : val tm x = some (.ptr id off)) (hti : look X.tab s = some ⟨sz, .struct fs, z⟩) (hfs : fs[f]? = some (p, .succ n)) (h : TieA X ops fe le fuel (l.set i true) ⟨(d, .ptr id (off + p)) :: tm, hp⟩ σ') : TieA X ops fe le (fuel + 1) l ⟨tm, hp⟩ σ' :=
  have k := okA_of hb
  TieA.fieldP i _ ho rfl hop hd k.1 k.2.1 k.2.2.1 k.2.2.2.1 k.2.2.2.2 hx hti hfs h
theorem TieA.fE {d s f sz p n : Nat} {cells : List Tree} {fs : List (Nat × Nat)} {z : List Value} {x : Operand} {tm : List (Nat × T)} {hp : List (Nat × Blk)} (i : Nat) (ho : ops[i]? = some o) (hop : o.op = .fieldAddr s x f) (hd : o.dst = some d) (hb : okA X.nt ops l i d o = true)
    (hx : val tm x = some (.el cells)) (hti : look X.tab s = some ⟨sz, .struct fs, z⟩) (hfs : fs[f]? = some (p, .succ n)) (h : TieA X ops fe le fuel (l.set i true) ⟨(d, .el (cells.drop p)) :: tm, hp⟩ σ') : TieA X ops fe le (fuel + 1) l ⟨tm, hp⟩ σ' :=
  have k := okA_of hb
  TieA.fieldE i _ ho rfl hop hd k.1 k.2.1 k.2.2.1 k.2.2.2.1 k.2.2.2.2 hx hti hfs h
end
end Go.Pv
namespace Go.Proofs.Ytjgoihfcmpjimaa
open Go Go.Pv Go.Proofs
abbrev u1_0 (s : SReady) (x : Bool) : SReady := ⟨x, s.Ran, s.Numerator, s.Denominator⟩
abbrev u1_1 (s : SReady) (x : Bool) : SReady := ⟨s.Done, x, s.Numerator, s.Denominator⟩
abbrev u2_0 (s : SFault) (x : Int) : SFault := ⟨x, s.Count, s.Cycles, s.Clean, s.Occurrences, s.Frame, s.Last⟩
abbrev u2_1 (s : SFault) (x : Int) : SFault := ⟨s.Status, x, s.Cycles, s.Clean, s.Occurrences, s.Frame, s.Last⟩
abbrev u2_2 (s : SFault) (x : Int) : SFault := ⟨s.Status, s.Count, x, s.Clean, s.Occurrences, s.Frame, s.Last⟩
abbrev u2_3 (s : SFault) (x : Int) : SFault := ⟨s.Status, s.Count, s.Cycles, x, s.Occurrences, s.Frame, s.Last⟩
abbrev u2_4 (s : SFault) (x : Int) : SFault := ⟨s.Status, s.Count, s.Cycles, s.Clean, x, s.Frame, s.Last⟩
abbrev u2_5 (s : SFault) (x : List Int) : SFault := ⟨s.Status, s.Count, s.Cycles, s.Clean, s.Occurrences, x, s.Last⟩
abbrev u2_6 (s : SFault) (x : Int) : SFault := ⟨s.Status, s.Count, s.Cycles, s.Clean, s.Occurrences, s.Frame, x⟩
theorem mixed : Try.prog.follows .mixedOrders = true := by kernel_rfl
def tab : Tab := [(3, ⟨1, .int .i64, [.int .i64 0]⟩),
  (4, ⟨1, .bool, [.bool false]⟩),
  (5, ⟨1, .int .u8, [.int .u8 0]⟩),
  (22, ⟨1, .slice 39, [.slice none 0 0]⟩),
  (23, ⟨1, .slice 34, [.slice none 0 0]⟩),
  (24, ⟨1, .int .i64, [.int .i64 0]⟩),
  (27, ⟨1, .slice 43, [.slice none 0 0]⟩),
  (28, ⟨1, .slice 41, [.slice none 0 0]⟩),
  (30, ⟨4, .struct [(0, 1), (1, 1), (2, 1), (3, 1)], [.slice none 0 0, .slice none 0 0, .int .i64 0, .bool false]⟩),
  (33, ⟨1, .slice 3, [.slice none 0 0]⟩),
  (34, ⟨1, .slice 5, [.slice none 0 0]⟩),
  (39, ⟨8, .struct [(0, 1), (1, 1), (2, 1), (3, 1), (4, 1), (5, 1), (6, 1), (7, 1)], [.int .i64 0, .int .i64 0, .int .i64 0, .int .i64 0, .int .i64 0, .int .i64 0, .bool false, .int .i64 0]⟩),
  (41, ⟨7, .struct [(0, 1), (1, 1), (2, 1), (3, 1), (4, 1), (5, 1), (6, 1)], [.int .i64 0, .int .i64 0, .int .i64 0, .int .i64 0, .int .i64 0, .slice none 0 0, .int .i64 0]⟩),
  (43, ⟨4, .struct [(0, 1), (1, 1), (2, 1), (3, 1)], [.bool false, .bool false, .int .i64 0, .int .i64 0]⟩)]
theorem ti3 : TIok Try.prog 3 ⟨1, .int .i64, [.int .i64 0]⟩ := ⟨Try.t3, _, by kernel_rfl, rfl, Try.underlying3, rfl, ⟨_, rfl, rfl⟩, Nat.le_of_ble_eq_true rfl⟩
theorem ti4 : TIok Try.prog 4 ⟨1, .bool, [.bool false]⟩ := ⟨Try.t4, _, by kernel_rfl, rfl, Try.underlying4, rfl, ⟨_, rfl, rfl⟩, Nat.le_of_ble_eq_true rfl⟩
theorem ti5 : TIok Try.prog 5 ⟨1, .int .u8, [.int .u8 0]⟩ := ⟨Try.t5, _, by kernel_rfl, rfl, Try.underlying5, rfl, ⟨_, rfl, rfl⟩, Nat.le_of_ble_eq_true rfl⟩
theorem ti22 : TIok Try.prog 22 ⟨1, .slice 39, [.slice none 0 0]⟩ := ⟨Try.t22, _, by kernel_rfl, rfl, Try.underlying22, rfl, ⟨_, rfl, rfl⟩, Nat.le_of_ble_eq_true rfl⟩
theorem ti23 : TIok Try.prog 23 ⟨1, .slice 34, [.slice none 0 0]⟩ := ⟨Try.t23, _, by kernel_rfl, rfl, Try.underlying23, rfl, ⟨_, rfl, rfl⟩, Nat.le_of_ble_eq_true rfl⟩
theorem ti24 : TIok Try.prog 24 ⟨1, .int .i64, [.int .i64 0]⟩ := ⟨Try.t24, _, by kernel_rfl, rfl, Try.underlying24, rfl, ⟨_, rfl, rfl⟩, Nat.le_of_ble_eq_true rfl⟩
theorem ti27 : TIok Try.prog 27 ⟨1, .slice 43, [.slice none 0 0]⟩ := ⟨Try.t27, _, by kernel_rfl, rfl, Try.underlying27, rfl, ⟨_, rfl, rfl⟩, Nat.le_of_ble_eq_true rfl⟩
theorem ti28 : TIok Try.prog 28 ⟨1, .slice 41, [.slice none 0 0]⟩ := ⟨Try.t28, _, by kernel_rfl, rfl, Try.underlying28, rfl, ⟨_, rfl, rfl⟩, Nat.le_of_ble_eq_true rfl⟩
theorem ti30 : TIok Try.prog 30 ⟨4, .struct [(0, 1), (1, 1), (2, 1), (3, 1)], [.slice none 0 0, .slice none 0 0, .int .i64 0, .bool false]⟩ := by
  refine ⟨Try.t30, _, by kernel_rfl, rfl, Try.underlying30, ⟨_, rfl, rfl, fun f o n h => ?_⟩, ⟨_, rfl, rfl⟩, Nat.le_of_ble_eq_true rfl⟩
  match f, h with
  | 0, h => cases h; exact ⟨_, Try.t22, rfl, rfl, by kernel_rfl, rfl⟩
  | 1, h => cases h; exact ⟨_, Try.t28, rfl, rfl, by kernel_rfl, rfl⟩
  | 2, h => cases h; exact ⟨_, Try.t3, rfl, rfl, by kernel_rfl, rfl⟩
  | 3, h => cases h; exact ⟨_, Try.t4, rfl, rfl, by kernel_rfl, rfl⟩
  | _ + 4, h => simp at h
theorem ti33 : TIok Try.prog 33 ⟨1, .slice 3, [.slice none 0 0]⟩ := ⟨Try.t33, _, by kernel_rfl, rfl, Try.underlying33, rfl, ⟨_, rfl, rfl⟩, Nat.le_of_ble_eq_true rfl⟩
theorem ti34 : TIok Try.prog 34 ⟨1, .slice 5, [.slice none 0 0]⟩ := ⟨Try.t34, _, by kernel_rfl, rfl, Try.underlying34, rfl, ⟨_, rfl, rfl⟩, Nat.le_of_ble_eq_true rfl⟩
theorem ti39 : TIok Try.prog 39 ⟨8, .struct [(0, 1), (1, 1), (2, 1), (3, 1), (4, 1), (5, 1), (6, 1), (7, 1)], [.int .i64 0, .int .i64 0, .int .i64 0, .int .i64 0, .int .i64 0, .int .i64 0, .bool false, .int .i64 0]⟩ := by
  refine ⟨Try.t39, _, by kernel_rfl, rfl, Try.underlying39, ⟨_, rfl, rfl, fun f o n h => ?_⟩, ⟨_, rfl, rfl⟩, Nat.le_of_ble_eq_true rfl⟩
  match f, h with
  | 0, h => cases h; exact ⟨_, Try.t3, rfl, rfl, by kernel_rfl, rfl⟩
  | 1, h => cases h; exact ⟨_, Try.t3, rfl, rfl, by kernel_rfl, rfl⟩
  | 2, h => cases h; exact ⟨_, Try.t3, rfl, rfl, by kernel_rfl, rfl⟩
  | 3, h => cases h; exact ⟨_, Try.t3, rfl, rfl, by kernel_rfl, rfl⟩
  | 4, h => cases h; exact ⟨_, Try.t3, rfl, rfl, by kernel_rfl, rfl⟩
  | 5, h => cases h; exact ⟨_, Try.t3, rfl, rfl, by kernel_rfl, rfl⟩
  | 6, h => cases h; exact ⟨_, Try.t4, rfl, rfl, by kernel_rfl, rfl⟩
  | 7, h => cases h; exact ⟨_, Try.t3, rfl, rfl, by kernel_rfl, rfl⟩
  | _ + 8, h => simp at h
theorem ti41 : TIok Try.prog 41 ⟨7, .struct [(0, 1), (1, 1), (2, 1), (3, 1), (4, 1), (5, 1), (6, 1)], [.int .i64 0, .int .i64 0, .int .i64 0, .int .i64 0, .int .i64 0, .slice none 0 0, .int .i64 0]⟩ := by
  refine ⟨Try.t41, _, by kernel_rfl, rfl, Try.underlying41, ⟨_, rfl, rfl, fun f o n h => ?_⟩, ⟨_, rfl, rfl⟩, Nat.le_of_ble_eq_true rfl⟩
  match f, h with
  | 0, h => cases h; exact ⟨_, Try.t3, rfl, rfl, by kernel_rfl, rfl⟩
  | 1, h => cases h; exact ⟨_, Try.t3, rfl, rfl, by kernel_rfl, rfl⟩
  | 2, h => cases h; exact ⟨_, Try.t3, rfl, rfl, by kernel_rfl, rfl⟩
  | 3, h => cases h; exact ⟨_, Try.t3, rfl, rfl, by kernel_rfl, rfl⟩
  | 4, h => cases h; exact ⟨_, Try.t3, rfl, rfl, by kernel_rfl, rfl⟩
  | 5, h => cases h; exact ⟨_, Try.t33, rfl, rfl, by kernel_rfl, rfl⟩
  | 6, h => cases h; exact ⟨_, Try.t3, rfl, rfl, by kernel_rfl, rfl⟩
  | _ + 7, h => simp at h
theorem ti43 : TIok Try.prog 43 ⟨4, .struct [(0, 1), (1, 1), (2, 1), (3, 1)], [.bool false, .bool false, .int .i64 0, .int .i64 0]⟩ := by
  refine ⟨Try.t43, _, by kernel_rfl, rfl, Try.underlying43, ⟨_, rfl, rfl, fun f o n h => ?_⟩, ⟨_, rfl, rfl⟩, Nat.le_of_ble_eq_true rfl⟩
  match f, h with
  | 0, h => cases h; exact ⟨_, Try.t4, rfl, rfl, by kernel_rfl, rfl⟩
  | 1, h => cases h; exact ⟨_, Try.t4, rfl, rfl, by kernel_rfl, rfl⟩
  | 2, h => cases h; exact ⟨_, Try.t3, rfl, rfl, by kernel_rfl, rfl⟩
  | 3, h => cases h; exact ⟨_, Try.t3, rfl, rfl, by kernel_rfl, rfl⟩
  | _ + 4, h => simp at h
theorem htab : TabOk Try.prog tab := by
  intro t ti h
  unfold tab at h
  refine tab_step h ti3 fun h => ?_
  refine tab_step h ti4 fun h => ?_
  refine tab_step h ti5 fun h => ?_
  refine tab_step h ti22 fun h => ?_
  refine tab_step h ti23 fun h => ?_
  refine tab_step h ti24 fun h => ?_
  refine tab_step h ti27 fun h => ?_
  refine tab_step h ti28 fun h => ?_
  refine tab_step h ti30 fun h => ?_
  refine tab_step h ti33 fun h => ?_
  refine tab_step h ti34 fun h => ?_
  refine tab_step h ti39 fun h => ?_
  refine tab_step h ti41 fun h => ?_
  refine tab_step h ti43 fun h => ?_
  cases h
abbrev x12_0 (r2 : SReady) : List T := [.t (tB r2.Done), .t (tB r2.Ran), .t (tI r2.Numerator), .t (tI r2.Denominator)]
set_option maxRecDepth 100000 in
theorem tie_readiness_Valid (r2 : SReady) : TieF Try.prog 12 [A_SReady r2] (readiness_Valid r2) (fun r => .t (tB r)) := by
  refine TieF.intro htab 30 [.tmp 2] Try.call12 Try.func12 rfl rfl rfl (Nat.le_of_ble_eq_true rfl) fun w0 L => ?_
  refine TieS.seq (.region (.run 2 rfl (.nil (.seq ?_))))
  refine TieS.region (.run 4 rfl (.selAnd (v := decide (r2.Numerator ≤ 65535)) 4 6 (fun b => ⟨[(1, .ptr 1 0), (10, .t (tB b))], [(1, .box (x12_0 r2))]⟩) rfl ?_ ?_ ?_))
  · exact TieO.run 4 rfl (.nil (.leaf ⟨rfl, .of rfl rfl⟩))
  · exact TieO.run 4 rfl (.nil (.leaf ⟨rfl, .of rfl rfl⟩))
  refine TieO.run 1 rfl (.selAnd (v := decide (r2.Denominator ≥ 0)) 4 11 (fun b => ⟨[(1, .ptr 1 0), (15, .t (tB b))], [(1, .box (x12_0 r2))]⟩) rfl ?_ ?_ ?_)
  · exact TieO.run 4 rfl (.nil (.leaf ⟨rfl, .of rfl rfl⟩))
  · exact TieO.run 4 rfl (.nil (.leaf ⟨rfl, .of rfl rfl⟩))
  refine TieO.run 1 rfl (.selAnd (v := decide (r2.Denominator ≤ 65535)) 4 16 (fun b => ⟨[(1, .ptr 1 0), (20, .t (tB b))], [(1, .box (x12_0 r2))]⟩) rfl ?_ ?_ ?_)
  · exact TieO.run 4 rfl (.nil (.leaf ⟨rfl, .of rfl rfl⟩))
  · exact TieO.run 4 rfl (.nil (.leaf ⟨rfl, .of rfl rfl⟩))
  refine TieO.run 1 rfl (.bind 8 (fun b2 => ⟨[(29, .t (tB b2))], []⟩) (TieO.split 21 rfl ?_ ?_) fun b2 _ => ?_)
  · refine TieO.run 3 rfl (.selOr (v := (!r2.Ran)) 4 24 (fun b => ⟨[(21, .t (tB true)), (28, .t (tB b))], []⟩) rfl ?_ ?_ ?_)
    · exact TieO.run 4 rfl (.nil (.leaf ⟨rfl, .of rfl rfl⟩))
    · exact TieO.run 4 rfl (.nil (.leaf ⟨rfl, .of rfl rfl⟩))
    exact TieO.run 1 rfl (.nil (.leaf ⟨rfl, .of rfl rfl⟩))
  · exact TieO.run 8 rfl (.nil (.leaf ⟨rfl, .of rfl rfl⟩))
  exact TieO.run 1 rfl (.nil (.ret ⟨.inl rfl, rfl⟩))
set_option maxRecDepth 100000 in
theorem tie_readiness_Code (l : List SReady) : TieF Try.prog 4 [.t (tS enc_SReady l)] (readiness_Code l) (fun r => .tup [.t (tI r.1), .t (tI r.2)]) := by
  refine TieF.intro htab 29 [.tmp 2, .tmp 3] Try.call4 Try.func4 rfl rfl rfl (Nat.le_of_ble_eq_true rfl) fun w0 L => ?_
  refine TieS.seq (.region (.run 2 rfl (.nil (.seq ?_))))
  refine TieS.seq (.region (.run 3 rfl (.nil (.cond rfl ?_ ?_))))
  · exact TieS.seq (.region (.run 2 rfl (.nil (.ret ⟨.inl rfl, rfl⟩))))
  · refine TieS.skip (.seq (.region (.run 1 rfl (.nil ?_))))
    refine TieS.seq (.seq (.region (.run 3 rfl (.nil ?_))))
    refine TieS.block (.loop (fun p => ⟨[(4, .t (tI p.2)), (10, .t (tS enc_SReady l)), (11, .t (tI (l.length : Int))), (12, .t (tI p.1))], []⟩) (fun b e σ' => match b with | .inl t => e = .exit 0 ∧ Sub ⟨[(4, .t (tI t))], []⟩ σ' | .inr t => e = .ret ∧ retT tab σ' [.tmp 2, .tmp 3] = some (((fun r => .tup [.t (tI r.1), .t (tI r.2)]) : (Int × Int) → T) t)) (.of rfl rfl) ?_ ?_)
    · rintro ⟨i, code⟩
      refine TieS.seq (.region (.run 1 rfl (.nil (.seq ?_))))
      refine TieS.cond rfl ?_ ?_
      · refine TieS.skip (.seq (TieX.sub (σ' := ⟨[(4, .t (tI code)), (10, .t (tS enc_SReady l)), (11, .t (tI (l.length : Int))), (12, .t (tI i))], []⟩) (.of rfl rfl) (TieS.bind (Q₁ := fun f e σ' => match f with | .next t => e = .normal ∧ Sub ⟨[(4, .t (tI t)), (10, .t (tS enc_SReady l)), (11, .t (tI (l.length : Int))), (12, .t (tI i))], []⟩ σ' | .brk t => e = .exit 0 ∧ Sub ⟨[(4, .t (tI t))], []⟩ σ' | .ret t => e = .ret ∧ retT tab σ' [.tmp 2, .tmp 3] = some (((fun r => .tup [.t (tI r.1), .t (tI r.2)]) : (Int × Int) → T) t)) ?_ ?_)))
        · refine TieS.block (.seq (.region (.run 1 rfl (.index rfl rfl rfl rfl rfl rfl rfl rfl (fun _ => rfl) fun x hx => ?_))))
          refine TieO.run 4 rfl (.nil (.seq (.seq (.region ?_))))
          refine TieO.run 1 rfl (.call _ rfl rfl rfl (tie_readiness_Valid x) (fun _ => rfl) fun v => .run 1 rfl (.nil (.cond rfl ?_ ?_)))
          · exact TieS.seq (.region (.run 2 rfl (.nil (.ret ⟨rfl, rfl⟩))))
          · refine TieS.skip (.seq (.region (.run 3 rfl (.nil ?_))))
            refine TieS.cond rfl ?_ ?_
            · refine TieS.region (.run 2 rfl (.shl rfl rfl rfl rfl rfl rfl fun q => .run 2 rfl (.nil ?_)))
              exact TieS.endb (.leaf ⟨rfl, .of rfl rfl⟩)
            · exact TieS.skip (.endb (.leaf ⟨rfl, .of rfl rfl⟩))
        rintro (t | t | t) e σ' _ hq
        · obtain ⟨rfl, hs⟩ := hq
          exact TieX.sub hs (TieS.region (.run 2 rfl (.nil (.leaf ⟨rfl, .of rfl rfl⟩))))
        · obtain ⟨rfl, hs⟩ := hq
          exact TieX.exitOut rfl ⟨(fun h => by cases h), rfl, hs⟩
        · obtain ⟨rfl, hs⟩ := hq
          exact TieX.ret ⟨(fun h => by cases h), rfl, hs⟩
      · exact TieS.exitOut rfl ⟨(fun h => by cases h), rfl, .of rfl rfl⟩
    rintro (code2 | r2) e σ' _ hq
    · obtain ⟨rfl, hs⟩ := hq
      refine TieX.exit rfl (TieX.sub hs ?_)
      exact TieS.seq (.region (.run 3 rfl (.nil (.ret ⟨.inl rfl, rfl⟩))))
    · obtain ⟨rfl, hs⟩ := hq
      exact TieX.ret ⟨.inl rfl, hs⟩
set_option maxRecDepth 100000 in
theorem tie_slices_IndexFunc_sConfig (s : List SConfig) (n2 : Nat) (cs : List (List Tree)) (f2 : SConfig → Option Bool) (h2 : ∀ x0, TieF Try.prog n2 ([A_SConfig x0] ++ cs.map T.el) (f2 x0) (fun r => .t (tB r))) : TieF Try.prog 23 [.t (tS enc_SConfig s), .fz n2 cs] (slices_IndexFunc_sConfig s f2) (fun r => .t (tI r)) := by
  refine TieF.intro htab 19 [.tmp 4] Try.call23 Try.func23 rfl rfl rfl (Nat.le_of_ble_eq_true rfl) fun w0 L => ?_
  refine TieS.seq (.region (.run 1 rfl (.nil (.seq ?_))))
  refine TieS.seq (.region (.run 3 rfl (.nil (.block ?_))))
  refine TieS.loop (fun p => ⟨[(0, .t (tS enc_SConfig s)), (1, .fz n2 cs), (7, .t (tI (s.length : Int))), (8, .t (tI p.1))], []⟩) (fun b e σ' => match b with | .inl t => e = .exit 0 ∧ Sub ⟨[], []⟩ σ' | .inr t => e = .ret ∧ retT tab σ' [.tmp 4] = some (((fun r => .t (tI r)) : Int → T) t)) (.of rfl rfl) ?_ ?_
  · rintro ⟨i, s2⟩
    refine TieS.seq (.region (.run 1 rfl (.nil (.seq ?_))))
    refine TieS.cond rfl ?_ ?_
    · refine TieS.skip (.seq (TieX.sub (σ' := ⟨[(0, .t (tS enc_SConfig s)), (1, .fz n2 cs), (7, .t (tI (s.length : Int))), (8, .t (tI i))], []⟩) (.of rfl rfl) (TieS.bind (Q₁ := fun f e σ' => match f with | .next t => e = .normal ∧ Sub ⟨[(0, .t (tS enc_SConfig s)), (1, .fz n2 cs), (7, .t (tI (s.length : Int))), (8, .t (tI i))], []⟩ σ' | .brk t => e = .exit 0 ∧ Sub ⟨[], []⟩ σ' | .ret t => e = .ret ∧ retT tab σ' [.tmp 4] = some (((fun r => .t (tI r)) : Int → T) t)) ?_ ?_)))
      · refine TieS.block (.seq (.region (.run 2 rfl (.nil ?_))))
        refine TieS.seq (.region (.run 3 rfl (.index rfl rfl rfl rfl rfl rfl rfl rfl (fun _ => rfl) fun x hx => .run 1 rfl ?_)))
        refine TieO.call _ rfl rfl rfl (h2 x) (fun _ => rfl) fun v => .nil (.cond rfl ?_ ?_)
        · exact TieS.seq (.region (.run 2 rfl (.nil (.ret ⟨rfl, rfl⟩))))
        · exact TieS.skip (.endb (.leaf ⟨rfl, .of rfl rfl⟩))
      rintro (t | t | t) e σ' _ hq
      · obtain ⟨rfl, hs⟩ := hq
        exact TieX.sub hs (TieS.region (.run 2 rfl (.nil (.leaf ⟨rfl, .of rfl rfl⟩))))
      · obtain ⟨rfl, hs⟩ := hq
        exact TieX.exitOut rfl ⟨(fun h => by cases h), rfl, hs⟩
      · obtain ⟨rfl, hs⟩ := hq
        exact TieX.ret ⟨(fun h => by cases h), rfl, hs⟩
    · exact TieS.exitOut rfl ⟨(fun h => by cases h), rfl, .of rfl rfl⟩
  rintro (s3 | r2) e σ' _ hq
  · obtain ⟨rfl, hs⟩ := hq
    refine TieX.exit rfl (TieX.sub hs ?_)
    exact TieS.seq (.region (.run 1 rfl (.nil (.ret ⟨.inl rfl, rfl⟩))))
  · obtain ⟨rfl, hs⟩ := hq
    exact TieX.ret ⟨.inl rfl, hs⟩
set_option maxRecDepth 100000 in
theorem tie_slices_ContainsFunc_sConfig (s : List SConfig) (n2 : Nat) (cs : List (List Tree)) (f2 : SConfig → Option Bool) (h2 : ∀ x0, TieF Try.prog n2 ([A_SConfig x0] ++ cs.map T.el) (f2 x0) (fun r => .t (tB r))) : TieF Try.prog 13 [.t (tS enc_SConfig s), .fz n2 cs] (slices_ContainsFunc_sConfig s f2) (fun r => .t (tB r)) := by
  refine TieF.intro htab 9 [.tmp 4] Try.call13 Try.func13 rfl rfl rfl (Nat.le_of_ble_eq_true rfl) fun w0 L => ?_
  refine TieS.seq (.region (.run 1 rfl (.nil (.seq ?_))))
  refine TieS.region (.run 2 rfl (.call _ rfl rfl rfl (tie_slices_IndexFunc_sConfig s n2 cs f2 h2) (fun _ => rfl) fun v => .run 2 rfl (.nil ?_)))
  exact TieS.ret ⟨.inl rfl, rfl⟩
set_option maxRecDepth 100000 in
theorem tie_fault_within (x : Int) (low : Int) (high : Int) : TieF Try.prog 25 [.t (tI x), .t (tI low), .t (tI high)] (fault_within x low high) (fun r => .t (tB r)) := by
  refine TieF.intro htab 15 [.tmp 6] Try.call25 Try.func25 rfl rfl rfl (Nat.le_of_ble_eq_true rfl) fun w0 L => ?_
  refine TieS.seq (.region (.run 1 rfl (.nil (.seq ?_))))
  refine TieS.region (.run 4 rfl (.selAnd (v := decide (x ≤ high)) 4 10 (fun b => ⟨[(14, .t (tB b))], []⟩) rfl ?_ ?_ ?_))
  · exact TieO.run 4 rfl (.nil (.leaf ⟨rfl, .of rfl rfl⟩))
  · exact TieO.run 4 rfl (.nil (.leaf ⟨rfl, .of rfl rfl⟩))
  exact TieO.run 1 rfl (.nil (.ret ⟨.inl rfl, rfl⟩))
abbrev x24_0 (c : SConfig) : List T := [.t (tI c.Code), .t (tI c.Fail), .t (tI c.Pass), .t (tI c.Heal), .t (tI c.Age), .t (tI c.Priority), .t (tB c.Lamp), .t (tI c.Frame)]
set_option maxRecDepth 100000 in
theorem tie_fault_ValidConfig (c : SConfig) : TieF Try.prog 24 [A_SConfig c] (fault_ValidConfig c) (fun r => .t (tB r)) := by
  refine TieF.intro htab 38 [.tmp 2] Try.call24 Try.func24 rfl rfl rfl (Nat.le_of_ble_eq_true rfl) fun w0 L => ?_
  refine TieS.seq (.region (.run 2 rfl (.nil (.seq ?_))))
  refine TieS.region (.run 2 rfl (.call _ rfl rfl rfl (tie_fault_within c.Code 1 16777215) (fun _ => rfl) fun v => .run 1 rfl (.bind 4 (fun b2 => ⟨[(1, .ptr 1 0), (10, .t (tB b2))], [(1, .box (x24_0 c))]⟩) (TieO.split 6 rfl ?_ ?_) fun b2 _ => ?_)))
  · exact TieO.run 2 rfl (.call _ rfl rfl rfl (tie_fault_within c.Fail 1 100) (fun _ => rfl) fun v2 => .run 1 rfl (.nil (.leaf ⟨rfl, .of rfl rfl⟩)))
  · exact TieO.run 4 rfl (.nil (.leaf ⟨rfl, .of rfl rfl⟩))
  refine TieO.run 1 rfl (.bind 4 (fun b3 => ⟨[(1, .ptr 1 0), (15, .t (tB b3))], [(1, .box (x24_0 c))]⟩) (TieO.split 11 rfl ?_ ?_) fun b3 _ => ?_)
  · exact TieO.run 2 rfl (.call _ rfl rfl rfl (tie_fault_within c.Pass 1 100) (fun _ => rfl) fun v3 => .run 1 rfl (.nil (.leaf ⟨rfl, .of rfl rfl⟩)))
  · exact TieO.run 4 rfl (.nil (.leaf ⟨rfl, .of rfl rfl⟩))
  refine TieO.run 1 rfl (.bind 4 (fun b4 => ⟨[(1, .ptr 1 0), (20, .t (tB b4))], [(1, .box (x24_0 c))]⟩) (TieO.split 16 rfl ?_ ?_) fun b4 _ => ?_)
  · exact TieO.run 2 rfl (.call _ rfl rfl rfl (tie_fault_within c.Heal 1 100) (fun _ => rfl) fun v4 => .run 1 rfl (.nil (.leaf ⟨rfl, .of rfl rfl⟩)))
  · exact TieO.run 4 rfl (.nil (.leaf ⟨rfl, .of rfl rfl⟩))
  refine TieO.run 1 rfl (.bind 6 (fun b5 => ⟨[(1, .ptr 1 0), (27, .t (tB b5))], [(1, .box (x24_0 c))]⟩) (TieO.split 21 rfl ?_ ?_) fun b5 _ => ?_)
  · exact TieO.run 4 rfl (.call _ rfl rfl rfl (tie_fault_within c.Age c.Heal 255) (fun _ => rfl) fun v5 => .run 1 rfl (.nil (.leaf ⟨rfl, .of rfl rfl⟩)))
  · exact TieO.run 6 rfl (.nil (.leaf ⟨rfl, .of rfl rfl⟩))
  refine TieO.run 1 rfl (.bind 4 (fun b6 => ⟨[(1, .ptr 1 0), (32, .t (tB b6))], [(1, .box (x24_0 c))]⟩) (TieO.split 28 rfl ?_ ?_) fun b6 _ => ?_)
  · exact TieO.run 2 rfl (.call _ rfl rfl rfl (tie_fault_within c.Priority 0 255) (fun _ => rfl) fun v6 => .run 1 rfl (.nil (.leaf ⟨rfl, .of rfl rfl⟩)))
  · exact TieO.run 4 rfl (.nil (.leaf ⟨rfl, .of rfl rfl⟩))
  refine TieO.run 1 rfl (.bind 4 (fun b7 => ⟨[(37, .t (tB b7))], []⟩) (TieO.split 33 rfl ?_ ?_) fun b7 _ => ?_)
  · exact TieO.run 2 rfl (.call _ rfl rfl rfl (tie_fault_within c.Frame 0 8) (fun _ => rfl) fun v7 => .run 1 rfl (.nil (.leaf ⟨rfl, .of rfl rfl⟩)))
  · exact TieO.run 4 rfl (.nil (.leaf ⟨rfl, .of rfl rfl⟩))
  exact TieO.run 1 rfl (.nil (.ret ⟨.inl rfl, rfl⟩))
set_option maxRecDepth 100000 in
theorem tie_fault_wrong (c : SConfig) : TieF Try.prog 14 [A_SConfig c] (fault_wrong c) (fun r => .t (tB r)) := by
  refine TieF.intro htab 6 [.tmp 2] Try.call14 Try.func14 rfl rfl rfl (Nat.le_of_ble_eq_true rfl) fun w0 L => ?_
  refine TieS.seq (.region (.run 2 rfl (.nil (.seq ?_))))
  refine TieS.region (.run 1 rfl (.call _ rfl rfl rfl (tie_fault_ValidConfig c) (fun _ => rfl) fun v => .run 2 rfl (.nil ?_)))
  exact TieS.ret ⟨.inl rfl, rfl⟩
set_option maxRecDepth 100000 in
theorem tie_fault_codes (l : List SConfig) : TieF Try.prog 15 [.t (tS enc_SConfig l)] (fault_codes l) (fun r => .t (tB r)) := by
  refine TieF.intro htab 21 [.tmp 2] Try.call15 Try.func15 rfl rfl rfl (Nat.le_of_ble_eq_true rfl) fun w0 L => ?_
  refine TieS.seq (.region (.run 1 rfl (.nil (.seq ?_))))
  refine TieS.region (.makeMp 2048 rfl rfl rfl rfl rfl rfl rfl (.run 1 rfl (.nil (.seq ?_))))
  refine TieS.seq (.region (.run 3 rfl (.nil (.block ?_))))
  refine TieS.loop (fun p => ⟨[(3, .own 2048), (7, .t (tS enc_SConfig l)), (8, .t (tI (l.length : Int))), (9, .t (tI p.1))], [(2048, .mp (List.map (ent (fun n : Int => .int .i64 n) (fun v : Bool => .bool v)) p.2))]⟩) (fun b e σ' => match b with | .inl t => e = .exit 0 ∧ Sub ⟨[], []⟩ σ' | .inr t => e = .ret ∧ retT tab σ' [.tmp 2] = some (((fun r => .t (tB r)) : Bool → T) t)) (.of rfl rfl) ?_ ?_
  · rintro ⟨i, f2⟩
    refine TieS.seq (.region (.run 1 rfl (.nil (.seq ?_))))
    refine TieS.cond rfl ?_ ?_
    · refine TieS.skip (.seq (TieX.pre fun x hx => TieX.sub (σ' := ⟨[(3, .own 2048), (7, .t (tS enc_SConfig l)), (8, .t (tI (l.length : Int))), (9, .t (tI i))], [(2048, .mp (List.map (ent (fun n : Int => .int .i64 n) (fun v : Bool => .bool v)) f2))]⟩) (.of rfl rfl) (TieS.bind (Q₁ := fun f e σ' => match f with | .next t => e = .normal ∧ Sub ⟨[(3, .own 2048), (7, .t (tS enc_SConfig l)), (8, .t (tI (l.length : Int))), (9, .t (tI i))], [(2048, .mp (List.map (ent (fun n : Int => .int .i64 n) (fun v : Bool => .bool v)) t))]⟩ σ' | .brk t => e = .exit 0 ∧ Sub ⟨[], []⟩ σ' | .ret t => e = .ret ∧ retT tab σ' [.tmp 2] = some (((fun r => .t (tB r)) : Bool → T) t)) ?_ ?_)))
      · refine TieS.block (.seq (.region (.indexH hx rfl rfl rfl rfl rfl rfl rfl rfl (fun _ => rfl) (.run 3 rfl ?_))))
        refine TieO.nil (.seq (.seq (.region (.run 3 rfl ?_))))
        refine TieO.lookupMp (f := (fun n : Int => .int .i64 n)) (g := (fun v : Bool => .bool v)) (z := false) (l := f2) (intKey .i64) rfl rfl rfl rfl rfl rfl rfl Try.underlying64 Try.underlying3 ⟨Try.t4, by kernel_rfl, rfl⟩ (.nil (.cond rfl ?_ ?_))
        · exact TieS.seq (.region (.run 1 rfl (.nil (.ret ⟨rfl, rfl⟩))))
        · refine TieS.skip (.region (.run 3 rfl (.updateMp (f := (fun n : Int => .int .i64 n)) (g := (fun v : Bool => .bool v)) (v := true) (l := f2) (intKey .i64) rfl rfl rfl rfl rfl rfl rfl Try.underlying64 Try.underlying3 (.nil ?_))))
          exact TieS.endb (.leaf ⟨rfl, .of rfl rfl⟩)
      rintro (t | t | t) e σ' _ hq
      · obtain ⟨rfl, hs⟩ := hq
        exact TieX.sub hs (TieS.region (.run 2 rfl (.nil (.leaf ⟨rfl, .of rfl rfl⟩))))
      · obtain ⟨rfl, hs⟩ := hq
        exact TieX.exitOut rfl ⟨(fun h => by cases h), rfl, hs⟩
      · obtain ⟨rfl, hs⟩ := hq
        exact TieX.ret ⟨(fun h => by cases h), rfl, hs⟩
    · exact TieS.exitOut rfl ⟨(fun h => by cases h), rfl, .of rfl rfl⟩
  rintro (f3 | r2) e σ' _ hq
  · obtain ⟨rfl, hs⟩ := hq
    refine TieX.exit rfl (TieX.sub hs ?_)
    exact TieS.seq (.region (.run 1 rfl (.nil (.ret ⟨.inl rfl, rfl⟩))))
  · obtain ⟨rfl, hs⟩ := hq
    exact TieX.ret ⟨.inl rfl, hs⟩
set_option maxRecDepth 100000 in
theorem tie_slices_Clone_sConfig (s : List SConfig) : TieF Try.prog 16 [.t (tS enc_SConfig s)] (slices_Clone_sConfig s) (fun r => .t (tS enc_SConfig r)) := by
  refine TieF.intro htab 8 [.tmp 2] Try.call16 Try.func16 rfl rfl rfl (Nat.le_of_ble_eq_true rfl) fun w0 L => ?_
  refine TieS.seq (.region (.run 1 rfl (.nil (.seq ?_))))
  refine TieS.seq (.region (.run 1 rfl (.isNil rfl rfl rfl rfl rfl rfl fun b2 hb2 => .nil ?_)))
  refine TieS.condB rfl (fun hb1 => ?_) (fun _ => ?_)
  · refine TieX.model (m' := some ([] : List SConfig)) (by rw [hb2 hb1]; rfl) (TieS.seq (.region (.run 1 rfl (.nil ?_))))
    exact TieS.ret ⟨.inl rfl, rfl⟩
  · refine TieS.skip (.seq (.region (.run 2 rfl (.appendY (id := 5) (e' := 0) (l := ([] : List SConfig)) (r := s) (tm' := [(0, .t (tS enc_SConfig s)), (2, .t (.v (.slice none 0 0))), (3, .t (tS enc_SConfig s)), (4, .t (tB b2)), (6, .t (tS enc_SConfig s))]) (hp' := []) rfl rfl rfl rfl rfl rfl rfl (fun _ => rfl) (fun _ => rfl) (.inl ⟨rfl, rfl⟩) (.inl rfl) (.of rfl rfl) rfl rfl rfl fun l => ?_))))
    exact TieO.run 1 rfl (.nil (.ret ⟨.inl rfl, rfl⟩))
abbrev x5_0 : List T := [.t (.v (.slice none 0 0)), .t (.v (.slice none 0 0)), .t (tI 0), .t (tB false)]
set_option maxRecDepth 100000 in
theorem tie_fault_New (l : List SConfig) : TieF Try.prog 5 [.t (tS enc_SConfig l)] (fault_New l) (fun r => .tup [A_SFaults r.1, .t (tI r.2)]) := by
  refine TieF.intro htab 24 [.cell 2 30, .tmp 3] Try.call5 Try.func5 rfl rfl rfl (Nat.le_of_ble_eq_true rfl) fun w0 L => ?_
  refine TieS.seq (.region (.run 2 rfl (.nil (.seq ?_))))
  refine TieS.block (.seq (.region (.run 4 rfl (.nil ?_))))
  refine TieS.cond rfl ?_ ?_
  · exact TieS.seq (.region (.run 3 rfl (.nil (.ret ⟨.inl rfl, rfl⟩))))
  · refine TieS.seq (.region (.run 1 rfl (.call _ rfl rfl rfl (tie_slices_ContainsFunc_sConfig l 14 [] fault_wrong tie_fault_wrong) (fun _ => rfl) fun v => .run 1 rfl ?_)))
    refine TieO.nil (.cond rfl ?_ ?_)
    · exact TieS.seq (.region (.run 3 rfl (.nil (.ret ⟨.inl rfl, rfl⟩))))
    · refine TieS.seq (.region (.run 1 rfl (.call _ rfl rfl rfl (tie_fault_codes l) (fun _ => rfl) fun v2 => .run 2 rfl ?_)))
      refine TieO.nil (.cond rfl ?_ ?_)
      · exact TieS.seq (.region (.run 3 rfl (.nil (.ret ⟨.inl rfl, rfl⟩))))
      · refine TieS.skip (.endb (.seq (.bind (Q₁ := fun t e σ' => e = .normal ∧ Sub ⟨[(2, .ptr 2 0), (3, .t (tI 0))], [(2, .box [.t (tS enc_SConfig t.1), .own 2176, .t (tI 0), .t (tB false)]), (2176, .rs 41 7 t.2 enc_SFault)]⟩ σ') ?_ ?_)))
        · refine TieX.pre fun v3 hv3 => TieX.pre fun l2 hl2 => TieS.draws 5 (bm 8 0) (bm 8 31) ⟨[(2, .ptr 2 0), (3, .t (tI 0)), (19, .t (tS enc_SConfig v3)), (22, .own 2176)], [(2, .box x5_0), (2176, .rs 41 7 l2 enc_SFault)]⟩ mixed (fun _ _ _ h => by cases h.1) rfl rfl rfl rfl ?_ ?_
          · refine TieA.have_ (fuel₁ := 4) (l₁ := (bm 8 15)) (σ₁ := ⟨[(2, .ptr 2 0), (3, .t (tI 0)), (19, .t (tS enc_SConfig v3)), (21, .t (tI (l.length : Int)))], [(2, .box x5_0)]⟩) ?_ fun A_0 => ?_
            · refine TieA.all [4] (by kernel_rfl) rfl (AllA.cons (σ₁ := ⟨[(2, .ptr 2 0), (3, .t (tI 0)), (19, .t (tS enc_SConfig v3)), (22, .own 2176)], [(2, .box x5_0), (2176, .rs 41 7 l2 enc_SFault)]⟩) _ rfl rfl ?_ ?_ ?_)
              · refine TieO.withH hl2 (TieO.makeO (enc := enc_SFault) 2176 (⟨0, 0, 0, 0, 0, ([] : List Int), 0⟩ : SFault) rfl rfl rfl rfl rfl rfl rfl rfl rfl rfl rfl rfl rfl (TieO.ifG ?_))
                exact TieO.nil (TieS.leaf ⟨rfl, .of rfl rfl⟩)
              · exact TieA.done (.of rfl rfl)
              exact AllA.nil
            refine TieA.mv 0 rfl (.inl rfl) rfl (by kernel_rfl) rfl (.mv 2 rfl (.inl rfl) rfl (by kernel_rfl) rfl (.all [1, 3] (by kernel_rfl) rfl (AllA.cons (σ₁ := ⟨[(2, .ptr 2 0), (3, .t (tI 0)), (19, .t (tS enc_SConfig v3)), (20, .t (tS enc_SConfig l))], [(2, .box x5_0)]⟩) _ rfl rfl ?_ ?_ ?_)))
            · refine TieO.withH hv3 (TieO.call _ rfl rfl rfl (tie_slices_Clone_sConfig l) (fun _ => rfl) (TieO.ifH ?_))
              exact TieO.nil (TieS.leaf ⟨rfl, .of rfl rfl⟩)
            · exact TieA.all [3] (by kernel_rfl) rfl (AllA.runTo _ rfl rfl rfl (.of rfl rfl) A_0 (AllA.nil))
            refine AllA.run _ rfl rfl rfl ?_ ?_
            · refine TieA.all [1, 4] (by kernel_rfl) rfl (AllA.cons _ rfl rfl ?_ A_0 ?_)
              · refine TieO.withH hv3 (TieO.call _ rfl rfl rfl (tie_slices_Clone_sConfig l) (fun _ => rfl) (TieO.ifH ?_))
                exact TieO.nil (TieS.leaf ⟨rfl, .of rfl rfl⟩)
              refine AllA.cons (σ₁ := ⟨[(2, .ptr 2 0), (3, .t (tI 0)), (18, .t (tS enc_SConfig l)), (22, .own 2176)], [(2, .box x5_0), (2176, .rs 41 7 l2 enc_SFault)]⟩) _ rfl rfl ?_ ?_ ?_
              · refine TieO.withH hl2 (TieO.makeO (enc := enc_SFault) 2176 (⟨0, 0, 0, 0, 0, ([] : List Int), 0⟩ : SFault) rfl rfl rfl rfl rfl rfl rfl rfl rfl rfl rfl rfl rfl (TieO.ifG ?_))
                exact TieO.nil (TieS.leaf ⟨rfl, .of rfl rfl⟩)
              · refine TieA.all [1] (by kernel_rfl) rfl (AllA.cons (σ₁ := ⟨[(2, .ptr 2 0), (3, .t (tI 0)), (19, .t (tS enc_SConfig v3)), (22, .own 2176)], [(2, .box x5_0), (2176, .rs 41 7 l2 enc_SFault)]⟩) _ rfl rfl ?_ ?_ ?_)
                · refine TieO.withH hv3 (TieO.call _ rfl rfl rfl (tie_slices_Clone_sConfig l) (fun _ => rfl) (TieO.ifH ?_))
                  exact TieO.nil (TieS.leaf ⟨rfl, .of rfl rfl⟩)
                · exact TieA.done (.of rfl rfl)
                exact AllA.nil
              exact AllA.nil
            exact AllA.nil
          exact TieO.run 3 rfl (.nil (.leaf ⟨rfl, .of rfl rfl⟩))
        rintro s e σ' _ ⟨rfl, hs⟩
        exact TieX.sub hs (TieS.ret ⟨.inl rfl, rfl⟩)
set_option maxRecDepth 100000 in
theorem tie_slices_IndexFunc_sint (s : List Int) (n2 : Nat) (cs : List (List Tree)) (f2 : Int → Option Bool) (h2 : ∀ x0, TieF Try.prog n2 ([.t (tI x0)] ++ cs.map T.el) (f2 x0) (fun r => .t (tB r))) : TieF Try.prog 33 [.t (tS Pv.encI s), .fz n2 cs] (slices_IndexFunc_sint s f2) (fun r => .t (tI r)) := by
  refine TieF.intro htab 19 [.tmp 4] Try.call33 Try.func33 rfl rfl rfl (Nat.le_of_ble_eq_true rfl) fun w0 L => ?_
  refine TieS.seq (.region (.run 1 rfl (.nil (.seq ?_))))
  refine TieS.seq (.region (.run 3 rfl (.nil (.block ?_))))
  refine TieS.loop (fun p => ⟨[(0, .t (tS Pv.encI s)), (1, .fz n2 cs), (7, .t (tI (s.length : Int))), (8, .t (tI p.1))], []⟩) (fun b e σ' => match b with | .inl t => e = .exit 0 ∧ Sub ⟨[], []⟩ σ' | .inr t => e = .ret ∧ retT tab σ' [.tmp 4] = some (((fun r => .t (tI r)) : Int → T) t)) (.of rfl rfl) ?_ ?_
  · rintro ⟨i, s2⟩
    refine TieS.seq (.region (.run 1 rfl (.nil (.seq ?_))))
    refine TieS.cond rfl ?_ ?_
    · refine TieS.skip (.seq (TieX.sub (σ' := ⟨[(0, .t (tS Pv.encI s)), (1, .fz n2 cs), (7, .t (tI (s.length : Int))), (8, .t (tI i))], []⟩) (.of rfl rfl) (TieS.bind (Q₁ := fun f e σ' => match f with | .next t => e = .normal ∧ Sub ⟨[(0, .t (tS Pv.encI s)), (1, .fz n2 cs), (7, .t (tI (s.length : Int))), (8, .t (tI i))], []⟩ σ' | .brk t => e = .exit 0 ∧ Sub ⟨[], []⟩ σ' | .ret t => e = .ret ∧ retT tab σ' [.tmp 4] = some (((fun r => .t (tI r)) : Int → T) t)) ?_ ?_)))
      · refine TieS.block (.seq (.region (.run 2 rfl (.nil ?_))))
        refine TieS.seq (.region (.run 3 rfl (.index rfl rfl rfl rfl rfl rfl rfl rfl (fun _ => rfl) fun x hx => .run 1 rfl ?_)))
        refine TieO.call _ rfl rfl rfl (h2 x) (fun _ => rfl) fun v => .nil (.cond rfl ?_ ?_)
        · exact TieS.seq (.region (.run 2 rfl (.nil (.ret ⟨rfl, rfl⟩))))
        · exact TieS.skip (.endb (.leaf ⟨rfl, .of rfl rfl⟩))
      rintro (t | t | t) e σ' _ hq
      · obtain ⟨rfl, hs⟩ := hq
        exact TieX.sub hs (TieS.region (.run 2 rfl (.nil (.leaf ⟨rfl, .of rfl rfl⟩))))
      · obtain ⟨rfl, hs⟩ := hq
        exact TieX.exitOut rfl ⟨(fun h => by cases h), rfl, hs⟩
      · obtain ⟨rfl, hs⟩ := hq
        exact TieX.ret ⟨(fun h => by cases h), rfl, hs⟩
    · exact TieS.exitOut rfl ⟨(fun h => by cases h), rfl, .of rfl rfl⟩
  rintro (s3 | r2) e σ' _ hq
  · obtain ⟨rfl, hs⟩ := hq
    refine TieX.exit rfl (TieX.sub hs ?_)
    exact TieS.seq (.region (.run 1 rfl (.nil (.ret ⟨.inl rfl, rfl⟩))))
  · obtain ⟨rfl, hs⟩ := hq
    exact TieX.ret ⟨.inl rfl, hs⟩
set_option maxRecDepth 100000 in
theorem tie_slices_ContainsFunc_sint (s : List Int) (n2 : Nat) (cs : List (List Tree)) (f2 : Int → Option Bool) (h2 : ∀ x0, TieF Try.prog n2 ([.t (tI x0)] ++ cs.map T.el) (f2 x0) (fun r => .t (tB r))) : TieF Try.prog 29 [.t (tS Pv.encI s), .fz n2 cs] (slices_ContainsFunc_sint s f2) (fun r => .t (tB r)) := by
  refine TieF.intro htab 9 [.tmp 4] Try.call29 Try.func29 rfl rfl rfl (Nat.le_of_ble_eq_true rfl) fun w0 L => ?_
  refine TieS.seq (.region (.run 1 rfl (.nil (.seq ?_))))
  refine TieS.region (.run 2 rfl (.call _ rfl rfl rfl (tie_slices_IndexFunc_sint s n2 cs f2 h2) (fun _ => rfl) fun v => .run 2 rfl (.nil ?_)))
  exact TieS.ret ⟨.inl rfl, rfl⟩
set_option maxRecDepth 100000 in
theorem tie_fault_value (x : Int) : TieF Try.prog 31 [.t (tI x)] (fault_value x) (fun r => .t (tB r)) := by
  refine TieF.intro htab 5 [.tmp 2] Try.call31 Try.func31 rfl rfl rfl (Nat.le_of_ble_eq_true rfl) fun w0 L => ?_
  refine TieS.seq (.region (.run 1 rfl (.nil (.seq ?_))))
  refine TieS.region (.run 1 rfl (.call _ rfl rfl rfl (tie_fault_within x (-1099511627776) 1099511627776) (fun _ => rfl) fun v => .run 1 rfl (.nil ?_)))
  exact TieS.ret ⟨.inl rfl, rfl⟩
set_option maxRecDepth 100000 in
theorem tie_fault_frame_1 (x : Int) : TieF Try.prog 30 [.t (tI x)] (fault_frame_1 x) (fun r => .t (tB r)) := by
  refine TieF.intro htab 6 [.tmp 2] Try.call30 Try.func30 rfl rfl rfl (Nat.le_of_ble_eq_true rfl) fun w0 L => ?_
  refine TieS.seq (.region (.run 1 rfl (.nil (.seq ?_))))
  refine TieS.region (.run 1 rfl (.call _ rfl rfl rfl (tie_fault_value x) (fun _ => rfl) fun v => .run 2 rfl (.nil ?_)))
  exact TieS.ret ⟨.inl rfl, rfl⟩
set_option maxRecDepth 100000 in
theorem tie_fault_frame (c : SConfig) (l : List Int) : TieF Try.prog 19 [A_SConfig c, .t (tS Pv.encI l)] (fault_frame c l) (fun r => .t (tB r)) := by
  refine TieF.intro htab 15 [.tmp 4] Try.call19 Try.func19 rfl rfl rfl (Nat.le_of_ble_eq_true rfl) fun w0 L => ?_
  refine TieS.seq (.region (.run 2 rfl (.nil (.seq ?_))))
  refine TieS.region (.run 6 rfl (.bind 4 (fun b2 => ⟨[(14, .t (tB b2))], []⟩) (TieO.split 10 rfl ?_ ?_) fun b2 _ => ?_))
  · exact TieO.run 1 rfl (.call _ rfl rfl rfl (tie_slices_ContainsFunc_sint l 30 [] fault_frame_1 tie_fault_frame_1) (fun _ => rfl) fun v => .run 2 rfl (.nil (.leaf ⟨rfl, .of rfl rfl⟩)))
  · exact TieO.run 4 rfl (.nil (.leaf ⟨rfl, .of rfl rfl⟩))
  exact TieO.run 1 rfl (.nil (.ret ⟨.inl rfl, rfl⟩))
set_option maxRecDepth 100000 in
theorem tie_fault_has (f2 : SFault) (bits : Int) : TieF Try.prog 22 [A_SFault f2, .t (tI bits)] (fault_has f2 bits) (fun r => .t (tB r)) := by
  refine TieF.intro htab 11 [.tmp 4] Try.call22 Try.func22 rfl rfl rfl (Nat.le_of_ble_eq_true rfl) fun w0 L => ?_
  refine TieS.seq (.region (.run 2 rfl (.nil (.seq ?_))))
  exact TieS.region (.run 7 rfl (.nil (.ret ⟨.inl rfl, rfl⟩)))
set_option maxRecDepth 100000 in
theorem tie_fault_known (f2 : SFault) : TieF Try.prog 32 [A_SFault f2] (fault_known f2) (fun r => .t (tB r)) := by
  refine TieF.intro htab 7 [.tmp 2] Try.call32 Try.func32 rfl rfl rfl (Nat.le_of_ble_eq_true rfl) fun w0 L => ?_
  refine TieS.seq (.region (.run 2 rfl (.nil (.seq ?_))))
  exact TieS.region (.run 5 rfl (.nil (.ret ⟨.inl rfl, rfl⟩)))
abbrev x26_0 (f2 : SFault) : List T := [.t (tI f2.Status), .t (tI f2.Count), .t (tI f2.Cycles), .t (tI f2.Clean), .t (tI f2.Occurrences), .t (tS Pv.encI f2.Frame), .t (tI f2.Last)]
abbrev x26_1 (c : SConfig) : List T := [.t (tI c.Code), .t (tI c.Fail), .t (tI c.Pass), .t (tI c.Heal), .t (tI c.Age), .t (tI c.Priority), .t (tB c.Lamp), .t (tI c.Frame)]
set_option maxRecDepth 100000 in
theorem tie_fault_right (c : SConfig) (f2 : SFault) (cycle : Int) : TieF Try.prog 26 [A_SConfig c, A_SFault f2, .t (tI cycle)] (fault_right c f2 cycle) (fun r => .t (tB r)) := by
  refine TieF.intro htab 153 [.tmp 6] Try.call26 Try.func26 rfl rfl rfl (Nat.le_of_ble_eq_true rfl) fun w0 L => ?_
  refine TieS.seq (.region (.run 3 rfl (.nil (.seq ?_))))
  refine TieS.seq (.region (.run 2 rfl (.call _ rfl rfl rfl (tie_fault_within f2.Status 0 31) (fun _ => rfl) fun v => .run 2 rfl ?_)))
  refine TieO.bind 10 (fun b2 => ⟨[(2, .t (tI cycle)), (3, .ptr 3 0), (4, .ptr 4 0), (21, .t (tB b2))], [(3, .box (x26_1 c)), (4, .box (x26_0 f2))]⟩) (TieO.split 11 rfl ?_ ?_) fun b2 _ => ?_
  · exact TieO.run 10 rfl (.nil (.leaf ⟨rfl, .of rfl rfl⟩))
  · exact TieO.run 7 rfl (.call _ rfl rfl rfl (tie_fault_within f2.Count (w64 (0 - c.Pass)) c.Fail) (fun _ => rfl) fun v2 => .run 2 rfl (.nil (.leaf ⟨rfl, .of rfl rfl⟩)))
  refine TieO.run 1 rfl (.bind 5 (fun b3 => ⟨[(2, .t (tI cycle)), (3, .ptr 3 0), (4, .ptr 4 0), (27, .t (tB b3))], [(3, .box (x26_1 c)), (4, .box (x26_0 f2))]⟩) (TieO.split 22 rfl ?_ ?_) fun b3 _ => ?_)
  · exact TieO.run 5 rfl (.nil (.leaf ⟨rfl, .of rfl rfl⟩))
  · exact TieO.run 2 rfl (.call _ rfl rfl rfl (tie_fault_within f2.Cycles 0 2) (fun _ => rfl) fun v3 => .run 2 rfl (.nil (.leaf ⟨rfl, .of rfl rfl⟩)))
  refine TieO.run 1 rfl (.bind 8 (fun b4 => ⟨[(2, .t (tI cycle)), (3, .ptr 3 0), (4, .ptr 4 0), (36, .t (tB b4))], [(3, .box (x26_1 c)), (4, .box (x26_0 f2))]⟩) (TieO.split 28 rfl ?_ ?_) fun b4 _ => ?_)
  · exact TieO.run 8 rfl (.nil (.leaf ⟨rfl, .of rfl rfl⟩))
  · exact TieO.run 5 rfl (.call _ rfl rfl rfl (tie_fault_within f2.Clean 0 (w64 (c.Age - 1))) (fun _ => rfl) fun v4 => .run 2 rfl (.nil (.leaf ⟨rfl, .of rfl rfl⟩)))
  refine TieO.run 1 rfl (.bind 5 (fun b5 => ⟨[(2, .t (tI cycle)), (3, .ptr 3 0), (4, .ptr 4 0), (42, .t (tB b5))], [(3, .box (x26_1 c)), (4, .box (x26_0 f2))]⟩) (TieO.split 37 rfl ?_ ?_) fun b5 _ => ?_)
  · exact TieO.run 5 rfl (.nil (.leaf ⟨rfl, .of rfl rfl⟩))
  · exact TieO.run 2 rfl (.call _ rfl rfl rfl (tie_fault_within f2.Occurrences 0 255) (fun _ => rfl) fun v5 => .run 2 rfl (.nil (.leaf ⟨rfl, .of rfl rfl⟩)))
  refine TieO.run 1 rfl (.bind 6 (fun b6 => ⟨[(2, .t (tI cycle)), (3, .ptr 3 0), (4, .ptr 4 0), (49, .t (tB b6))], [(3, .box (x26_1 c)), (4, .box (x26_0 f2))]⟩) (TieO.split 43 rfl ?_ ?_) fun b6 _ => ?_)
  · exact TieO.run 6 rfl (.nil (.leaf ⟨rfl, .of rfl rfl⟩))
  · exact TieO.run 3 rfl (.call _ rfl rfl rfl (tie_fault_within f2.Last 0 cycle) (fun _ => rfl) fun v6 => .run 2 rfl (.nil (.leaf ⟨rfl, .of rfl rfl⟩)))
  refine TieO.run 1 rfl (.bind 12 (fun b8 => ⟨[(2, .t (tI cycle)), (3, .ptr 3 0), (4, .ptr 4 0), (62, .t (tB b8))], [(3, .box (x26_1 c)), (4, .box (x26_0 f2))]⟩) (TieO.split 50 rfl ?_ ?_) fun b8 _ => ?_)
  · exact TieO.run 12 rfl (.nil (.leaf ⟨rfl, .of rfl rfl⟩))
  · refine TieO.run 5 rfl (.bind 6 (fun b7 => ⟨[(2, .t (tI cycle)), (3, .ptr 3 0), (4, .ptr 4 0), (50, .t (tB false)), (61, .t (tB b7))], [(3, .box (x26_1 c)), (4, .box (x26_0 f2))]⟩) (TieO.split 55 rfl ?_ ?_) fun b7 _ => ?_)
    · exact TieO.run 3 rfl (.call _ rfl rfl rfl (tie_fault_frame c f2.Frame) (fun _ => rfl) fun v7 => .run 2 rfl (.nil (.leaf ⟨rfl, .of rfl rfl⟩)))
    · exact TieO.run 6 rfl (.nil (.leaf ⟨rfl, .of rfl rfl⟩))
    exact TieO.run 1 rfl (.nil (.leaf ⟨rfl, .of rfl rfl⟩))
  refine TieO.nil (.cond rfl ?_ ?_)
  · exact TieS.seq (.region (.run 1 rfl (.nil (.ret ⟨.inl rfl, rfl⟩))))
  · refine TieS.skip (.seq (.block (.seq (.region ?_))))
    refine TieO.run 1 rfl (.call _ rfl rfl rfl (tie_fault_has f2 1) (fun _ => rfl) fun v8 => .run 1 rfl (.bind 10 (fun b9 => ⟨[(3, .ptr 3 0), (4, .ptr 4 0), (76, .t (tB b9))], [(3, .box (x26_1 c)), (4, .box (x26_0 f2))]⟩) (TieO.split 66 rfl ?_ ?_) fun b9 _ => ?_))
    · refine TieO.run 1 rfl (.call _ rfl rfl rfl (tie_fault_has f2 10) (fun _ => rfl) fun v9 => .run 2 rfl (.selOr (v := (f2.Last != cycle)) 5 70 (fun b => ⟨[(3, .ptr 3 0), (4, .ptr 4 0), (66, .t (tB true)), (75, .t (tB b))], [(3, .box (x26_1 c)), (4, .box (x26_0 f2))]⟩) rfl ?_ ?_ ?_))
      · exact TieO.run 5 rfl (.nil (.leaf ⟨rfl, .of rfl rfl⟩))
      · exact TieO.run 5 rfl (.nil (.leaf ⟨rfl, .of rfl rfl⟩))
      exact TieO.run 1 rfl (.nil (.leaf ⟨rfl, .of rfl rfl⟩))
    · exact TieO.run 10 rfl (.nil (.leaf ⟨rfl, .of rfl rfl⟩))
    refine TieO.run 1 rfl (.nil (.cond rfl ?_ ?_))
    · exact TieS.seq (.region (.run 1 rfl (.nil (.ret ⟨.inl rfl, rfl⟩))))
    · refine TieS.seq (TieX.pre fun v10 hv10 => TieS.draw 7 [_, _, _, _, _, _, _] [(3, .ptr 3 0), (4, .ptr 4 0)] [(3, .box (x26_1 c)), (4, .box (x26_0 f2))] mixed (.of rfl rfl) rfl rfl rfl rfl (.cons (.quiet rfl rfl rfl) (.cons (.callV (tie_fault_has f2 4) hv10 rfl rfl rfl rfl) (.cons (.quiet rfl rfl rfl) (.cons (.quiet rfl rfl rfl) (.cons (.quiet rfl rfl rfl) (.cons (.quiet rfl rfl rfl) (.cons (.quiet rfl rfl rfl) (.nil)))))))) (.nil (.cond rfl ?_ ?_)))
      · exact TieS.seq (.region (.run 1 rfl (.nil (.ret ⟨.inl rfl, rfl⟩))))
      · refine TieS.seq (.region (.run 1 rfl (.call _ rfl rfl rfl (tie_fault_has f2 16) (fun _ => rfl) fun v11 => .run 1 rfl ?_)))
        refine TieO.bind 9 (fun b10 => ⟨[(3, .ptr 3 0), (4, .ptr 4 0), (96, .t (tB b10))], [(3, .box (x26_1 c)), (4, .box (x26_0 f2))]⟩) (TieO.split 87 rfl ?_ ?_) fun b10 _ => ?_
        · refine TieO.run 1 rfl (.call _ rfl rfl rfl (tie_fault_has f2 4) (fun _ => rfl) fun v12 => .run 2 rfl (.selOr (v := (!c.Lamp)) 4 91 (fun b => ⟨[(3, .ptr 3 0), (4, .ptr 4 0), (87, .t (tB true)), (95, .t (tB b))], [(3, .box (x26_1 c)), (4, .box (x26_0 f2))]⟩) rfl ?_ ?_ ?_))
          · exact TieO.run 4 rfl (.nil (.leaf ⟨rfl, .of rfl rfl⟩))
          · exact TieO.run 4 rfl (.nil (.leaf ⟨rfl, .of rfl rfl⟩))
          exact TieO.run 1 rfl (.nil (.leaf ⟨rfl, .of rfl rfl⟩))
        · exact TieO.run 9 rfl (.nil (.leaf ⟨rfl, .of rfl rfl⟩))
        refine TieO.run 1 rfl (.nil (.cond rfl ?_ ?_))
        · exact TieS.seq (.region (.run 1 rfl (.nil (.ret ⟨.inl rfl, rfl⟩))))
        · refine TieS.seq (.region (.run 1 rfl (.call _ rfl rfl rfl (tie_fault_has f2 2) (fun _ => rfl) fun v13 => .run 1 rfl ?_)))
          refine TieO.selAnd (v := (f2.Clean != 0)) 4 100 (fun b => ⟨[(3, .ptr 3 0), (4, .ptr 4 0), (104, .t (tB b))], [(3, .box (x26_1 c)), (4, .box (x26_0 f2))]⟩) rfl ?_ ?_ ?_
          · exact TieO.run 4 rfl (.nil (.leaf ⟨rfl, .of rfl rfl⟩))
          · exact TieO.run 4 rfl (.nil (.leaf ⟨rfl, .of rfl rfl⟩))
          refine TieO.run 1 rfl (.nil (.cond rfl ?_ ?_))
          · exact TieS.seq (.region (.run 1 rfl (.nil (.ret ⟨.inl rfl, rfl⟩))))
          · refine TieS.seq (.region (.run 1 rfl (.call _ rfl rfl rfl (tie_fault_known f2) (fun _ => rfl) fun v14 => .run 1 rfl ?_)))
            refine TieO.nil (.cond rfl ?_ ?_)
            · refine TieS.seq (.region (.run 4 rfl (.selAnd (v := decide (f2.Cycles ≥ 1)) 4 111 (fun b => ⟨[(3, .ptr 3 0), (4, .ptr 4 0), (115, .t (tB b))], [(3, .box (x26_1 c)), (4, .box (x26_0 f2))]⟩) rfl ?_ ?_ ?_)))
              · exact TieO.run 4 rfl (.nil (.leaf ⟨rfl, .of rfl rfl⟩))
              · exact TieO.run 4 rfl (.nil (.leaf ⟨rfl, .of rfl rfl⟩))
              refine TieO.run 1 rfl (.selAnd (v := decide (f2.Last ≥ 1)) 4 116 (fun b => ⟨[(3, .ptr 3 0), (4, .ptr 4 0), (120, .t (tB b))], [(3, .box (x26_1 c)), (4, .box (x26_0 f2))]⟩) rfl ?_ ?_ ?_)
              · exact TieO.run 4 rfl (.nil (.leaf ⟨rfl, .of rfl rfl⟩))
              · exact TieO.run 4 rfl (.nil (.leaf ⟨rfl, .of rfl rfl⟩))
              refine TieO.run 1 rfl (.selAnd (v := ((f2.Frame.length : Int) == c.Frame)) 7 121 (fun b => ⟨[(128, .t (tB b))], []⟩) rfl ?_ ?_ ?_)
              · exact TieO.run 7 rfl (.nil (.leaf ⟨rfl, .of rfl rfl⟩))
              · exact TieO.run 7 rfl (.nil (.leaf ⟨rfl, .of rfl rfl⟩))
              exact TieO.run 1 rfl (.nil (.ret ⟨.inl rfl, rfl⟩))
            · refine TieS.skip (.endb (.seq (.region (.run 4 rfl ?_))))
              refine TieO.selAnd (v := (f2.Clean == 0)) 4 132 (fun b => ⟨[(4, .ptr 4 0), (136, .t (tB b))], [(4, .box (x26_0 f2))]⟩) rfl ?_ ?_ ?_
              · exact TieO.run 4 rfl (.nil (.leaf ⟨rfl, .of rfl rfl⟩))
              · exact TieO.run 4 rfl (.nil (.leaf ⟨rfl, .of rfl rfl⟩))
              refine TieO.run 1 rfl (.selAnd (v := (f2.Occurrences == 0)) 4 137 (fun b => ⟨[(4, .ptr 4 0), (141, .t (tB b))], [(4, .box (x26_0 f2))]⟩) rfl ?_ ?_ ?_)
              · exact TieO.run 4 rfl (.nil (.leaf ⟨rfl, .of rfl rfl⟩))
              · exact TieO.run 4 rfl (.nil (.leaf ⟨rfl, .of rfl rfl⟩))
              refine TieO.run 1 rfl (.selAnd (v := (f2.Last == 0)) 4 142 (fun b => ⟨[(4, .ptr 4 0), (146, .t (tB b))], [(4, .box (x26_0 f2))]⟩) rfl ?_ ?_ ?_)
              · exact TieO.run 4 rfl (.nil (.leaf ⟨rfl, .of rfl rfl⟩))
              · exact TieO.run 4 rfl (.nil (.leaf ⟨rfl, .of rfl rfl⟩))
              refine TieO.run 1 rfl (.selAnd (v := ((f2.Frame.length : Int) == 0)) 5 147 (fun b => ⟨[(152, .t (tB b))], []⟩) rfl ?_ ?_ ?_)
              · exact TieO.run 5 rfl (.nil (.leaf ⟨rfl, .of rfl rfl⟩))
              · exact TieO.run 5 rfl (.nil (.leaf ⟨rfl, .of rfl rfl⟩))
              exact TieO.run 1 rfl (.nil (.ret ⟨.inl rfl, rfl⟩))
abbrev x17_0 (f2 : SFaults) : List T := [.t (tS enc_SConfig f2.Configs), .t (tS enc_SFault f2.L), .t (tI f2.Cycle), .t (tB f2.Running)]
set_option maxRecDepth 100000 in
theorem tie_fault_Valid (f2 : SFaults) : TieF Try.prog 17 [A_SFaults f2] (fault_Valid f2) (fun r => .t (tB r)) := by
  refine TieF.intro htab 63 [.tmp 2] Try.call17 Try.func17 rfl rfl rfl (Nat.le_of_ble_eq_true rfl) fun w0 L => ?_
  refine TieS.seq (.region (.run 2 rfl (.nil (.seq ?_))))
  refine TieS.seq (.region (.run 5 rfl (.bind 4 (fun b2 => ⟨[(1, .ptr 1 0), (13, .t (tB b2))], [(1, .box (x17_0 f2))]⟩) (TieO.split 9 rfl ?_ ?_) fun b2 _ => ?_)))
  · exact TieO.run 4 rfl (.nil (.leaf ⟨rfl, .of rfl rfl⟩))
  · exact TieO.run 2 rfl (.call _ rfl rfl rfl (tie_slices_ContainsFunc_sConfig f2.Configs 14 [] fault_wrong tie_fault_wrong) (fun _ => rfl) fun v => .run 1 rfl (.nil (.leaf ⟨rfl, .of rfl rfl⟩)))
  refine TieO.run 1 rfl (.bind 5 (fun b3 => ⟨[(1, .ptr 1 0), (19, .t (tB b3))], [(1, .box (x17_0 f2))]⟩) (TieO.split 14 rfl ?_ ?_) fun b3 _ => ?_)
  · exact TieO.run 5 rfl (.nil (.leaf ⟨rfl, .of rfl rfl⟩))
  · exact TieO.run 2 rfl (.call _ rfl rfl rfl (tie_fault_codes f2.Configs) (fun _ => rfl) fun v2 => .run 2 rfl (.nil (.leaf ⟨rfl, .of rfl rfl⟩)))
  refine TieO.run 1 rfl (.selOr (v := ((f2.L.length : Int) != (f2.Configs.length : Int))) 8 20 (fun b => ⟨[(1, .ptr 1 0), (28, .t (tB b))], [(1, .box (x17_0 f2))]⟩) rfl ?_ ?_ ?_)
  · exact TieO.run 8 rfl (.nil (.leaf ⟨rfl, .of rfl rfl⟩))
  · exact TieO.run 8 rfl (.nil (.leaf ⟨rfl, .of rfl rfl⟩))
  refine TieO.run 1 rfl (.bind 5 (fun b4 => ⟨[(1, .ptr 1 0), (34, .t (tB b4))], [(1, .box (x17_0 f2))]⟩) (TieO.split 29 rfl ?_ ?_) fun b4 _ => ?_)
  · exact TieO.run 5 rfl (.nil (.leaf ⟨rfl, .of rfl rfl⟩))
  · exact TieO.run 2 rfl (.call _ rfl rfl rfl (tie_fault_within f2.Cycle 0 1073741824) (fun _ => rfl) fun v3 => .run 2 rfl (.nil (.leaf ⟨rfl, .of rfl rfl⟩)))
  refine TieO.run 1 rfl (.bind 8 (fun b5 => ⟨[(1, .ptr 1 0), (43, .t (tB b5))], [(1, .box (x17_0 f2))]⟩) (TieO.split 35 rfl ?_ ?_) fun b5 _ => ?_)
  · exact TieO.run 8 rfl (.nil (.leaf ⟨rfl, .of rfl rfl⟩))
  · refine TieO.run 3 rfl (.selAnd (v := decide (f2.Cycle < 1)) 4 38 (fun b => ⟨[(1, .ptr 1 0), (35, .t (tB false)), (42, .t (tB b))], [(1, .box (x17_0 f2))]⟩) rfl ?_ ?_ ?_)
    · exact TieO.run 4 rfl (.nil (.leaf ⟨rfl, .of rfl rfl⟩))
    · exact TieO.run 4 rfl (.nil (.leaf ⟨rfl, .of rfl rfl⟩))
    exact TieO.run 1 rfl (.nil (.leaf ⟨rfl, .of rfl rfl⟩))
  refine TieO.nil (.cond rfl ?_ ?_)
  · exact TieS.seq (.region (.run 1 rfl (.nil (.ret ⟨.inl rfl, rfl⟩))))
  · refine TieS.skip (.seq (.seq (.region (.run 4 rfl ?_))))
    refine TieO.nil (.block (.loop (fun p => ⟨[(1, .ptr 1 0), (45, .t (tS enc_SFault f2.L)), (46, .t (tI (f2.L.length : Int))), (47, .t (tI p.1))], [(1, .box (x17_0 f2))]⟩) (fun b e σ' => match b with | .inl t => e = .exit 0 ∧ Sub ⟨[], []⟩ σ' | .inr t => e = .ret ∧ retT tab σ' [.tmp 2] = some (((fun r => .t (tB r)) : Bool → T) t)) (.of rfl rfl) ?_ ?_))
    · rintro ⟨i, s⟩
      refine TieS.seq (.region (.run 1 rfl (.nil (.seq ?_))))
      refine TieS.cond rfl ?_ ?_
      · refine TieS.skip (.seq (TieX.sub (σ' := ⟨[(1, .ptr 1 0), (45, .t (tS enc_SFault f2.L)), (46, .t (tI (f2.L.length : Int))), (47, .t (tI i))], [(1, .box (x17_0 f2))]⟩) (.of rfl rfl) (TieS.bind (Q₁ := fun f e σ' => match f with | .next t => e = .normal ∧ Sub ⟨[(1, .ptr 1 0), (45, .t (tS enc_SFault f2.L)), (46, .t (tI (f2.L.length : Int))), (47, .t (tI i))], [(1, .box (x17_0 f2))]⟩ σ' | .brk t => e = .exit 0 ∧ Sub ⟨[], []⟩ σ' | .ret t => e = .ret ∧ retT tab σ' [.tmp 2] = some (((fun r => .t (tB r)) : Bool → T) t)) ?_ ?_)))
        · refine TieS.block (.seq (.region (.run 1 rfl (.index rfl rfl rfl rfl rfl rfl rfl rfl (fun _ => rfl) fun x hx => ?_))))
          refine TieO.run 4 rfl (.nil (.seq (TieX.pre fun x2 hx2 => TieX.pre fun v4 hv4 => ?_)))
          refine TieS.draw 10 [_, _, _, _, _, _, _, _, _, _] [(1, .ptr 1 0), (3, .t (tI i)), (4, .ptr 4 0), (45, .t (tS enc_SFault f2.L)), (46, .t (tI (f2.L.length : Int))), (47, .t (tI i))] [(1, .box (x17_0 f2)), (4, .box [.t (tI x.Status), .t (tI x.Count), .t (tI x.Cycles), .t (tI x.Clean), .t (tI x.Occurrences), .t (tS Pv.encI x.Frame), .t (tI x.Last)])] mixed (.of rfl rfl) rfl rfl rfl rfl (.cons (.quiet rfl rfl rfl) (.cons (.quiet rfl rfl rfl) (.cons (.quiet rfl rfl rfl) (.cons (.index hx2 rfl rfl rfl rfl rfl rfl (fun _ => rfl)) (.cons (.quiet rfl rfl rfl) (.cons (.quiet rfl rfl rfl) (.cons (.quiet rfl rfl rfl) (.cons (.quiet rfl rfl rfl) (.cons (.callV (tie_fault_right x2 x f2.Cycle) hv4 rfl rfl rfl rfl) (.cons (.quiet rfl rfl rfl) (.nil))))))))))) (.nil (.cond rfl ?_ ?_))
          · exact TieS.seq (.region (.run 1 rfl (.nil (.ret ⟨rfl, rfl⟩))))
          · exact TieS.skip (.endb (.leaf ⟨rfl, .of rfl rfl⟩))
        rintro (t | t | t) e σ' _ hq
        · obtain ⟨rfl, hs⟩ := hq
          exact TieX.sub hs (TieS.region (.run 2 rfl (.nil (.leaf ⟨rfl, .of rfl rfl⟩))))
        · obtain ⟨rfl, hs⟩ := hq
          exact TieX.exitOut rfl ⟨(fun h => by cases h), rfl, hs⟩
        · obtain ⟨rfl, hs⟩ := hq
          exact TieX.ret ⟨(fun h => by cases h), rfl, hs⟩
      · exact TieS.exitOut rfl ⟨(fun h => by cases h), rfl, .of rfl rfl⟩
    rintro (s2 | r2) e σ' _ hq
    · obtain ⟨rfl, hs⟩ := hq
      refine TieX.exit rfl (TieX.sub hs ?_)
      exact TieS.seq (.region (.run 1 rfl (.nil (.ret ⟨.inl rfl, rfl⟩))))
    · obtain ⟨rfl, hs⟩ := hq
      exact TieX.ret ⟨.inl rfl, hs⟩
set_option maxRecDepth 100000 in
theorem tie_slices_Clone_sFault (s : List SFault) : TieG Try.prog 27 [.t (tS enc_SFault s)] [] (slices_Clone_sFault s) (fun _ => .own 900000) (fun r => [(900000, .rs 41 7 r enc_SFault)]) := by
  refine TieG.intro htab 8 [.tmp 2] Try.call27 Try.func27 rfl rfl rfl (Nat.le_of_ble_eq_true rfl) fun w0 L => ?_
  refine TieS.seq (.region (.run 1 rfl (.nil (.seq ?_))))
  refine TieS.seq (.region (.run 1 rfl (.isNil rfl rfl rfl rfl rfl rfl fun b2 hb2 => .nil ?_)))
  refine TieS.condB rfl (fun hb1 => ?_) (fun _ => ?_)
  · refine TieX.model (m' := some ([] : List SFault)) (by rw [hb2 hb1]; rfl) (TieS.seq (.region (.run 1 rfl (.nil ?_))))
    exact TieX.nilP 2 70000 41 7 [] rfl rfl rfl rfl rfl (TieS.ret ⟨.inl rfl, ⟨[(70000, 900000)], _, _, rfl, rfl, rfl, rfl, rfl⟩⟩)
  · refine TieS.skip (.seq (.region (.run 2 rfl (.appendY (id := 5) (e' := 0) (l := ([] : List SFault)) (r := s) (tm' := [(0, .t (tS enc_SFault s)), (2, .t (.v (.slice none 0 0))), (3, .t (tS enc_SFault s)), (4, .t (tB b2)), (6, .t (tS enc_SFault s))]) (hp' := []) rfl rfl rfl rfl rfl rfl rfl (fun _ => rfl) (fun _ => rfl) (.inl ⟨rfl, rfl⟩) (.inl rfl) (.of rfl rfl) rfl rfl rfl fun l => ?_))))
    exact TieO.run 1 rfl (.nil (.ret ⟨.inl rfl, ⟨[(5, 900000)], _, _, rfl, rfl, rfl, rfl, rfl⟩⟩))
set_option maxRecDepth 100000 in
theorem tie_slices_Clone_sint (s : List Int) : TieF Try.prog 28 [.t (tS Pv.encI s)] (slices_Clone_sint s) (fun r => .t (tS Pv.encI r)) := by
  refine TieF.intro htab 8 [.tmp 2] Try.call28 Try.func28 rfl rfl rfl (Nat.le_of_ble_eq_true rfl) fun w0 L => ?_
  refine TieS.seq (.region (.run 1 rfl (.nil (.seq ?_))))
  refine TieS.seq (.region (.run 1 rfl (.isNil rfl rfl rfl rfl rfl rfl fun b2 hb2 => .nil ?_)))
  refine TieS.condB rfl (fun hb1 => ?_) (fun _ => ?_)
  · refine TieX.model (m' := some ([] : List Int)) (by rw [hb2 hb1]; rfl) (TieS.seq (.region (.run 1 rfl (.nil ?_))))
    exact TieS.ret ⟨.inl rfl, rfl⟩
  · refine TieS.skip (.seq (.region (.run 2 rfl (.appendY (id := 5) (e' := 0) (l := ([] : List Int)) (r := s) (tm' := [(0, .t (tS Pv.encI s)), (2, .t (.v (.slice none 0 0))), (3, .t (tS Pv.encI s)), (4, .t (tB b2)), (6, .t (tS Pv.encI s))]) (hp' := []) rfl rfl rfl rfl rfl rfl rfl (fun _ => rfl) (fun _ => rfl) (.inl ⟨rfl, rfl⟩) (.inl rfl) (.of rfl rfl) rfl rfl rfl fun l => ?_))))
    exact TieO.run 1 rfl (.nil (.ret ⟨.inl rfl, rfl⟩))
abbrev x18_0 : List T := [.t (.v (.slice none 0 0)), .t (.v (.slice none 0 0)), .t (tI 0), .t (tB false)]
abbrev x18_1 (f2 : SFaults) : List T := [.t (tS enc_SConfig f2.Configs), .own 2048, .t (tI f2.Cycle), .t (tB f2.Running)]
set_option maxRecDepth 100000 in
theorem tie_fault_copied (f2 : SFaults) : TieG Try.prog 18 [A_SFaults f2] [] (fault_copied f2) (fun r => .agg [.t (tS enc_SConfig r.Configs), .own 900000, .t (tI r.Cycle), .t (tB r.Running)]) (fun r => [(900000, .rs 41 7 r.L enc_SFault)]) := by
  refine TieG.intro htab 28 [.cell 2 30] Try.call18 Try.func18 rfl rfl rfl (Nat.le_of_ble_eq_true rfl) fun w0 L => ?_
  refine TieS.seq (.region (.run 2 rfl (.nil (.seq ?_))))
  refine TieS.region (.run 2 rfl (.callG [] [(900000, 2048)] (fun v => ⟨[(0, .agg [.t (tS enc_SConfig f2.Configs), .t (tS enc_SFault f2.L), .t (tI f2.Cycle), .t (tB f2.Running)]), (1, .ptr 1 0), (2, .ptr 2 0), (4, .ptr 1 1), (5, .t (tS enc_SFault f2.L)), (6, .own 2048)], [(1, .box [.t (tS enc_SConfig f2.Configs), .t (tS enc_SFault f2.L), .t (tI f2.Cycle), .t (tB f2.Running)]), (2, .box x18_0), (2048, .rs 41 7 v enc_SFault)]⟩) (tie_slices_Clone_sFault f2.L) rfl rfl rfl rfl rfl rfl rfl (fun _ => rfl) (fun _ => rfl) (fun _ => rfl) (fun _ => .of rfl rfl) fun v hv => .run 2 rfl (.nil ?_)))
  refine TieS.seq (.seq (.region (.run 4 rfl (.nil ?_))))
  refine TieS.block (.loop (fun p => ⟨[(1, .ptr 1 0), (2, .ptr 2 0), (10, .t (tI (v.length : Int))), (11, .t (tI p.1))], [(1, .box (x18_1 f2)), (2, .box x18_0), (2048, .rs 41 7 p.2 enc_SFault)]⟩) (fun b e σ' => match b with | .inl t => e = .exit 0 ∧ Sub ⟨[(1, .ptr 1 0), (2, .ptr 2 0)], [(1, .box (x18_1 f2)), (2, .box x18_0), (2048, .rs 41 7 t enc_SFault)]⟩ σ' | .inr t => False) (.of rfl rfl) ?_ ?_)
  · rintro ⟨i, f3⟩
    refine TieS.seq (.region (.run 1 rfl (.nil (.seq ?_))))
    refine TieS.cond rfl ?_ ?_
    · refine TieS.skip (.seq (TieX.sub (σ' := ⟨[(1, .ptr 1 0), (2, .ptr 2 0), (10, .t (tI (v.length : Int))), (11, .t (tI i))], [(1, .box (x18_1 f2)), (2, .box x18_0), (2048, .rs 41 7 f3 enc_SFault)]⟩) (.of rfl rfl) (TieS.bind (Q₁ := fun f e σ' => match f with | .next t => e = .normal ∧ Sub ⟨[(1, .ptr 1 0), (2, .ptr 2 0), (10, .t (tI (v.length : Int))), (11, .t (tI i))], [(1, .box (x18_1 f2)), (2, .box x18_0), (2048, .rs 41 7 t enc_SFault)]⟩ σ' | .brk t => e = .exit 0 ∧ Sub ⟨[(1, .ptr 1 0), (2, .ptr 2 0)], [(1, .box (x18_1 f2)), (2, .box x18_0), (2048, .rs 41 7 t enc_SFault)]⟩ σ' | .ret r => False) ?_ ?_)))
      · refine TieS.block (.seq (.region (.run 2 rfl (.nil ?_))))
        refine TieX.pre fun x hx => TieX.pre fun v2 hv2 => TieS.draw 12 [_, _, _, _, _, _, _, _, _, _, _, _] [(1, .ptr 1 0), (2, .ptr 2 0), (3, .t (tI i)), (10, .t (tI (v.length : Int))), (11, .t (tI i))] [(1, .box (x18_1 f2)), (2, .box x18_0), (2048, .rs 41 7 f3 enc_SFault)] mixed (.of rfl rfl) rfl rfl rfl rfl (.cons (.quiet rfl rfl rfl) (.cons (.quiet rfl rfl rfl) (.cons (.quiet rfl rfl rfl) (.cons (.quiet rfl rfl rfl) (.cons (.quiet rfl rfl rfl) (.cons (.quiet rfl rfl rfl) (.cons (.indexO (sz := 7) hx rfl rfl rfl rfl rfl rfl rfl rfl) (.cons (.quiet rfl rfl rfl) (.cons (.loadY hx rfl rfl rfl rfl rfl rfl) (.cons (.callV (tie_slices_Clone_sint x.Frame) hv2 rfl rfl rfl rfl) (.cons (.indexO (sz := 7) hx rfl rfl rfl rfl rfl rfl rfl rfl) (.cons (.quiet rfl rfl rfl) (.nil))))))))))))) (.storeY (u2_5 x v2) [tS Pv.encI v2] hx rfl rfl rfl rfl rfl rfl rfl rfl rfl rfl rfl rfl fun l hl => .nil ?_)
        exact TieS.endb (.leaf ⟨rfl, .of rfl rfl⟩)
      rintro (t | t | r) e σ' _ hq
      · obtain ⟨rfl, hs⟩ := hq
        exact TieX.sub hs (TieS.region (.run 2 rfl (.nil (.leaf ⟨rfl, .of rfl rfl⟩))))
      · obtain ⟨rfl, hs⟩ := hq
        exact TieX.exitOut rfl ⟨(fun h => by cases h), rfl, hs⟩
      · exact hq.elim
    · exact TieS.exitOut rfl ⟨(fun h => by cases h), rfl, .of rfl rfl⟩
  rintro (f4 | r) e σ' _ hq
  · obtain ⟨rfl, hs⟩ := hq
    refine TieX.exit rfl (TieX.sub hs ?_)
    exact TieS.seq (.region (.run 2 rfl (.nil (.ret ⟨.inl rfl, ⟨[(2048, 900000)], _, _, rfl, rfl, rfl, rfl, rfl⟩⟩))))
  · exact hq.elim
abbrev x6_0 : List T := [.t (.v (.slice none 0 0)), .t (.v (.slice none 0 0)), .t (tI 0), .t (tB false)]
set_option maxRecDepth 100000 in
theorem tie_fault_Begin (f2 : SFaults) : TieF Try.prog 6 [A_SFaults f2] (fault_Begin f2) (fun r => .tup [A_SFaults r.1, .t (tI r.2)]) := by
  refine TieF.intro htab 49 [.cell 2 30, .tmp 3] Try.call6 Try.func6 rfl rfl rfl (Nat.le_of_ble_eq_true rfl) fun w0 L => ?_
  refine TieS.seq (.region (.run 3 rfl (.nil (.seq ?_))))
  refine TieS.block (.seq (.region (.run 1 rfl (.call _ rfl rfl rfl (tie_fault_Valid f2) (fun _ => rfl) fun v => ?_))))
  refine TieO.run 2 rfl (.nil (.cond rfl ?_ ?_))
  · exact TieS.seq (.region (.run 3 rfl (.nil (.ret ⟨.inl rfl, rfl⟩))))
  · refine TieS.seq (.region (.run 3 rfl (.nil (.cond rfl ?_ ?_))))
    · exact TieS.seq (.region (.run 3 rfl (.nil (.ret ⟨.inl rfl, rfl⟩))))
    · refine TieS.seq (.region (.run 4 rfl (.nil (.cond rfl ?_ ?_))))
      · exact TieS.seq (.region (.run 3 rfl (.nil (.ret ⟨.inl rfl, rfl⟩))))
      · refine TieS.skip (.endb (.seq (.region (.run 1 rfl ?_))))
        refine TieO.callG [] [(900000, 2168)] (fun v2 => ⟨[(0, .agg [.t (tS enc_SConfig f2.Configs), .t (tS enc_SFault f2.L), .t (tI f2.Cycle), .t (tB f2.Running)]), (1, .ptr 1 0), (2, .ptr 2 0), (3, .t (tI 0)), (6, .t (tB (!v))), (7, .agg [.t (tS enc_SConfig f2.Configs), .t (tS enc_SFault f2.L), .t (tI f2.Cycle), .t (tB f2.Running)]), (8, .t (tB v)), (9, .t (tB (!v))), (11, .t (tB f2.Running)), (12, .ptr 1 3), (13, .t (tB f2.Running)), (15, .t (tB (f2.Cycle == 1073741824))), (16, .ptr 1 2), (17, .t (tI f2.Cycle)), (18, .t (tB (f2.Cycle == 1073741824))), (20, .agg [.t (tS enc_SConfig f2.Configs), .t (tS enc_SFault f2.L), .t (tI f2.Cycle), .t (tB f2.Running)]), (21, .agg [.t (tS enc_SConfig v2.Configs), .own 2168, .t (tI v2.Cycle), .t (tB v2.Running)])], [(1, .box [.t (tS enc_SConfig f2.Configs), .t (tS enc_SFault f2.L), .t (tI f2.Cycle), .t (tB f2.Running)]), (2, .box x6_0), (2168, .rs 41 7 v2.L enc_SFault)]⟩) (tie_fault_copied f2) rfl rfl rfl rfl rfl rfl rfl (fun _ => rfl) (fun _ => rfl) (fun _ => rfl) (fun _ => .of rfl rfl) fun v2 hv2 => .run 1 rfl (.nil (.seq (.region ?_)))
        refine TieO.run 5 rfl (.nil (.seq (.region (.run 2 rfl ?_))))
        refine TieO.nil (.seq (.seq (.region (.run 4 rfl ?_))))
        refine TieO.nil (.block (.loop (fun p => ⟨[(1, .ptr 1 0), (2, .ptr 2 0), (29, .t (tI (v2.L.length : Int))), (30, .t (tI p.1))], [(1, .box [.t (tS enc_SConfig v2.Configs), .own 2168, .t (tI (w64 (v2.Cycle + 1))), .t (tB true)]), (2, .box x6_0), (2168, .rs 41 7 p.2 enc_SFault)]⟩) (fun b e σ' => match b with | .inl t => e = .exit 1 ∧ Sub ⟨[(1, .ptr 1 0), (2, .ptr 2 0)], [(1, .box [.t (tS enc_SConfig v2.Configs), .own 2168, .t (tI (w64 (v2.Cycle + 1))), .t (tB true)]), (2, .box x6_0), (2168, .rs 41 7 t enc_SFault)]⟩ σ' | .inr t => False) (.of rfl rfl) ?_ ?_))
        · rintro ⟨i, f3⟩
          refine TieS.seq (.region (.run 1 rfl (.nil (.seq ?_))))
          refine TieS.cond rfl ?_ ?_
          · refine TieS.skip (.seq (TieX.sub (σ' := ⟨[(1, .ptr 1 0), (2, .ptr 2 0), (29, .t (tI (v2.L.length : Int))), (30, .t (tI i))], [(1, .box [.t (tS enc_SConfig v2.Configs), .own 2168, .t (tI (w64 (v2.Cycle + 1))), .t (tB true)]), (2, .box x6_0), (2168, .rs 41 7 f3 enc_SFault)]⟩) (.of rfl rfl) (TieS.bind (Q₁ := fun f e σ' => match f with | .next t => e = .normal ∧ Sub ⟨[(1, .ptr 1 0), (2, .ptr 2 0), (29, .t (tI (v2.L.length : Int))), (30, .t (tI i))], [(1, .box [.t (tS enc_SConfig v2.Configs), .own 2168, .t (tI (w64 (v2.Cycle + 1))), .t (tB true)]), (2, .box x6_0), (2168, .rs 41 7 t enc_SFault)]⟩ σ' | .brk t => e = .exit 1 ∧ Sub ⟨[(1, .ptr 1 0), (2, .ptr 2 0)], [(1, .box [.t (tS enc_SConfig v2.Configs), .own 2168, .t (tI (w64 (v2.Cycle + 1))), .t (tB true)]), (2, .box x6_0), (2168, .rs 41 7 t enc_SFault)]⟩ σ' | .ret r => False) ?_ ?_)))
            · refine TieS.block (.seq (.region (.run 2 rfl (.nil ?_))))
              refine TieS.seq (.region (.run 3 rfl (.indexO rfl rfl rfl rfl rfl rfl rfl rfl rfl rfl fun x hx => .run 1 rfl ?_)))
              refine TieO.nil (.seq (.region (.run 3 rfl (.storeY (u2_1 x 0) [tI 0] hx rfl rfl rfl rfl rfl rfl rfl rfl rfl rfl rfl rfl fun l hl => ?_))))
              refine TieO.nil (.region (.run 3 rfl (.loadY (setM_get hl) rfl rfl rfl rfl rfl rfl rfl rfl (.run 3 rfl ?_))))
              exact TieO.storeY (u2_1 (u2_0 x (bitAndNot .i64 x.Status 9)) 0) [tI (bitAndNot .i64 x.Status 9)] (setM_get hl) rfl rfl rfl rfl rfl rfl rfl rfl rfl rfl rfl rfl fun l2 hl2 => .nil (.endb (.leaf ⟨rfl, .of rfl rfl⟩))
            rintro (t | t | r) e σ' _ hq
            · obtain ⟨rfl, hs⟩ := hq
              exact TieX.sub hs (TieS.region (.run 2 rfl (.nil (.leaf ⟨rfl, .of rfl rfl⟩))))
            · obtain ⟨rfl, hs⟩ := hq
              exact TieX.exitOut rfl ⟨(fun h => by cases h), rfl, hs⟩
            · exact hq.elim
          · exact TieS.exitOut rfl ⟨(fun h => by cases h), rfl, .of rfl rfl⟩
        rintro (f4 | r) e σ' _ hq
        · obtain ⟨rfl, hs⟩ := hq
          refine TieX.exit rfl (TieX.sub hs ?_)
          exact TieS.seq (.region (.run 3 rfl (.nil (.ret ⟨.inl rfl, rfl⟩))))
        · exact hq.elim
set_option maxRecDepth 100000 in
theorem tie_fault_fails (l : List SFault) (i : Int) (c : SConfig) (cycle : Int) (frame : List Int) : TieG Try.prog 20 [.pe 1000000 (Int.toNat i) 7 0, A_SConfig c, .t (tI cycle), .t (tS Pv.encI frame)] [(1000000, .rs 41 7 l enc_SFault)] (fault_fails l i c cycle frame) (fun _ => .tup []) (fun r => [(1000000, .rs 41 7 r enc_SFault)]) := by
  refine TieG.intro htab 82 [] Try.call20 Try.func20 rfl rfl rfl (Nat.le_of_ble_eq_true rfl) fun w0 L => ?_
  refine TieS.seq (.region (.run 1 rfl (.nil (.seq ?_))))
  refine TieS.seq (.region (.run 2 rfl (.pre fun x2 hx2 => .loadY hx2 rfl rfl rfl rfl rfl rfl rfl rfl ?_)))
  refine TieO.call _ rfl rfl rfl (tie_fault_has x2 1) (fun _ => rfl) fun v => .run 1 rfl (.nil (.bind (Q₁ := fun t e σ' => e = .normal ∧ Sub ⟨[(0, .pe 1000000 (Int.toNat i) 7 0), (2, .t (tI cycle)), (5, .ptr 5 0)], [(5, .box [.t (tI c.Code), .t (tI c.Fail), .t (tI c.Pass), .t (tI c.Heal), .t (tI c.Age), .t (tI c.Priority), .t (tB c.Lamp), .t (tI c.Frame)]), (1000000, .rs 41 7 t enc_SFault)]⟩ σ') ?_ ?_))
  · refine TieS.cond rfl ?_ ?_
    · refine TieS.seq (.region (.run 4 rfl (.loadY hx2 rfl rfl rfl rfl rfl rfl rfl rfl (.run 4 rfl ?_))))
      refine TieO.storeY (u2_4 x2 (minI 255 (w64 (x2.Occurrences + 1)))) [tI (minI 255 (w64 (x2.Occurrences + 1)))] hx2 rfl rfl rfl rfl rfl rfl rfl rfl rfl rfl rfl rfl fun l2 hl2 => .nil (.seq (.region (.run 2 rfl ?_)))
      refine TieO.loadY (setM_get hl2) rfl rfl rfl rfl rfl rfl rfl rfl (.call _ rfl rfl rfl (tie_fault_has (u2_4 x2 (minI 255 (w64 (x2.Occurrences + 1)))) 4) (fun _ => rfl) fun v2 => .run 1 rfl (.nil (.cond rfl ?_ ?_)))
      · refine TieS.region (.run 2 rfl (.call _ rfl rfl rfl (tie_slices_Clone_sint frame) (fun _ => rfl) fun v3 => .run 2 rfl (.storeY (u2_5 (u2_4 x2 (minI 255 (w64 (x2.Occurrences + 1)))) v3) [tS Pv.encI v3] (setM_get hl2) rfl rfl rfl rfl rfl rfl rfl rfl rfl rfl rfl rfl fun l3 hl3 => ?_)))
        exact TieO.nil (.leaf ⟨rfl, .of rfl rfl⟩)
      · exact TieS.skip (.leaf ⟨rfl, .of rfl rfl⟩)
    · exact TieS.skip (.leaf ⟨rfl, .of rfl rfl⟩)
  rintro f2 e σ' _ ⟨rfl, hs⟩
  refine TieX.sub hs (TieS.seq (.region (.run 3 rfl (.pre fun x3 hx3 => ?_))))
  refine TieO.loadY hx3 rfl rfl rfl rfl rfl rfl rfl rfl (.run 3 rfl (.storeY (u2_0 x3 (bitOr .i64 x3.Status 11)) [tI (bitOr .i64 x3.Status 11)] hx3 rfl rfl rfl rfl rfl rfl rfl rfl rfl rfl rfl rfl fun l4 hl4 => .nil (.seq ?_)))
  refine TieS.region (.run 3 rfl (.storeY (u2_3 (u2_0 x3 (bitOr .i64 x3.Status 11)) 0) [tI 0] (setM_get hl4) rfl rfl rfl rfl rfl rfl rfl rfl rfl rfl rfl rfl fun l5 hl5 => .nil (.seq ?_)))
  refine TieS.seq (.region (.run 3 rfl (.loadY (setM_get hl5) rfl rfl rfl rfl rfl rfl rfl rfl (.run 2 rfl ?_))))
  refine TieO.nil (.cond rfl ?_ ?_)
  · exact TieS.ret ⟨.inl rfl, ⟨[(1000000, 1000000)], _, _, rfl, rfl, rfl, rfl, rfl⟩⟩
  · refine TieS.skip (.seq (.region (.run 4 rfl (.storeY (u2_6 (u2_3 (u2_0 x3 (bitOr .i64 x3.Status 11)) 0) cycle) [tI cycle] (setM_get hl5) rfl rfl rfl rfl rfl rfl rfl rfl rfl rfl rfl rfl fun l6 hl6 => ?_))))
    refine TieO.nil (.seq (.seq (.region (.run 4 rfl ?_))))
    refine TieO.loadY (setM_get hl6) rfl rfl rfl rfl rfl rfl rfl rfl (.run 4 rfl (.storeY (u2_6 (u2_3 (u2_2 (u2_0 x3 (bitOr .i64 x3.Status 11)) (minI 2 (w64 (x3.Cycles + 1)))) 0) cycle) [tI (minI 2 (w64 (x3.Cycles + 1)))] (setM_get hl6) rfl rfl rfl rfl rfl rfl rfl rfl rfl rfl rfl rfl fun l7 hl7 => .nil (.seq ?_)))
    refine TieS.region (.run 3 rfl (.loadY (setM_get hl7) rfl rfl rfl rfl rfl rfl rfl rfl (.run 1 rfl (.nil ?_))))
    refine TieS.cond rfl ?_ ?_
    · exact TieS.ret ⟨.inl rfl, ⟨[(1000000, 1000000)], _, _, rfl, rfl, rfl, rfl, rfl⟩⟩
    · refine TieS.skip (.seq (.region (.run 3 rfl (.loadY (setM_get hl7) rfl rfl rfl rfl rfl rfl rfl rfl ?_))))
      refine TieO.run 3 rfl (.storeY (u2_6 (u2_3 (u2_2 (u2_0 x3 (bitOr .i64 (bitOr .i64 x3.Status 11) 4)) (minI 2 (w64 (x3.Cycles + 1)))) 0) cycle) [tI (bitOr .i64 (bitOr .i64 x3.Status 11) 4)] (setM_get hl7) rfl rfl rfl rfl rfl rfl rfl rfl rfl rfl rfl rfl fun l8 hl8 => .nil (.seq (.region ?_)))
      refine TieO.run 2 rfl (.nil (.cond rfl ?_ ?_))
      · refine TieS.region (.run 3 rfl (.loadY (setM_get hl8) rfl rfl rfl rfl rfl rfl rfl rfl (.run 3 rfl (.storeY (u2_6 (u2_3 (u2_2 (u2_0 x3 (bitOr .i64 (bitOr .i64 (bitOr .i64 x3.Status 11) 4) 16)) (minI 2 (w64 (x3.Cycles + 1)))) 0) cycle) [tI (bitOr .i64 (bitOr .i64 (bitOr .i64 x3.Status 11) 4) 16)] (setM_get hl8) rfl rfl rfl rfl rfl rfl rfl rfl rfl rfl rfl rfl fun l9 hl9 => ?_))))
        exact TieO.nil (.leaf ⟨.inr rfl, ⟨[(1000000, 1000000)], _, _, rfl, rfl, rfl, rfl, rfl⟩⟩)
      · exact TieS.skip (.leaf ⟨.inr rfl, ⟨[(1000000, 1000000)], _, _, rfl, rfl, rfl, rfl, rfl⟩⟩)
abbrev x7_0 : List T := [.t (.v (.slice none 0 0)), .t (.v (.slice none 0 0)), .t (tI 0), .t (tB false)]
abbrev x7_1 (v3 : SFaults) : List T := [.t (tS enc_SConfig v3.Configs), .own 2352, .t (tI v3.Cycle), .t (tB v3.Running)]
abbrev x7_2 : List T := [.t (tI 0), .t (tI 0), .t (tI 0), .t (tI 0), .t (tI 0), .t (tI 0), .t (tB false), .t (tI 0)]
abbrev x7_3 (f3 : SConfig) : List T := [.t (tI f3.Code), .t (tI f3.Fail), .t (tI f3.Pass), .t (tI f3.Heal), .t (tI f3.Age), .t (tI f3.Priority), .t (tB f3.Lamp), .t (tI f3.Frame)]
set_option maxRecDepth 100000 in
theorem tie_fault_Result (f2 : SFaults) (i : Int) (bad : Bool) (l : List Int) : TieF Try.prog 7 [A_SFaults f2, .t (tI i), .t (tB bad), .t (tS Pv.encI l)] (fault_Result f2 i bad l) (fun r => .tup [A_SFaults r.1, .t (tI r.2)]) := by
  refine TieF.intro htab 114 [.cell 8 30, .tmp 9] Try.call7 Try.func7 rfl rfl rfl (Nat.le_of_ble_eq_true rfl) fun w0 L => ?_
  refine TieS.seq (.region (.run 3 rfl (.nil (.seq ?_))))
  refine TieS.block (.seq (.region (.run 1 rfl (.call _ rfl rfl rfl (tie_fault_Valid f2) (fun _ => rfl) fun v => ?_))))
  refine TieO.run 2 rfl (.nil (.cond rfl ?_ ?_))
  · exact TieS.seq (.region (.run 3 rfl (.nil (.ret ⟨.inl rfl, rfl⟩))))
  · refine TieS.seq (.region (.run 3 rfl (.selOr (v := decide (i ≥ (f2.L.length : Int))) 6 20 (fun b => ⟨[(1, .t (tI i)), (2, .t (tB bad)), (3, .t (tS Pv.encI l)), (4, .ptr 4 0), (8, .ptr 8 0), (26, .t (tB b))], [(4, .box [.t (tS enc_SConfig f2.Configs), .t (tS enc_SFault f2.L), .t (tI f2.Cycle), .t (tB f2.Running)]), (8, .box x7_0)]⟩) rfl ?_ ?_ ?_)))
    · exact TieO.run 6 rfl (.nil (.leaf ⟨rfl, .of rfl rfl⟩))
    · exact TieO.run 6 rfl (.nil (.leaf ⟨rfl, .of rfl rfl⟩))
    refine TieO.run 1 rfl (.nil (.cond rfl ?_ ?_))
    · exact TieS.seq (.region (.run 3 rfl (.nil (.ret ⟨.inl rfl, rfl⟩))))
    · refine TieS.seq (.region (.run 4 rfl (.nil (.cond rfl ?_ ?_))))
      · exact TieS.seq (.region (.run 3 rfl (.nil (.ret ⟨.inl rfl, rfl⟩))))
      · refine TieS.seq (.region (.run 3 rfl (.index rfl rfl rfl rfl rfl rfl rfl rfl (fun _ => rfl) fun x hx => .run 2 rfl ?_)))
        refine TieO.call _ rfl rfl rfl (tie_fault_frame x l) (fun _ => rfl) fun v2 => .run 2 rfl (.nil (.cond rfl ?_ ?_))
        · exact TieS.seq (.region (.run 3 rfl (.nil (.ret ⟨.inl rfl, rfl⟩))))
        · refine TieS.skip (.endb (.seq (.region (.run 1 rfl ?_))))
          refine TieO.callG [] [(900000, 2352)] (fun v3 => ⟨[(1, .t (tI i)), (2, .t (tB bad)), (3, .t (tS Pv.encI l)), (4, .ptr 4 0), (8, .ptr 8 0), (17, .t (tB ((decide (i < 0)) || (decide (i ≥ (f2.L.length : Int)))))), (26, .t (tB ((decide (i < 0)) || (decide (i ≥ (f2.L.length : Int)))))), (28, .t (tB (!f2.Running))), (29, .ptr 4 3), (30, .t (tB f2.Running)), (31, .t (tB (!f2.Running))), (33, .t (tB (!v2))), (34, .ptr 4 0), (35, .t (tS enc_SConfig f2.Configs)), (36, .t (tI i)), (37, .el (enc_SConfig x)), (38, .agg [.t (tI x.Code), .t (tI x.Fail), .t (tI x.Pass), .t (tI x.Heal), .t (tI x.Age), .t (tI x.Priority), .t (tB x.Lamp), .t (tI x.Frame)]), (39, .t (tS Pv.encI l)), (40, .t (tB v2)), (41, .t (tB (!v2))), (43, .agg [.t (tS enc_SConfig f2.Configs), .t (tS enc_SFault f2.L), .t (tI f2.Cycle), .t (tB f2.Running)]), (44, .agg [.t (tS enc_SConfig v3.Configs), .own 2352, .t (tI v3.Cycle), .t (tB v3.Running)])], [(4, .box [.t (tS enc_SConfig f2.Configs), .t (tS enc_SFault f2.L), .t (tI f2.Cycle), .t (tB f2.Running)]), (8, .box x7_0), (2352, .rs 41 7 v3.L enc_SFault)]⟩) (tie_fault_copied f2) rfl rfl rfl rfl rfl rfl rfl (fun _ => rfl) (fun _ => rfl) (fun _ => rfl) (fun _ => .of rfl rfl) fun v3 hv3 => .run 1 rfl (.nil (.seq (.bind (Q₁ := fun t e σ' => e = .normal ∧ Sub ⟨[(2, .t (tB bad)), (3, .t (tS Pv.encI l)), (4, .ptr 4 0), (8, .ptr 8 0), (10, .pe 2352 (Int.toNat i) 7 0), (11, .ptr 11 0)], [(4, .box (x7_1 v3)), (8, .box x7_0), (11, .box [.t (tI t.Code), .t (tI t.Fail), .t (tI t.Pass), .t (tI t.Heal), .t (tI t.Age), .t (tI t.Priority), .t (tB t.Lamp), .t (tI t.Frame)]), (2352, .rs 41 7 v3.L enc_SFault)]⟩ σ') ?_ ?_)))
          · refine TieX.pre fun x2 hx2 => TieX.pre fun x3 hx3 => TieS.draws 11 (bm 12 0) (bm 12 2047) ⟨[(2, .t (tB bad)), (3, .t (tS Pv.encI l)), (4, .ptr 4 0), (8, .ptr 8 0), (10, .pe 2352 (Int.toNat i) 7 0), (11, .ptr 11 0), (53, .agg [.t (tI x3.Code), .t (tI x3.Fail), .t (tI x3.Pass), .t (tI x3.Heal), .t (tI x3.Age), .t (tI x3.Priority), .t (tB x3.Lamp), .t (tI x3.Frame)])], [(4, .box (x7_1 v3)), (8, .box x7_0), (11, .box x7_2), (2352, .rs 41 7 v3.L enc_SFault)]⟩ mixed (fun _ _ _ h => by cases h.1) rfl rfl rfl rfl ?_ ?_
            · refine TieA.have_ (fuel₁ := 2) (l₁ := (bm 12 1023)) (σ₁ := ⟨[(2, .t (tB bad)), (3, .t (tS Pv.encI l)), (4, .ptr 4 0), (8, .ptr 8 0), (11, .ptr 11 0), (48, .pe 2352 (Int.toNat i) 7 0), (53, .agg [.t (tI x3.Code), .t (tI x3.Fail), .t (tI x3.Pass), .t (tI x3.Heal), .t (tI x3.Age), .t (tI x3.Priority), .t (tB x3.Lamp), .t (tI x3.Frame)])], [(4, .box (x7_1 v3)), (8, .box x7_0), (11, .box x7_2), (2352, .rs 41 7 v3.L enc_SFault)]⟩) ?_ fun A_2 => ?_
              · exact TieA.mv 10 rfl (.inr rfl) rfl (by kernel_rfl) rfl (.done (.of rfl rfl))
              refine TieA.have_ (fuel₁ := 3) (l₁ := (bm 12 511)) (σ₁ := ⟨[(2, .t (tB bad)), (3, .t (tS Pv.encI l)), (4, .ptr 4 0), (8, .ptr 8 0), (48, .pe 2352 (Int.toNat i) 7 0), (53, .agg [.t (tI x3.Code), .t (tI x3.Fail), .t (tI x3.Pass), .t (tI x3.Heal), .t (tI x3.Age), .t (tI x3.Priority), .t (tB x3.Lamp), .t (tI x3.Frame)])], [(4, .box (x7_1 v3)), (8, .box x7_0), (2352, .rs 41 7 v3.L enc_SFault)]⟩) ?_ fun A_1 => ?_
              · exact TieA.all [9] (by kernel_rfl) rfl (AllA.runTo _ rfl rfl rfl (.of rfl rfl) A_2 (AllA.nil))
              refine TieA.have_ (fuel₁ := 3) (l₁ := (bm 12 767)) (σ₁ := ⟨[(2, .t (tB bad)), (3, .t (tS Pv.encI l)), (4, .ptr 4 0), (8, .ptr 8 0), (11, .ptr 11 0), (48, .pe 2352 (Int.toNat i) 7 0), (52, .el (enc_SConfig x3))], [(4, .box (x7_1 v3)), (8, .box x7_0), (11, .box x7_2), (2352, .rs 41 7 v3.L enc_SFault)]⟩) ?_ fun A_3 => ?_
              · refine TieA.mv 10 rfl (.inr rfl) rfl (by kernel_rfl) rfl (.all [8] (by kernel_rfl) rfl (AllA.run _ rfl rfl rfl ?_ ?_))
                · exact TieA.done (.of rfl rfl)
                exact AllA.nil
              refine TieA.have_ (fuel₁ := 4) (l₁ := (bm 12 255)) (σ₁ := ⟨[(2, .t (tB bad)), (3, .t (tS Pv.encI l)), (4, .ptr 4 0), (8, .ptr 8 0), (48, .pe 2352 (Int.toNat i) 7 0), (52, .el (enc_SConfig x3))], [(4, .box (x7_1 v3)), (8, .box x7_0), (2352, .rs 41 7 v3.L enc_SFault)]⟩) ?_ fun A_0 => ?_
              · exact TieA.all [8, 9] (by kernel_rfl) rfl (AllA.runTo _ rfl rfl rfl (.of rfl rfl) A_1 (AllA.runTo _ rfl rfl rfl (.of rfl rfl) A_3 (AllA.nil)))
              refine TieA.have_ (fuel₁ := 2) (l₁ := (bm 12 1791)) (σ₁ := ⟨[(2, .t (tB bad)), (3, .t (tS Pv.encI l)), (4, .ptr 4 0), (8, .ptr 8 0), (10, .pe 2352 (Int.toNat i) 7 0), (11, .ptr 11 0), (52, .el (enc_SConfig x3))], [(4, .box (x7_1 v3)), (8, .box x7_0), (11, .box x7_2), (2352, .rs 41 7 v3.L enc_SFault)]⟩) ?_ fun A_5 => ?_
              · refine TieA.all [8] (by kernel_rfl) rfl (AllA.run _ rfl rfl rfl ?_ ?_)
                · exact TieA.done (.of rfl rfl)
                exact AllA.nil
              refine TieA.have_ (fuel₁ := 4) (l₁ := (bm 12 639)) (σ₁ := ⟨[(2, .t (tB bad)), (3, .t (tS Pv.encI l)), (4, .ptr 4 0), (8, .ptr 8 0), (11, .ptr 11 0), (48, .pe 2352 (Int.toNat i) 7 0), (50, .t (tS enc_SConfig v3.Configs)), (51, .t (tI i))], [(4, .box (x7_1 v3)), (8, .box x7_0), (11, .box x7_2), (2352, .rs 41 7 v3.L enc_SFault)]⟩) ?_ fun A_4 => ?_
              · refine TieA.mv 10 rfl (.inr rfl) rfl (by kernel_rfl) rfl (.all [7] (by kernel_rfl) rfl (AllA.cons _ rfl rfl ?_ A_5 ?_))
                · exact TieO.indexH hx3 rfl rfl rfl rfl rfl rfl rfl rfl (fun _ => rfl) (.nil (TieS.leaf ⟨rfl, .of rfl rfl⟩))
                exact AllA.nil
              refine TieA.have_ (fuel₁ := 3) (l₁ := (bm 12 1663)) (σ₁ := ⟨[(2, .t (tB bad)), (3, .t (tS Pv.encI l)), (4, .ptr 4 0), (8, .ptr 8 0), (10, .pe 2352 (Int.toNat i) 7 0), (11, .ptr 11 0), (50, .t (tS enc_SConfig v3.Configs)), (51, .t (tI i))], [(4, .box (x7_1 v3)), (8, .box x7_0), (11, .box x7_2), (2352, .rs 41 7 v3.L enc_SFault)]⟩) ?_ fun A_6 => ?_
              · refine TieA.all [7] (by kernel_rfl) rfl (AllA.cons _ rfl rfl ?_ A_5 ?_)
                · exact TieO.indexH hx3 rfl rfl rfl rfl rfl rfl rfl rfl (fun _ => rfl) (.nil (TieS.leaf ⟨rfl, .of rfl rfl⟩))
                exact AllA.nil
              refine TieA.have_ (fuel₁ := 4) (l₁ := (bm 12 1013)) (σ₁ := ⟨[(2, .t (tB bad)), (3, .t (tS Pv.encI l)), (4, .ptr 4 0), (8, .ptr 8 0), (11, .ptr 11 0), (45, .ptr 4 1), (47, .t (tI i)), (53, .agg [.t (tI x3.Code), .t (tI x3.Fail), .t (tI x3.Pass), .t (tI x3.Heal), .t (tI x3.Age), .t (tI x3.Priority), .t (tB x3.Lamp), .t (tI x3.Frame)])], [(4, .box (x7_1 v3)), (8, .box x7_0), (11, .box x7_2), (2352, .rs 41 7 v3.L enc_SFault)]⟩) ?_ fun A_7 => ?_
              · refine TieA.all [1] (by kernel_rfl) rfl (AllA.run _ rfl rfl rfl ?_ ?_)
                · exact TieA.idx 3 _ hx2 rfl rfl rfl rfl rfl rfl (by kernel_rfl) (by kernel_rfl) (by kernel_rfl) rfl rfl rfl rfl rfl rfl (.mv 10 rfl (.inr rfl) rfl (by kernel_rfl) rfl (.done (.of rfl rfl)))
                exact AllA.nil
              refine TieA.have_ (fuel₁ := 5) (l₁ := (bm 12 757)) (σ₁ := ⟨[(2, .t (tB bad)), (3, .t (tS Pv.encI l)), (4, .ptr 4 0), (8, .ptr 8 0), (11, .ptr 11 0), (45, .ptr 4 1), (47, .t (tI i)), (52, .el (enc_SConfig x3))], [(4, .box (x7_1 v3)), (8, .box x7_0), (11, .box x7_2), (2352, .rs 41 7 v3.L enc_SFault)]⟩) ?_ fun A_8 => ?_
              · refine TieA.all [1, 8] (by kernel_rfl) rfl (AllA.run _ rfl rfl rfl ?_ ?_)
                · refine TieA.idx 3 _ hx2 rfl rfl rfl rfl rfl rfl (by kernel_rfl) (by kernel_rfl) (by kernel_rfl) rfl rfl rfl rfl rfl rfl (.mv 10 rfl (.inr rfl) rfl (by kernel_rfl) rfl (.all [8] (by kernel_rfl) rfl (AllA.run _ rfl rfl rfl ?_ ?_)))
                  · exact TieA.done (.of rfl rfl)
                  exact AllA.nil
                exact AllA.runTo _ rfl rfl rfl (.of rfl rfl) A_7 (AllA.nil)
              refine TieA.have_ (fuel₁ := 6) (l₁ := (bm 12 629)) (σ₁ := ⟨[(2, .t (tB bad)), (3, .t (tS Pv.encI l)), (4, .ptr 4 0), (8, .ptr 8 0), (11, .ptr 11 0), (45, .ptr 4 1), (47, .t (tI i)), (50, .t (tS enc_SConfig v3.Configs)), (51, .t (tI i))], [(4, .box (x7_1 v3)), (8, .box x7_0), (11, .box x7_2), (2352, .rs 41 7 v3.L enc_SFault)]⟩) ?_ fun A_9 => ?_
              · refine TieA.all [1, 7] (by kernel_rfl) rfl (AllA.run _ rfl rfl rfl ?_ ?_)
                · refine TieA.idx 3 _ hx2 rfl rfl rfl rfl rfl rfl (by kernel_rfl) (by kernel_rfl) (by kernel_rfl) rfl rfl rfl rfl rfl rfl (.mv 10 rfl (.inr rfl) rfl (by kernel_rfl) rfl (.all [7] (by kernel_rfl) rfl (AllA.cons _ rfl rfl ?_ A_5 ?_)))
                  · exact TieO.indexH hx3 rfl rfl rfl rfl rfl rfl rfl rfl (fun _ => rfl) (.nil (TieS.leaf ⟨rfl, .of rfl rfl⟩))
                  exact AllA.nil
                refine AllA.cons _ rfl rfl ?_ A_8 ?_
                · exact TieO.indexH hx3 rfl rfl rfl rfl rfl rfl rfl rfl (fun _ => rfl) (.nil (TieS.leaf ⟨rfl, .of rfl rfl⟩))
                exact AllA.nil
              refine TieA.fP 0 rfl rfl rfl (by kernel_rfl) rfl rfl rfl (.mv 2 rfl (.inl rfl) rfl (by kernel_rfl) rfl (.fP 4 rfl rfl rfl (by kernel_rfl) rfl rfl rfl (.mv 6 rfl (.inl rfl) rfl (by kernel_rfl) rfl (.all [1, 5, 9] (by kernel_rfl) rfl ?_))))
              refine AllA.run _ rfl rfl rfl ?_ ?_
              · refine TieA.idx 3 _ hx2 rfl rfl rfl rfl rfl rfl (by kernel_rfl) (by kernel_rfl) (by kernel_rfl) rfl rfl rfl rfl rfl rfl (.all [5, 9] (by kernel_rfl) rfl (AllA.run _ rfl rfl rfl ?_ ?_))
                · refine TieA.all [7, 9] (by kernel_rfl) rfl (AllA.cons _ rfl rfl ?_ A_0 ?_)
                  · exact TieO.indexH hx3 rfl rfl rfl rfl rfl rfl rfl rfl (fun _ => rfl) (.nil (TieS.leaf ⟨rfl, .of rfl rfl⟩))
                  exact AllA.runTo _ rfl rfl rfl (.of rfl rfl) A_4 (AllA.nil)
                refine AllA.run _ rfl rfl rfl ?_ ?_
                · exact TieA.mv 10 rfl (.inr rfl) rfl (by kernel_rfl) rfl (.all [5] (by kernel_rfl) rfl (AllA.runTo _ rfl rfl rfl (.of rfl rfl) A_6 (AllA.nil)))
                exact AllA.nil
              refine AllA.run _ rfl rfl rfl ?_ ?_
              · refine TieA.all [1, 7, 9] (by kernel_rfl) rfl (AllA.run _ rfl rfl rfl ?_ ?_)
                · refine TieA.idx 3 _ hx2 rfl rfl rfl rfl rfl rfl (by kernel_rfl) (by kernel_rfl) (by kernel_rfl) rfl rfl rfl rfl rfl rfl (.all [7, 9] (by kernel_rfl) rfl (AllA.cons _ rfl rfl ?_ A_0 ?_))
                  · exact TieO.indexH hx3 rfl rfl rfl rfl rfl rfl rfl rfl (fun _ => rfl) (.nil (TieS.leaf ⟨rfl, .of rfl rfl⟩))
                  exact AllA.runTo _ rfl rfl rfl (.of rfl rfl) A_4 (AllA.nil)
                refine AllA.cons (σ₁ := ⟨[(2, .t (tB bad)), (3, .t (tS Pv.encI l)), (4, .ptr 4 0), (8, .ptr 8 0), (45, .ptr 4 1), (47, .t (tI i)), (52, .el (enc_SConfig x3))], [(4, .box (x7_1 v3)), (8, .box x7_0), (2352, .rs 41 7 v3.L enc_SFault)]⟩) _ rfl rfl ?_ ?_ ?_
                · exact TieO.indexH hx3 rfl rfl rfl rfl rfl rfl rfl rfl (fun _ => rfl) (.nil (TieS.leaf ⟨rfl, .of rfl rfl⟩))
                · refine TieA.all [1, 8, 9] (by kernel_rfl) rfl (AllA.run _ rfl rfl rfl ?_ ?_)
                  · exact TieA.idx 3 _ hx2 rfl rfl rfl rfl rfl rfl (by kernel_rfl) (by kernel_rfl) (by kernel_rfl) rfl rfl rfl rfl rfl rfl (.all [8, 9] (by kernel_rfl) rfl (AllA.runTo _ rfl rfl rfl (.of rfl rfl) A_1 (AllA.runTo _ rfl rfl rfl (.of rfl rfl) A_3 (AllA.nil))))
                  refine AllA.run _ rfl rfl rfl ?_ ?_
                  · refine TieA.all [1, 9] (by kernel_rfl) rfl (AllA.run _ rfl rfl rfl ?_ ?_)
                    · exact TieA.idx 3 _ hx2 rfl rfl rfl rfl rfl rfl (by kernel_rfl) (by kernel_rfl) (by kernel_rfl) rfl rfl rfl rfl rfl rfl (.all [9] (by kernel_rfl) rfl (AllA.runTo _ rfl rfl rfl (.of rfl rfl) A_2 (AllA.nil)))
                    exact AllA.runTo _ rfl rfl rfl (.of rfl rfl) A_7 (AllA.nil)
                  exact AllA.runTo _ rfl rfl rfl (.of rfl rfl) A_8 (AllA.nil)
                exact AllA.runTo _ rfl rfl rfl (.of rfl rfl) A_9 (AllA.nil)
              refine AllA.run _ rfl rfl rfl ?_ ?_
              · refine TieA.all [1, 5] (by kernel_rfl) rfl (AllA.run _ rfl rfl rfl ?_ ?_)
                · exact TieA.idx 3 _ hx2 rfl rfl rfl rfl rfl rfl (by kernel_rfl) (by kernel_rfl) (by kernel_rfl) rfl rfl rfl rfl rfl rfl (.mv 10 rfl (.inr rfl) rfl (by kernel_rfl) rfl (.all [5] (by kernel_rfl) rfl (AllA.runTo _ rfl rfl rfl (.of rfl rfl) A_6 (AllA.nil))))
                exact AllA.runTo _ rfl rfl rfl (.of rfl rfl) A_9 (AllA.nil)
              exact AllA.nil
            exact TieO.run 1 rfl (.nil (.leaf ⟨rfl, .of rfl rfl⟩))
          rintro f3 e σ' _ ⟨rfl, hs⟩
          refine TieX.sub hs (TieS.seq (.seq (.region (.run 1 rfl ?_))))
          refine TieO.nil (.bind (Q₁ := fun t e σ' => e = .normal ∧ Sub ⟨[(3, .t (tS Pv.encI l)), (4, .ptr 4 0), (8, .ptr 8 0), (10, .pe 2352 (Int.toNat i) 7 0), (11, .ptr 11 0)], [(4, .box (x7_1 v3)), (8, .box x7_0), (11, .box (x7_3 f3)), (2352, .rs 41 7 t enc_SFault)]⟩ σ') ?_ ?_)
          · refine TieS.cond rfl ?_ ?_
            · exact TieX.pre fun x4 hx4 => TieS.draw 12 [_, _, _, _, _, _, _, _, _, _, _, _] [(3, .t (tS Pv.encI l)), (4, .ptr 4 0), (8, .ptr 8 0), (10, .pe 2352 (Int.toNat i) 7 0), (11, .ptr 11 0)] [(4, .box (x7_1 v3)), (8, .box x7_0), (11, .box (x7_3 f3)), (2352, .rs 41 7 v3.L enc_SFault)] mixed (.of rfl rfl) rfl rfl rfl rfl (.cons (.quiet rfl rfl rfl) (.cons (.quiet rfl rfl rfl) (.cons (.quiet rfl rfl rfl) (.cons (.quiet rfl rfl rfl) (.cons (.quiet rfl rfl rfl) (.cons (.quiet rfl rfl rfl) (.cons (.loadY hx4 rfl rfl rfl rfl rfl rfl) (.cons (.quiet rfl rfl rfl) (.cons (.quiet rfl rfl rfl) (.cons (.quiet rfl rfl rfl) (.cons (.quiet rfl rfl rfl) (.cons (.quiet rfl rfl rfl) (.nil))))))))))))) (.storeY (u2_1 x4 (minI f3.Fail (w64 ((maxI x4.Count 0) + 1)))) [tI (minI f3.Fail (w64 ((maxI x4.Count 0) + 1)))] hx4 rfl rfl rfl rfl rfl rfl rfl rfl rfl rfl rfl rfl fun l2 hl2 => .nil (.leaf ⟨rfl, .of rfl rfl⟩))
            · exact TieX.pre fun x5 hx5 => TieS.draw 13 [_, _, _, _, _, _, _, _, _, _, _, _, _] [(3, .t (tS Pv.encI l)), (4, .ptr 4 0), (8, .ptr 8 0), (10, .pe 2352 (Int.toNat i) 7 0), (11, .ptr 11 0)] [(4, .box (x7_1 v3)), (8, .box x7_0), (11, .box (x7_3 f3)), (2352, .rs 41 7 v3.L enc_SFault)] mixed (.of rfl rfl) rfl rfl rfl rfl (.cons (.quiet rfl rfl rfl) (.cons (.quiet rfl rfl rfl) (.cons (.quiet rfl rfl rfl) (.cons (.quiet rfl rfl rfl) (.cons (.quiet rfl rfl rfl) (.cons (.quiet rfl rfl rfl) (.cons (.quiet rfl rfl rfl) (.cons (.loadY hx5 rfl rfl rfl rfl rfl rfl) (.cons (.quiet rfl rfl rfl) (.cons (.quiet rfl rfl rfl) (.cons (.quiet rfl rfl rfl) (.cons (.quiet rfl rfl rfl) (.cons (.quiet rfl rfl rfl) (.nil)))))))))))))) (.storeY (u2_1 x5 (maxI (w64 (0 - f3.Pass)) (w64 ((minI x5.Count 0) - 1)))) [tI (maxI (w64 (0 - f3.Pass)) (w64 ((minI x5.Count 0) - 1)))] hx5 rfl rfl rfl rfl rfl rfl rfl rfl rfl rfl rfl rfl fun l3 hl3 => .nil (.leaf ⟨rfl, .of rfl rfl⟩))
          rintro f4 e σ' _ ⟨rfl, hs⟩
          refine TieX.sub hs (TieS.seq (.seq (.region (.run 3 rfl ?_))))
          refine TieO.pre fun x6 hx6 => .loadY hx6 rfl rfl rfl rfl rfl rfl rfl rfl (.nil (.block (.seq ?_)))
          refine TieS.region (.run 4 rfl (.nil (.cond rfl ?_ ?_)))
          · refine TieS.region (.run 5 rfl (.callG [(1000000, 2352)] [] (fun v4 => ⟨[(3, .t (tS Pv.encI l)), (4, .ptr 4 0), (8, .ptr 8 0), (10, .pe 2352 (Int.toNat i) 7 0), (11, .ptr 11 0), (80, .pe 2352 (Int.toNat i) 7 0), (81, .pe 2352 (Int.toNat i) 7 0), (82, .pe 2352 (Int.toNat i) 7 1), (83, .t (tI x6.Count)), (84, .t (tB (x6.Count == f3.Fail))), (85, .ptr 11 1), (86, .t (tI f3.Fail)), (87, .t (tB (x6.Count == f3.Fail))), (88, .pe 2352 (Int.toNat i) 7 0), (89, .agg [.t (tI f3.Code), .t (tI f3.Fail), .t (tI f3.Pass), .t (tI f3.Heal), .t (tI f3.Age), .t (tI f3.Priority), .t (tB f3.Lamp), .t (tI f3.Frame)]), (90, .ptr 4 2), (91, .t (tI v3.Cycle)), (92, .t (tS Pv.encI l)), (93, .tup [])], [(4, .box (x7_1 v3)), (8, .box x7_0), (11, .box (x7_3 f3)), (2352, .rs 41 7 v4 enc_SFault)]⟩) (tie_fault_fails f4 i f3 v3.Cycle l) rfl rfl rfl rfl rfl rfl rfl (fun _ => rfl) (fun _ => rfl) (fun _ => rfl) (fun _ => .of rfl rfl) fun v4 hv4 => .nil (.endb ?_)))
            exact TieS.seq (.region (.run 3 rfl (.nil (.ret ⟨.inl rfl, rfl⟩))))
          · refine TieS.seq (.region (.run 5 rfl (.nil (.cond rfl ?_ ?_))))
            · refine TieS.seq (.region (.run 3 rfl (.loadY hx6 rfl rfl rfl rfl rfl rfl rfl rfl (.run 3 rfl ?_))))
              refine TieO.storeY (u2_0 x6 (bitOr .i64 x6.Status 8)) [tI (bitOr .i64 x6.Status 8)] hx6 rfl rfl rfl rfl rfl rfl rfl rfl rfl rfl rfl rfl fun l4 hl4 => .nil (.region (.run 3 rfl (.loadY (setM_get hl4) rfl rfl rfl rfl rfl rfl rfl rfl ?_)))
              refine TieO.run 3 rfl (.storeY (u2_0 x6 (bitAndNot .i64 (bitOr .i64 x6.Status 8) 1)) [tI (bitAndNot .i64 (bitOr .i64 x6.Status 8) 1)] (setM_get hl4) rfl rfl rfl rfl rfl rfl rfl rfl rfl rfl rfl rfl fun l5 hl5 => .nil (.endb (.seq ?_)))
              exact TieS.region (.run 3 rfl (.nil (.ret ⟨.inl rfl, rfl⟩)))
            · refine TieS.skip (.endb (.seq (.region (.run 3 rfl ?_))))
              exact TieO.nil (.ret ⟨.inl rfl, rfl⟩)
set_option maxRecDepth 100000 in
theorem tie_readiness_count_a2 (r2 : SReady) : TieG Try.prog 21 [.ptr 1000000 0, .ptr 1000000 2] [(1000000, .box [.t (tB r2.Done), .t (tB r2.Ran), .t (tI r2.Numerator), .t (tI r2.Denominator)])] (readiness_count_a2 r2) (fun _ => .tup []) (fun r => [(1000000, .box [.t (tB r.Done), .t (tB r.Ran), .t (tI r.Numerator), .t (tI r.Denominator)])]) := by
  refine TieG.intro htab 27 [] Try.call21 Try.func21 rfl rfl rfl (Nat.le_of_ble_eq_true rfl) fun w0 L => ?_
  refine TieS.seq (.seq (.region (.run 4 rfl (.nil ?_))))
  refine TieS.cond rfl ?_ ?_
  · refine TieS.seq (.region (.run 8 rfl (.nil (.region ?_))))
    refine TieO.run 8 rfl (.nil (.region (.run 6 rfl (.nil ?_))))
    exact TieS.leaf ⟨.inr rfl, ⟨[(1000000, 1000000)], _, _, rfl, rfl, rfl, rfl, rfl⟩⟩
  · exact TieS.skip (.region (.run 6 rfl (.nil (.leaf ⟨.inr rfl, ⟨[(1000000, 1000000)], _, _, rfl, rfl, rfl, rfl, rfl⟩⟩))))
set_option maxRecDepth 100000 in
theorem tie_readiness_Step (r2 : SReady) (began : Bool) (ran : Bool) : TieF Try.prog 8 [A_SReady r2, .t (tB began), .t (tB ran)] (readiness_Step r2 began ran) (fun r => .tup [A_SReady r.1, .t (tI r.2)]) := by
  refine TieF.intro htab 30 [.cell 6 43, .tmp 7] Try.call8 Try.func8 rfl rfl rfl (Nat.le_of_ble_eq_true rfl) fun w0 L => ?_
  refine TieS.seq (.region (.run 3 rfl (.nil (.seq ?_))))
  refine TieS.block (.seq (.region (.run 1 rfl (.call _ rfl rfl rfl (tie_readiness_Valid r2) (fun _ => rfl) fun v => ?_))))
  refine TieO.run 2 rfl (.nil (.cond rfl ?_ ?_))
  · exact TieS.seq (.region (.run 3 rfl (.nil (.ret ⟨.inl rfl, rfl⟩))))
  · refine TieS.seq (.region (.run 2 rfl (.selAnd (v := (!began)) 3 15 (fun b => ⟨[(2, .t (tB ran)), (3, .ptr 3 0), (6, .ptr 6 0), (18, .t (tB b))], [(3, .box [.t (tB r2.Done), .t (tB r2.Ran), .t (tI r2.Numerator), .t (tI r2.Denominator)]), (6, .box [.t (tB false), .t (tB false), .t (tI 0), .t (tI 0)])]⟩) rfl ?_ ?_ ?_)))
    · exact TieO.run 3 rfl (.nil (.leaf ⟨rfl, .of rfl rfl⟩))
    · exact TieO.run 3 rfl (.nil (.leaf ⟨rfl, .of rfl rfl⟩))
    refine TieO.run 1 rfl (.nil (.cond rfl ?_ ?_))
    · exact TieS.seq (.region (.run 3 rfl (.nil (.ret ⟨.inl rfl, rfl⟩))))
    · refine TieS.seq (.region (.run 2 rfl (.nil (.cond rfl ?_ ?_))))
      · refine TieS.seq (.seq (.region (.run 3 rfl (.nil ?_))))
        refine TieS.bind (Q₁ := fun t e σ' => e = .normal ∧ Sub ⟨[(3, .ptr 3 0), (6, .ptr 6 0)], [(3, .box [.t (tB t.Done), .t (tB t.Ran), .t (tI t.Numerator), .t (tI t.Denominator)]), (6, .box [.t (tB false), .t (tB false), .t (tI 0), .t (tI 0)])]⟩ σ') ?_ ?_
        · refine TieS.cond rfl ?_ ?_
          · exact TieS.region (.run 1 rfl (.callG [(1000000, 3)] [] (fun v2 => ⟨[(2, .t (tB ran)), (3, .ptr 3 0), (6, .ptr 6 0), (13, .t (tB (ran && (!began)))), (18, .t (tB (ran && (!began)))), (20, .t (tB ran)), (21, .t (tB ran)), (22, .ptr 3 1), (23, .t (tB r2.Ran)), (24, .t (tB (!r2.Ran))), (25, .ptr 3 2), (26, .tup [])], [(3, .box [.t (tB v2.Done), .t (tB v2.Ran), .t (tI v2.Numerator), .t (tI v2.Denominator)]), (6, .box [.t (tB false), .t (tB false), .t (tI 0), .t (tI 0)])]⟩) (tie_readiness_count_a2 r2) rfl rfl rfl rfl rfl rfl rfl (fun _ => rfl) (fun _ => rfl) (fun _ => rfl) (fun _ => .of rfl rfl) fun v2 hv2 => .nil (.leaf ⟨rfl, .of rfl rfl⟩)))
          · exact TieS.skip (.leaf ⟨rfl, .of rfl rfl⟩)
        rintro f2 e σ' _ ⟨rfl, hs⟩
        refine TieX.sub hs (TieS.region (.run 4 rfl (.nil (.endb ?_))))
        exact TieS.seq (.region (.run 3 rfl (.nil (.ret ⟨.inl rfl, rfl⟩))))
      · refine TieS.skip (.endb (.seq (.region (.run 3 rfl ?_))))
        exact TieO.nil (.ret ⟨.inl rfl, rfl⟩)
set_option maxRecDepth 100000 in
theorem tie_readiness_count_a3 (r2 : SReady) : TieG Try.prog 21 [.ptr 1000000 0, .ptr 1000000 3] [(1000000, .box [.t (tB r2.Done), .t (tB r2.Ran), .t (tI r2.Numerator), .t (tI r2.Denominator)])] (readiness_count_a3 r2) (fun _ => .tup []) (fun r => [(1000000, .box [.t (tB r.Done), .t (tB r.Ran), .t (tI r.Numerator), .t (tI r.Denominator)])]) := by
  refine TieG.intro htab 27 [] Try.call21 Try.func21 rfl rfl rfl (Nat.le_of_ble_eq_true rfl) fun w0 L => ?_
  refine TieS.seq (.seq (.region (.run 4 rfl (.nil ?_))))
  refine TieS.cond rfl ?_ ?_
  · refine TieS.seq (.region (.run 8 rfl (.nil (.region ?_))))
    refine TieO.run 8 rfl (.nil (.region (.run 6 rfl (.nil ?_))))
    exact TieS.leaf ⟨.inr rfl, ⟨[(1000000, 1000000)], _, _, rfl, rfl, rfl, rfl, rfl⟩⟩
  · exact TieS.skip (.region (.run 6 rfl (.nil (.leaf ⟨.inr rfl, ⟨[(1000000, 1000000)], _, _, rfl, rfl, rfl, rfl, rfl⟩⟩))))
set_option maxRecDepth 100000 in
theorem tie_readiness_Cycle (r2 : SReady) (general : Bool) : TieF Try.prog 9 [A_SReady r2, .t (tB general)] (readiness_Cycle r2 general) (fun r => .tup [A_SReady r.1, .t (tI r.2)]) := by
  refine TieF.intro htab 15 [.cell 4 43, .tmp 5] Try.call9 Try.func9 rfl rfl rfl (Nat.le_of_ble_eq_true rfl) fun w0 L => ?_
  refine TieS.seq (.region (.run 3 rfl (.nil (.seq ?_))))
  refine TieS.seq (.region (.run 1 rfl (.call _ rfl rfl rfl (tie_readiness_Valid r2) (fun _ => rfl) fun v => .run 1 rfl ?_)))
  refine TieO.nil (.cond rfl ?_ ?_)
  · exact TieS.seq (.region (.run 3 rfl (.nil (.ret ⟨.inl rfl, rfl⟩))))
  · refine TieS.skip (.seq (.seq (.region (.run 1 rfl ?_))))
    refine TieO.nil (.cond rfl ?_ ?_)
    · refine TieS.region (.run 1 rfl (.callG [(1000000, 2)] [] (fun v2 => ⟨[(0, .agg [.t (tB r2.Done), .t (tB r2.Ran), .t (tI r2.Numerator), .t (tI r2.Denominator)]), (1, .t (tB general)), (2, .ptr 2 0), (4, .ptr 4 0), (5, .t (tI 0)), (6, .agg [.t (tB r2.Done), .t (tB r2.Ran), .t (tI r2.Numerator), .t (tI r2.Denominator)]), (7, .t (tB v)), (8, .t (tB (!v))), (10, .t (tB general)), (11, .ptr 2 3), (12, .tup [])], [(2, .box [.t (tB v2.Done), .t (tB v2.Ran), .t (tI v2.Numerator), .t (tI v2.Denominator)]), (4, .box [.t (tB false), .t (tB false), .t (tI 0), .t (tI 0)])]⟩) (tie_readiness_count_a3 r2) rfl rfl rfl rfl rfl rfl rfl (fun _ => rfl) (fun _ => rfl) (fun _ => rfl) (fun _ => .of rfl rfl) fun v2 hv2 => .nil (.seq ?_)))
      refine TieS.region (.run 2 rfl (.nil (.seq (.region ?_))))
      exact TieO.run 3 rfl (.nil (.ret ⟨.inl rfl, rfl⟩))
    · refine TieS.skip (.seq (.region (.run 2 rfl (.nil ?_))))
      exact TieS.seq (.region (.run 3 rfl (.nil (.ret ⟨.inl rfl, rfl⟩))))
abbrev x10_0 : List T := [.t (.v (.slice none 0 0)), .t (.v (.slice none 0 0)), .t (tI 0), .t (tB false)]
abbrev x10_1 (v2 : SFaults) : List T := [.t (tS enc_SConfig v2.Configs), .own 2144, .t (tI v2.Cycle), .t (tB false)]
set_option maxRecDepth 100000 in
theorem tie_fault_End (f2 : SFaults) : TieF Try.prog 10 [A_SFaults f2] (fault_End f2) (fun r => .tup [A_SFaults r.1, .t (tI r.2)]) := by
  refine TieF.intro htab 108 [.cell 2 30, .tmp 3] Try.call10 Try.func10 rfl rfl rfl (Nat.le_of_ble_eq_true rfl) fun w0 L => ?_
  refine TieS.seq (.region (.run 3 rfl (.nil (.seq ?_))))
  refine TieS.block (.seq (.region (.run 1 rfl (.call _ rfl rfl rfl (tie_fault_Valid f2) (fun _ => rfl) fun v => ?_))))
  refine TieO.run 2 rfl (.nil (.cond rfl ?_ ?_))
  · exact TieS.seq (.region (.run 3 rfl (.nil (.ret ⟨.inl rfl, rfl⟩))))
  · refine TieS.seq (.region (.run 4 rfl (.nil (.cond rfl ?_ ?_))))
    · exact TieS.seq (.region (.run 3 rfl (.nil (.ret ⟨.inl rfl, rfl⟩))))
    · refine TieS.skip (.endb (.seq (.region (.run 1 rfl ?_))))
      refine TieO.callG [] [(900000, 2144)] (fun v2 => ⟨[(0, .agg [.t (tS enc_SConfig f2.Configs), .t (tS enc_SFault f2.L), .t (tI f2.Cycle), .t (tB f2.Running)]), (1, .ptr 1 0), (2, .ptr 2 0), (3, .t (tI 0)), (7, .t (tB (!v))), (8, .agg [.t (tS enc_SConfig f2.Configs), .t (tS enc_SFault f2.L), .t (tI f2.Cycle), .t (tB f2.Running)]), (9, .t (tB v)), (10, .t (tB (!v))), (12, .t (tB (!f2.Running))), (13, .ptr 1 3), (14, .t (tB f2.Running)), (15, .t (tB (!f2.Running))), (17, .agg [.t (tS enc_SConfig f2.Configs), .t (tS enc_SFault f2.L), .t (tI f2.Cycle), .t (tB f2.Running)]), (18, .agg [.t (tS enc_SConfig v2.Configs), .own 2144, .t (tI v2.Cycle), .t (tB v2.Running)])], [(1, .box [.t (tS enc_SConfig f2.Configs), .t (tS enc_SFault f2.L), .t (tI f2.Cycle), .t (tB f2.Running)]), (2, .box x10_0), (2144, .rs 41 7 v2.L enc_SFault)]⟩) (tie_fault_copied f2) rfl rfl rfl rfl rfl rfl rfl (fun _ => rfl) (fun _ => rfl) (fun _ => rfl) (fun _ => .of rfl rfl) fun v2 hv2 => .run 1 rfl (.nil (.seq (.region ?_)))
      refine TieO.run 2 rfl (.nil (.seq (.seq (.region ?_))))
      refine TieO.run 4 rfl (.nil (.block (.loop (fun p => ⟨[(1, .ptr 1 0), (2, .ptr 2 0), (22, .t (tI (v2.L.length : Int))), (23, .t (tI p.1))], [(1, .box (x10_1 v2)), (2, .box x10_0), (2144, .rs 41 7 p.2 enc_SFault)]⟩) (fun b e σ' => match b with | .inl t => e = .exit 1 ∧ Sub ⟨[(1, .ptr 1 0), (2, .ptr 2 0)], [(1, .box (x10_1 v2)), (2, .box x10_0), (2144, .rs 41 7 t enc_SFault)]⟩ σ' | .inr t => False) (.of rfl rfl) ?_ ?_)))
      · rintro ⟨i, f3⟩
        refine TieS.seq (.region (.run 1 rfl (.nil (.seq ?_))))
        refine TieS.cond rfl ?_ ?_
        · refine TieS.skip (.seq (TieX.sub (σ' := ⟨[(1, .ptr 1 0), (2, .ptr 2 0), (22, .t (tI (v2.L.length : Int))), (23, .t (tI i))], [(1, .box (x10_1 v2)), (2, .box x10_0), (2144, .rs 41 7 f3 enc_SFault)]⟩) (.of rfl rfl) (TieS.bind (Q₁ := fun f e σ' => match f with | .next t => e = .normal ∧ Sub ⟨[(1, .ptr 1 0), (2, .ptr 2 0), (22, .t (tI (v2.L.length : Int))), (23, .t (tI i))], [(1, .box (x10_1 v2)), (2, .box x10_0), (2144, .rs 41 7 t enc_SFault)]⟩ σ' | .brk t => e = .exit 1 ∧ Sub ⟨[(1, .ptr 1 0), (2, .ptr 2 0)], [(1, .box (x10_1 v2)), (2, .box x10_0), (2144, .rs 41 7 t enc_SFault)]⟩ σ' | .ret r => False) ?_ ?_)))
          · refine TieS.block (.seq (.region (.run 2 rfl (.nil ?_))))
            refine TieS.seq (.region (.run 3 rfl (.indexO rfl rfl rfl rfl rfl rfl rfl rfl rfl rfl fun x hx => .run 1 rfl ?_)))
            refine TieO.nil (.seq (.seq (.bind (Q₁ := fun t e σ' => e = .normal ∧ Sub ⟨[(1, .ptr 1 0), (2, .ptr 2 0), (4, .t (tI i)), (5, .pe 2144 (Int.toNat i) 7 0), (22, .t (tI (v2.L.length : Int))), (23, .t (tI i)), (43, .t (tB t))], [(1, .box (x10_1 v2)), (2, .box x10_0), (2144, .rs 41 7 f3 enc_SFault)]⟩ σ') ?_ ?_)))
            · refine TieX.pre fun v3 hv3 => TieX.split (fun hg => ?_) (fun hg2 => ?_)
              · exact TieS.draw 14 [_, _, _, _, _, _, _, _, _, _, _, _, _, _] [(1, .ptr 1 0), (2, .ptr 2 0), (4, .t (tI i)), (5, .pe 2144 (Int.toNat i) 7 0), (22, .t (tI (v2.L.length : Int))), (23, .t (tI i))] [(1, .box (x10_1 v2)), (2, .box x10_0), (2144, .rs 41 7 f3 enc_SFault)] mixed (.of rfl rfl) rfl rfl rfl rfl (.cons (.quiet rfl rfl rfl) (.cons (.quiet rfl rfl rfl) (.cons (.loadY hx rfl rfl rfl rfl rfl rfl) (.cons (.callV (tie_fault_has x 8) hv3 rfl rfl rfl rfl) (.cons (.quiet rfl rfl rfl) (.cons (.cast (congrArg T.B hg) (.quiet rfl rfl rfl)) (.cons (.skip rfl) (.cons (.skip rfl) (.cons (.skip rfl) (.cons (.skip rfl) (.cons (.skip rfl) (.cons (.skip rfl) (.cons (.skip rfl) (.cons (.quiet rfl rfl rfl) (.nil))))))))))))))) (.nil (.leaf ⟨rfl, .of rfl rfl⟩))
              · exact TieS.draw 14 [_, _, _, _, _, _, _, _, _, _, _, _, _, _] [(1, .ptr 1 0), (2, .ptr 2 0), (4, .t (tI i)), (5, .pe 2144 (Int.toNat i) 7 0), (22, .t (tI (v2.L.length : Int))), (23, .t (tI i))] [(1, .box (x10_1 v2)), (2, .box x10_0), (2144, .rs 41 7 f3 enc_SFault)] mixed (.of rfl rfl) rfl rfl rfl rfl (.cons (.quiet rfl rfl rfl) (.cons (.quiet rfl rfl rfl) (.cons (.loadY hx rfl rfl rfl rfl rfl rfl) (.cons (.callV (tie_fault_has x 8) hv3 rfl rfl rfl rfl) (.cons (.quiet rfl rfl rfl) (.cons (.cast (congrArg T.B hg2) (.quiet rfl rfl rfl)) (.cons (.quiet rfl rfl rfl) (.cons (.quiet rfl rfl rfl) (.cons (.quiet rfl rfl rfl) (.cons (.loadY hx rfl rfl rfl rfl rfl rfl) (.cons (.quiet rfl rfl rfl) (.cons (.quiet rfl rfl rfl) (.cons (.quiet rfl rfl rfl) (.cons (.quiet rfl rfl rfl) (.nil))))))))))))))) (.nil (.leaf ⟨rfl, .of rfl rfl⟩))
            rintro v4 e σ' _ ⟨rfl, hs⟩
            refine TieX.sub hs (TieS.cond rfl ?_ ?_)
            · exact TieS.exit rfl (.leaf ⟨rfl, .of rfl rfl⟩)
            · refine TieS.skip (.seq (.region (.run 3 rfl (.loadY hx rfl rfl rfl rfl rfl rfl rfl rfl ?_))))
              refine TieO.run 3 rfl (.storeY (u2_0 x (bitAndNot .i64 x.Status 2)) [tI (bitAndNot .i64 x.Status 2)] hx rfl rfl rfl rfl rfl rfl rfl rfl rfl rfl rfl rfl fun l hl => .nil (.seq (.region ?_)))
              refine TieO.run 2 rfl (.loadY (setM_get hl) rfl rfl rfl rfl rfl rfl rfl rfl (.call _ rfl rfl rfl (tie_fault_has (u2_0 x (bitAndNot .i64 x.Status 2)) 4) (fun _ => rfl) fun v5 => .run 2 rfl (.nil ?_)))
              refine TieS.seq (.seq (.region (.run 2 rfl (.nil ?_))))
              refine TieS.bind (Q₁ := fun t e σ' => e = .normal ∧ Sub ⟨[(1, .ptr 1 0), (2, .ptr 2 0), (4, .t (tI i)), (5, .pe 2144 (Int.toNat i) 7 0), (6, .t (tB (!v5))), (22, .t (tI (v2.L.length : Int))), (23, .t (tI i))], [(1, .box (x10_1 v2)), (2, .box x10_0), (2144, .rs 41 7 t enc_SFault)]⟩ σ') ?_ ?_
              · refine TieS.cond rfl ?_ ?_
                · refine TieS.region (.run 3 rfl (.loadY (setM_get hl) rfl rfl rfl rfl rfl rfl rfl rfl (.run 3 rfl (.storeY (u2_3 (u2_0 x (bitAndNot .i64 x.Status 2)) (w64 (x.Clean + 1))) [tI (w64 (x.Clean + 1))] (setM_get hl) rfl rfl rfl rfl rfl rfl rfl rfl rfl rfl rfl rfl fun l2 hl2 => ?_))))
                  exact TieO.nil (.leaf ⟨rfl, .of rfl rfl⟩)
                · exact TieS.skip (.leaf ⟨rfl, .of rfl rfl⟩)
              rintro f4 e σ' _ ⟨rfl, hs⟩
              refine TieX.sub hs (TieS.block (.seq (.bind (Q₁ := fun t e σ' => e = .normal ∧ Sub ⟨[(1, .ptr 1 0), (2, .ptr 2 0), (4, .t (tI i)), (5, .pe 2144 (Int.toNat i) 7 0), (22, .t (tI (v2.L.length : Int))), (23, .t (tI i)), (65, .t (tB t))], [(1, .box (x10_1 v2)), (2, .box x10_0), (2144, .rs 41 7 f4 enc_SFault)]⟩ σ') ?_ ?_)))
              · refine TieX.split (fun hg3 => ?_) (fun hg4 => ?_)
                · exact TieS.draw 15 [_, _, _, _, _, _, _, _, _, _, _, _, _, _, _] [(1, .ptr 1 0), (2, .ptr 2 0), (4, .t (tI i)), (5, .pe 2144 (Int.toNat i) 7 0), (6, .t (tB (!v5))), (22, .t (tI (v2.L.length : Int))), (23, .t (tI i))] [(1, .box (x10_1 v2)), (2, .box x10_0), (2144, .rs 41 7 f4 enc_SFault)] mixed (.of rfl rfl) rfl rfl rfl rfl (.cons (.quiet rfl rfl rfl) (.cons (.cast (congrArg T.B hg3) (.quiet rfl rfl rfl)) (.cons (.skip rfl) (.cons (.skip rfl) (.cons (.skip rfl) (.cons (.skip rfl) (.cons (.skip rfl) (.cons (.skip rfl) (.cons (.skip rfl) (.cons (.skip rfl) (.cons (.skip rfl) (.cons (.skip rfl) (.cons (.skip rfl) (.cons (.quiet rfl rfl rfl) (.cons (.quiet rfl rfl rfl) (.nil)))))))))))))))) (.nil (.leaf ⟨rfl, .of rfl rfl⟩))
                · exact TieX.pre fun x2 hx2 => TieX.pre fun x3 hx3 => TieS.draw 15 [_, _, _, _, _, _, _, _, _, _, _, _, _, _, _] [(1, .ptr 1 0), (2, .ptr 2 0), (4, .t (tI i)), (5, .pe 2144 (Int.toNat i) 7 0), (6, .t (tB (!v5))), (22, .t (tI (v2.L.length : Int))), (23, .t (tI i))] [(1, .box (x10_1 v2)), (2, .box x10_0), (2144, .rs 41 7 f4 enc_SFault)] mixed (.of rfl rfl) rfl rfl rfl rfl (.cons (.quiet rfl rfl rfl) (.cons (.cast (congrArg T.B hg4) (.quiet rfl rfl rfl)) (.cons (.quiet rfl rfl rfl) (.cons (.quiet rfl rfl rfl) (.cons (.quiet rfl rfl rfl) (.cons (.loadY hx2 rfl rfl rfl rfl rfl rfl) (.cons (.quiet rfl rfl rfl) (.cons (.quiet rfl rfl rfl) (.cons (.quiet rfl rfl rfl) (.cons (.index hx3 rfl rfl rfl rfl rfl rfl (fun _ => rfl)) (.cons (.quiet rfl rfl rfl) (.cons (.quiet rfl rfl rfl) (.cons (.quiet rfl rfl rfl) (.cons (.quiet rfl rfl rfl) (.cons (.quiet rfl rfl rfl) (.nil)))))))))))))))) (.nil (.leaf ⟨rfl, .of rfl rfl⟩))
              rintro v6 e σ' _ ⟨rfl, hs⟩
              refine TieX.sub hs (TieS.cond rfl ?_ ?_)
              · refine TieS.region (.run 4 rfl (.pre fun x4 hx4 => .loadY hx4 rfl rfl rfl rfl rfl rfl rfl rfl (.run 2 rfl ?_)))
                exact TieO.storeY (⟨8, x4.Count, 0, 0, 0, ([] : List Int), 0⟩ : SFault) [tI 8, tI x4.Count, tI 0, tI 0, tI 0, tS Pv.encI ([] : List Int), tI 0] hx4 rfl rfl rfl rfl rfl rfl rfl rfl rfl rfl rfl rfl fun l3 hl3 => .nil (.endb (.endb (.leaf ⟨rfl, .of rfl rfl⟩)))
              · refine TieS.seq (TieX.pre fun x5 hx5 => TieX.pre fun x6 hx6 => TieS.draw 12 [_, _, _, _, _, _, _, _, _, _, _, _] [(1, .ptr 1 0), (2, .ptr 2 0), (4, .t (tI i)), (5, .pe 2144 (Int.toNat i) 7 0), (22, .t (tI (v2.L.length : Int))), (23, .t (tI i))] [(1, .box (x10_1 v2)), (2, .box x10_0), (2144, .rs 41 7 f4 enc_SFault)] mixed (.of rfl rfl) rfl rfl rfl rfl (.cons (.quiet rfl rfl rfl) (.cons (.quiet rfl rfl rfl) (.cons (.quiet rfl rfl rfl) (.cons (.loadY hx5 rfl rfl rfl rfl rfl rfl) (.cons (.quiet rfl rfl rfl) (.cons (.quiet rfl rfl rfl) (.cons (.quiet rfl rfl rfl) (.cons (.index hx6 rfl rfl rfl rfl rfl rfl (fun _ => rfl)) (.cons (.quiet rfl rfl rfl) (.cons (.quiet rfl rfl rfl) (.cons (.quiet rfl rfl rfl) (.cons (.quiet rfl rfl rfl) (.nil))))))))))))) (.nil ?_))
                refine TieS.cond rfl ?_ ?_
                · refine TieS.region (.run 3 rfl (.loadY hx5 rfl rfl rfl rfl rfl rfl rfl rfl (.run 3 rfl (.storeY (u2_0 x5 (bitAndNot .i64 x5.Status 16)) [tI (bitAndNot .i64 x5.Status 16)] hx5 rfl rfl rfl rfl rfl rfl rfl rfl rfl rfl rfl rfl fun l4 hl4 => ?_))))
                  exact TieO.nil (.endb (.endb (.leaf ⟨rfl, .of rfl rfl⟩)))
                · exact TieS.skip (.endb (.endb (.leaf ⟨rfl, .of rfl rfl⟩)))
          rintro (t | t | r) e σ' _ hq
          · obtain ⟨rfl, hs⟩ := hq
            exact TieX.sub hs (TieS.region (.run 2 rfl (.nil (.leaf ⟨rfl, .of rfl rfl⟩))))
          · obtain ⟨rfl, hs⟩ := hq
            exact TieX.exitOut rfl ⟨(fun h => by cases h), rfl, hs⟩
          · exact hq.elim
        · exact TieS.exitOut rfl ⟨(fun h => by cases h), rfl, .of rfl rfl⟩
      rintro (f5 | r) e σ' _ hq
      · obtain ⟨rfl, hs⟩ := hq
        refine TieX.exit rfl (TieX.sub hs ?_)
        exact TieS.seq (.region (.run 3 rfl (.nil (.ret ⟨.inl rfl, rfl⟩))))
      · exact hq.elim
set_option maxRecDepth 100000 in
theorem tie_readiness_Clear (l : List SReady) : TieF Try.prog 11 [.t (tS enc_SReady l)] (readiness_Clear l) (fun r => .t (tS enc_SReady r)) := by
  refine TieF.intro htab 20 [.tmp 2] Try.call11 Try.func11 rfl rfl rfl (Nat.le_of_ble_eq_true rfl) fun w0 L => ?_
  refine TieS.seq (.region (.run 1 rfl (.nil (.seq ?_))))
  refine TieS.region (.run 1 rfl (.nil (.seq (.seq ?_))))
  refine TieS.region (.run 3 rfl (.nil (.block (TieX.nilP 3 2136 43 4 [] rfl rfl rfl rfl rfl ?_))))
  refine TieS.loop (fun p => ⟨[(3, .own 2136), (6, .t (tS enc_SReady l)), (7, .t (tI (l.length : Int))), (8, .t (tI p.1))], [(2136, .rs 43 4 p.2 enc_SReady)]⟩) (fun b e σ' => match b with | .inl t => e = .exit 0 ∧ Sub ⟨[(3, .own 2136)], [(2136, .rs 43 4 t enc_SReady)]⟩ σ' | .inr t => False) (.of rfl rfl) ?_ ?_
  · rintro ⟨i, out⟩
    refine TieS.seq (.region (.run 1 rfl (.nil (.seq ?_))))
    refine TieS.cond rfl ?_ ?_
    · refine TieS.skip (.seq (TieX.pre fun x hx => TieX.sub (σ' := ⟨[(3, .own 2136), (6, .t (tS enc_SReady l)), (7, .t (tI (l.length : Int))), (8, .t (tI i))], [(2136, .rs 43 4 out enc_SReady)]⟩) (.of rfl rfl) (TieS.bind (Q₁ := fun f e σ' => match f with | .next t => e = .normal ∧ Sub ⟨[(3, .own 2136), (6, .t (tS enc_SReady l)), (7, .t (tI (l.length : Int))), (8, .t (tI i))], [(2136, .rs 43 4 t enc_SReady)]⟩ σ' | .brk t => e = .exit 0 ∧ Sub ⟨[(3, .own 2136)], [(2136, .rs 43 4 t enc_SReady)]⟩ σ' | .ret r => False) ?_ ?_)))
      · refine TieS.block (.seq (.region (.indexH hx rfl rfl rfl rfl rfl rfl rfl rfl (fun _ => rfl) (.run 3 rfl ?_))))
        refine TieO.nil (.seq (.region (.run 4 rfl (.nil ?_))))
        refine TieS.region (.run 3 rfl (.appendY (id := 2136) (l := out) (r := ([(u1_1 (u1_0 x false) false)] : List SReady)) (tm' := [(5, .ptr 5 0), (6, .t (tS enc_SReady l)), (7, .t (tI (l.length : Int))), (8, .t (tI i)), (10, .el (enc_SReady x)), (11, .agg [.t (tB x.Done), .t (tB x.Ran), .t (tI x.Numerator), .t (tI x.Denominator)]), (12, .ptr 5 0), (13, .ptr 5 1), (15, .agg [.t (tB false), .t (tB false), .t (tI x.Numerator), .t (tI x.Denominator)]), (16, .own 16)]) (hp' := [(5, .box [.t (tB false), .t (tB false), .t (tI x.Numerator), .t (tI x.Denominator)]), (16, .rs 43 4 ([(u1_1 (u1_0 x false) false)] : List SReady) enc_SReady)]) rfl rfl rfl rfl rfl rfl rfl (fun _ => rfl) (fun _ => rfl) (.inl ⟨rfl, rfl⟩) (.inr ⟨_, rfl, rfl⟩) (.of rfl rfl) rfl rfl rfl fun l2 => .run 1 rfl (.nil ?_)))
        exact TieS.endb (.leaf ⟨rfl, .of rfl rfl⟩)
      rintro (t | t | r) e σ' _ hq
      · obtain ⟨rfl, hs⟩ := hq
        exact TieX.sub hs (TieS.region (.run 2 rfl (.nil (.leaf ⟨rfl, .of rfl rfl⟩))))
      · obtain ⟨rfl, hs⟩ := hq
        exact TieX.exitOut rfl ⟨(fun h => by cases h), rfl, hs⟩
      · exact hq.elim
    · exact TieS.exitOut rfl ⟨(fun h => by cases h), rfl, .of rfl rfl⟩
  rintro (out2 | r) e σ' _ hq
  · obtain ⟨rfl, hs⟩ := hq
    refine TieX.exit rfl (TieX.sub hs ?_)
    exact TieS.seq (.region (.run 2 rfl (.nil (.ret ⟨.inl rfl, rfl⟩))))
  · exact hq.elim
abbrev x3_0 (s2 : SFaults × List SReady) : List T := [.t (tS enc_SConfig s2.1.Configs), .t (tS enc_SFault s2.1.L), .t (tI s2.1.Cycle), .t (tB s2.1.Running)]
abbrev x3_1 (s4 : SFaults × List SReady) : List T := [.t (tS enc_SConfig s4.1.Configs), .t (tS enc_SFault s4.1.L), .t (tI s4.1.Cycle), .t (tB s4.1.Running)]
abbrev x3_2 (x9 : SReady) : List T := [.t (tB x9.Done), .t (tB x9.Ran), .t (tI x9.Numerator), .t (tI x9.Denominator)]
set_option maxRecDepth 100000 in
set_option maxHeartbeats 4000000 in
theorem tie_magnetotop_TopReadiness (l : List SConfig) (cycles : List (List Int)) : TieF Try.prog 3 [.t (tS enc_SConfig l), .t (tS (Pv.encS enc_u8) cycles)] (magnetotop_TopReadiness l cycles) (fun r => .t (tB r)) := by
  refine TieF.intro htab 267 [.tmp 4] Try.call3 Try.func3 rfl rfl rfl (Nat.le_of_ble_eq_true rfl) fun w0 L => ?_
  refine TieS.seq (.region (.run 1 rfl (.nil (.seq ?_))))
  refine TieS.seq (.region (.makeO (enc := enc_SReady) 2200 (⟨false, false, 0, 0⟩ : SReady) rfl rfl rfl rfl rfl rfl rfl rfl rfl rfl rfl rfl rfl fun l2 hl2 => .callS _ rfl rfl rfl (tie_readiness_Code l2) (fun _ => rfl) (fun _ => rfl) fun r2 => .run 5 rfl ?_))
  refine TieO.nil (.seq (.region (.run 3 rfl (.selOr (v := (r2.1 != 7)) 3 31 (fun b => ⟨[(0, .t (tS enc_SConfig l)), (1, .t (tS (Pv.encS enc_u8) cycles)), (34, .t (tB b))], []⟩) rfl ?_ ?_ ?_))))
  · exact TieO.run 3 rfl (.nil (.leaf ⟨rfl, .of rfl rfl⟩))
  · exact TieO.run 3 rfl (.nil (.leaf ⟨rfl, .of rfl rfl⟩))
  refine TieO.nil (.cond rfl ?_ ?_)
  · exact TieS.seq (.region (.run 1 rfl (.nil (.ret ⟨.inl rfl, rfl⟩))))
  · refine TieS.skip (.seq (.seq (.region (.run 4 rfl ?_))))
    refine TieO.selOr (v := decide ((l.length : Int) > 16)) 4 38 (fun b => ⟨[(0, .t (tS enc_SConfig l)), (1, .t (tS (Pv.encS enc_u8) cycles)), (42, .t (tB b))], []⟩) rfl ?_ ?_ ?_
    · exact TieO.run 4 rfl (.nil (.leaf ⟨rfl, .of rfl rfl⟩))
    · exact TieO.run 4 rfl (.nil (.leaf ⟨rfl, .of rfl rfl⟩))
    refine TieO.run 1 rfl (.selOr (v := decide ((cycles.length : Int) > 30)) 4 43 (fun b => ⟨[(0, .t (tS enc_SConfig l)), (1, .t (tS (Pv.encS enc_u8) cycles)), (47, .t (tB b))], []⟩) rfl ?_ ?_ ?_)
    · exact TieO.run 4 rfl (.nil (.leaf ⟨rfl, .of rfl rfl⟩))
    · exact TieO.run 4 rfl (.nil (.leaf ⟨rfl, .of rfl rfl⟩))
    refine TieO.nil (.cond rfl ?_ ?_)
    · exact TieS.seq (.region (.run 1 rfl (.nil (.ret ⟨.inl rfl, rfl⟩))))
    · refine TieS.skip (.seq (.region (.run 1 rfl (.call _ rfl rfl rfl (tie_fault_New l) (fun _ => rfl) fun r3 => ?_))))
      refine TieO.run 6 rfl (.nil (.seq (.seq (.region ?_))))
      refine TieO.run 2 rfl (.nil (.cond rfl ?_ ?_))
      · exact TieS.seq (.region (.run 5 rfl (.nil (.ret ⟨.inl rfl, rfl⟩))))
      · refine TieS.skip (.seq (.region (.run 2 rfl (.makeO (enc := enc_SReady) 2488 (⟨false, false, 0, 0⟩ : SReady) rfl rfl rfl rfl rfl rfl rfl rfl rfl rfl rfl rfl rfl fun l3 hl3 => ?_))))
        refine TieO.run 1 rfl (.nil (.seq (.region (.run 2 rfl ?_))))
        refine TieO.makeO (enc := Pv.encI) 2512 0 rfl rfl rfl rfl rfl rfl rfl rfl rfl rfl rfl rfl rfl fun l4 hl4 => .run 1 rfl (.nil (.seq (.seq ?_)))
        refine TieS.region (.run 3 rfl (.nil (.block (.loop (fun p => ⟨[(0, .t (tS enc_SConfig l)), (1, .t (tS (Pv.encS enc_u8) cycles)), (7, .ptr 7 0), (9, .own 2488), (10, .own 2512), (65, .t (tS (Pv.encS enc_u8) cycles)), (66, .t (tI (cycles.length : Int))), (67, .t (tI p.1))], [(7, .box [.t (tS enc_SConfig p.2.1.Configs), .t (tS enc_SFault p.2.1.L), .t (tI p.2.1.Cycle), .t (tB p.2.1.Running)]), (2488, .rs 43 4 p.2.2.1 enc_SReady), (2512, .rs 3 1 p.2.2.2 Pv.encI)]⟩) (fun b e σ' => match b with | .inl t => e = .exit 0 ∧ Sub ⟨[(0, .t (tS enc_SConfig l)), (1, .t (tS (Pv.encS enc_u8) cycles)), (9, .own 2488), (10, .own 2512)], [(2488, .rs 43 4 t.2.1 enc_SReady), (2512, .rs 3 1 t.2.2 Pv.encI)]⟩ σ' | .inr t => e = .ret ∧ retT tab σ' [.tmp 4] = some (((fun r => .t (tB r)) : Bool → T) t)) (.of rfl rfl) ?_ ?_))))
        · rintro ⟨i, s⟩
          refine TieS.seq (.region (.run 1 rfl (.nil (.seq ?_))))
          refine TieS.cond rfl ?_ ?_
          · refine TieS.skip (.seq (TieX.pre fun x hx => TieX.sub (σ' := ⟨[(0, .t (tS enc_SConfig l)), (1, .t (tS (Pv.encS enc_u8) cycles)), (7, .ptr 7 0), (9, .own 2488), (10, .own 2512), (65, .t (tS (Pv.encS enc_u8) cycles)), (66, .t (tI (cycles.length : Int))), (67, .t (tI i))], [(7, .box [.t (tS enc_SConfig s.1.Configs), .t (tS enc_SFault s.1.L), .t (tI s.1.Cycle), .t (tB s.1.Running)]), (2488, .rs 43 4 s.2.1 enc_SReady), (2512, .rs 3 1 s.2.2 Pv.encI)]⟩) (.of rfl rfl) (TieS.bind (Q₁ := fun f e σ' => match f with | .next t => e = .normal ∧ Sub ⟨[(0, .t (tS enc_SConfig l)), (1, .t (tS (Pv.encS enc_u8) cycles)), (7, .ptr 7 0), (9, .own 2488), (10, .own 2512), (65, .t (tS (Pv.encS enc_u8) cycles)), (66, .t (tI (cycles.length : Int))), (67, .t (tI i))], [(7, .box [.t (tS enc_SConfig t.1.Configs), .t (tS enc_SFault t.1.L), .t (tI t.1.Cycle), .t (tB t.1.Running)]), (2488, .rs 43 4 t.2.1 enc_SReady), (2512, .rs 3 1 t.2.2 Pv.encI)]⟩ σ' | .brk t => e = .exit 0 ∧ Sub ⟨[(0, .t (tS enc_SConfig l)), (1, .t (tS (Pv.encS enc_u8) cycles)), (9, .own 2488), (10, .own 2512)], [(2488, .rs 43 4 t.2.1 enc_SReady), (2512, .rs 3 1 t.2.2 Pv.encI)]⟩ σ' | .ret t => e = .ret ∧ retT tab σ' [.tmp 4] = some (((fun r => .t (tB r)) : Bool → T) t)) ?_ ?_)))
            · refine TieS.block (.seq (.region (.indexH hx rfl rfl rfl rfl rfl rfl rfl rfl (fun _ => rfl) (.run 2 rfl ?_))))
              refine TieO.nil (.seq (.seq (.region (.run 3 rfl ?_))))
              refine TieO.nil (.cond rfl ?_ ?_)
              · exact TieS.seq (.region (.run 1 rfl (.nil (.ret ⟨rfl, rfl⟩))))
              · refine TieS.skip (.seq (.seq (.region (.run 1 rfl ?_))))
                refine TieO.call _ rfl rfl rfl (tie_fault_Begin s.1) (fun _ => rfl) fun r4 => .run 5 rfl (.nil (.seq (.region ?_)))
                refine TieO.run 3 rfl (.selOr (v := ((r4.1.L.length : Int) != (l.length : Int))) 7 81 (fun b => ⟨[(0, .t (tS enc_SConfig l)), (1, .t (tS (Pv.encS enc_u8) cycles)), (7, .ptr 7 0), (9, .own 2488), (10, .own 2512), (12, .t (tS enc_u8 x)), (65, .t (tS (Pv.encS enc_u8) cycles)), (66, .t (tI (cycles.length : Int))), (67, .t (tI i)), (88, .t (tB b))], [(7, .box [.t (tS enc_SConfig r4.1.Configs), .t (tS enc_SFault r4.1.L), .t (tI r4.1.Cycle), .t (tB r4.1.Running)]), (2488, .rs 43 4 s.2.1 enc_SReady), (2512, .rs 3 1 s.2.2 Pv.encI)]⟩) rfl ?_ ?_ ?_)
                · exact TieO.run 7 rfl (.nil (.leaf ⟨rfl, .of rfl rfl⟩))
                · exact TieO.run 7 rfl (.nil (.leaf ⟨rfl, .of rfl rfl⟩))
                refine TieO.nil (.cond rfl ?_ ?_)
                · exact TieS.seq (.region (.run 1 rfl (.nil (.ret ⟨rfl, rfl⟩))))
                · refine TieS.skip (.seq (.seq (.region (.run 3 rfl ?_))))
                  refine TieO.nil (.block (.loop (fun p => ⟨[(0, .t (tS enc_SConfig l)), (1, .t (tS (Pv.encS enc_u8) cycles)), (7, .ptr 7 0), (9, .own 2488), (10, .own 2512), (65, .t (tS (Pv.encS enc_u8) cycles)), (66, .t (tI (cycles.length : Int))), (67, .t (tI i)), (89, .t (tS enc_u8 x)), (90, .t (tI (x.length : Int))), (91, .t (tI p.1))], [(7, .box [.t (tS enc_SConfig p.2.1.Configs), .t (tS enc_SFault p.2.1.L), .t (tI p.2.1.Cycle), .t (tB p.2.1.Running)]), (2488, .rs 43 4 p.2.2 enc_SReady), (2512, .rs 3 1 s.2.2 Pv.encI)]⟩) (fun b e σ' => match b with | .inl t => e = .exit 2 ∧ Sub ⟨[(0, .t (tS enc_SConfig l)), (1, .t (tS (Pv.encS enc_u8) cycles)), (7, .ptr 7 0), (9, .own 2488), (10, .own 2512), (65, .t (tS (Pv.encS enc_u8) cycles)), (66, .t (tI (cycles.length : Int))), (67, .t (tI i))], [(7, .box [.t (tS enc_SConfig t.1.Configs), .t (tS enc_SFault t.1.L), .t (tI t.1.Cycle), .t (tB t.1.Running)]), (2488, .rs 43 4 t.2 enc_SReady), (2512, .rs 3 1 s.2.2 Pv.encI)]⟩ σ' | .inr t => e = .ret ∧ retT tab σ' [.tmp 4] = some (((fun r => .t (tB r)) : Bool → T) t)) (.of rfl rfl) ?_ ?_))
                  · rintro ⟨i2, s2⟩
                    refine TieS.seq (.region (.run 1 rfl (.nil (.seq ?_))))
                    refine TieS.cond rfl ?_ ?_
                    · refine TieS.skip (.seq (TieX.pre fun x2 hx2 => TieX.sub (σ' := ⟨[(0, .t (tS enc_SConfig l)), (1, .t (tS (Pv.encS enc_u8) cycles)), (7, .ptr 7 0), (9, .own 2488), (10, .own 2512), (65, .t (tS (Pv.encS enc_u8) cycles)), (66, .t (tI (cycles.length : Int))), (67, .t (tI i)), (89, .t (tS enc_u8 x)), (90, .t (tI (x.length : Int))), (91, .t (tI i2))], [(7, .box (x3_0 s2)), (2488, .rs 43 4 s2.2 enc_SReady), (2512, .rs 3 1 s.2.2 Pv.encI)]⟩) (.of rfl rfl) (TieS.bind (Q₁ := fun f e σ' => match f with | .next t => e = .normal ∧ Sub ⟨[(0, .t (tS enc_SConfig l)), (1, .t (tS (Pv.encS enc_u8) cycles)), (7, .ptr 7 0), (9, .own 2488), (10, .own 2512), (65, .t (tS (Pv.encS enc_u8) cycles)), (66, .t (tI (cycles.length : Int))), (67, .t (tI i)), (89, .t (tS enc_u8 x)), (90, .t (tI (x.length : Int))), (91, .t (tI i2))], [(7, .box [.t (tS enc_SConfig t.1.Configs), .t (tS enc_SFault t.1.L), .t (tI t.1.Cycle), .t (tB t.1.Running)]), (2488, .rs 43 4 t.2 enc_SReady), (2512, .rs 3 1 s.2.2 Pv.encI)]⟩ σ' | .brk t => e = .exit 2 ∧ Sub ⟨[(0, .t (tS enc_SConfig l)), (1, .t (tS (Pv.encS enc_u8) cycles)), (7, .ptr 7 0), (9, .own 2488), (10, .own 2512), (65, .t (tS (Pv.encS enc_u8) cycles)), (66, .t (tI (cycles.length : Int))), (67, .t (tI i))], [(7, .box [.t (tS enc_SConfig t.1.Configs), .t (tS enc_SFault t.1.L), .t (tI t.1.Cycle), .t (tB t.1.Running)]), (2488, .rs 43 4 t.2 enc_SReady), (2512, .rs 3 1 s.2.2 Pv.encI)]⟩ σ' | .ret t => e = .ret ∧ retT tab σ' [.tmp 4] = some (((fun r => .t (tB r)) : Bool → T) t)) ?_ ?_)))
                      · refine TieS.block (.seq (.region (.indexH hx2 rfl rfl rfl rfl rfl rfl rfl rfl (fun _ => rfl) (.run 2 rfl ?_))))
                        refine TieO.nil (.seq (.region (.run 5 rfl (.rem rfl rfl rfl rfl rfl rfl fun q => ?_))))
                        refine TieO.run 1 rfl (.nil (.seq (.seq (.bind (Q₁ := fun t e σ' => e = .normal ∧ Sub ⟨[(0, .t (tS enc_SConfig l)), (1, .t (tS (Pv.encS enc_u8) cycles)), (7, .ptr 7 0), (8, .t (tI t.1)), (9, .own 2488), (10, .own 2512), (15, .t (tI q)), (65, .t (tS (Pv.encS enc_u8) cycles)), (66, .t (tI (cycles.length : Int))), (67, .t (tI i)), (89, .t (tS enc_u8 x)), (90, .t (tI (x.length : Int))), (91, .t (tI i2))], [(7, .box [.t (tS enc_SConfig t.2.Configs), .t (tS enc_SFault t.2.L), .t (tI t.2.Cycle), .t (tB t.2.Running)]), (2488, .rs 43 4 s2.2 enc_SReady), (2512, .rs 3 1 s.2.2 Pv.encI)]⟩ σ') ?_ ?_))))
                        · refine TieX.pre fun x3 hx3 => TieX.pre fun l5 hl5 => TieX.pre fun r5 hr5 => TieS.draws 18 (bm 19 0) (bm 19 262143) ⟨[(0, .t (tS enc_SConfig l)), (1, .t (tS (Pv.encS enc_u8) cycles)), (7, .ptr 7 0), (9, .own 2488), (10, .own 2512), (15, .t (tI q)), (65, .t (tS (Pv.encS enc_u8) cycles)), (66, .t (tI (cycles.length : Int))), (67, .t (tI i)), (89, .t (tS enc_u8 x)), (90, .t (tI (x.length : Int))), (91, .t (tI i2)), (117, .t (tI r5.2))], [(7, .box [.t (tS enc_SConfig r5.1.Configs), .t (tS enc_SFault r5.1.L), .t (tI r5.1.Cycle), .t (tB r5.1.Running)]), (2488, .rs 43 4 s2.2 enc_SReady), (2512, .rs 3 1 s.2.2 Pv.encI)]⟩ mixed (fun _ _ _ h => by cases h.1) rfl rfl rfl rfl ?_ ?_
                          · refine TieA.have_ (fuel₁ := 2) (l₁ := (bm 19 131071)) (σ₁ := ⟨[(0, .t (tS enc_SConfig l)), (1, .t (tS (Pv.encS enc_u8) cycles)), (7, .ptr 7 0), (9, .own 2488), (10, .own 2512), (15, .t (tI q)), (65, .t (tS (Pv.encS enc_u8) cycles)), (66, .t (tI (cycles.length : Int))), (67, .t (tI i)), (89, .t (tS enc_u8 x)), (90, .t (tI (x.length : Int))), (91, .t (tI i2)), (116, .agg [.t (tS enc_SConfig r5.1.Configs), .t (tS enc_SFault r5.1.L), .t (tI r5.1.Cycle), .t (tB r5.1.Running)]), (117, .t (tI r5.2))], [(7, .box (x3_0 s2)), (2488, .rs 43 4 s2.2 enc_SReady), (2512, .rs 3 1 s.2.2 Pv.encI)]⟩) ?_ fun A_4 => ?_
                            · refine TieA.all [17] (by kernel_rfl) rfl (AllA.run _ rfl rfl rfl ?_ ?_)
                              · exact TieA.done (.of rfl rfl)
                              exact AllA.nil
                            refine TieA.have_ (fuel₁ := 6) (l₁ := (bm 19 8191)) (σ₁ := ⟨[(0, .t (tS enc_SConfig l)), (1, .t (tS (Pv.encS enc_u8) cycles)), (7, .ptr 7 0), (9, .own 2488), (10, .own 2512), (15, .t (tI q)), (65, .t (tS (Pv.encS enc_u8) cycles)), (66, .t (tI (cycles.length : Int))), (67, .t (tI i)), (89, .t (tS enc_u8 x)), (90, .t (tI (x.length : Int))), (91, .t (tI i2)), (102, .agg [.t (tS enc_SConfig s2.1.Configs), .t (tS enc_SFault s2.1.L), .t (tI s2.1.Cycle), .t (tB s2.1.Running)]), (103, .t (tI q)), (106, .t (tB ((bitAnd .u8 x2 1) == 1))), (114, .own 2912)], [(7, .box (x3_0 s2)), (2488, .rs 43 4 s2.2 enc_SReady), (2512, .rs 3 1 s.2.2 Pv.encI), (2912, .rs 3 1 l5 Pv.encI)]⟩) ?_ fun A_3 => ?_
                            · refine TieA.all [13] (by kernel_rfl) rfl (AllA.cons (σ₁ := ⟨[(0, .t (tS enc_SConfig l)), (1, .t (tS (Pv.encS enc_u8) cycles)), (7, .ptr 7 0), (9, .own 2488), (10, .own 2512), (15, .t (tI q)), (65, .t (tS (Pv.encS enc_u8) cycles)), (66, .t (tI (cycles.length : Int))), (67, .t (tI i)), (89, .t (tS enc_u8 x)), (90, .t (tI (x.length : Int))), (91, .t (tI i2)), (115, .tup [.agg [.t (tS enc_SConfig r5.1.Configs), .t (tS enc_SFault r5.1.L), .t (tI r5.1.Cycle), .t (tB r5.1.Running)], .t (tI r5.2)])], [(7, .box (x3_0 s2)), (2488, .rs 43 4 s2.2 enc_SReady), (2512, .rs 3 1 s.2.2 Pv.encI)]⟩) _ rfl rfl ?_ ?_ ?_)
                              · refine TieO.frz 2912 rfl (.withH hr5 (TieO.call _ rfl rfl rfl (tie_fault_Result s2.1 q ((bitAnd .u8 x2 1) == 1) l5) (fun _ => rfl) (TieO.ifH ?_)))
                                exact TieO.nil (TieS.leaf ⟨rfl, .of rfl rfl⟩)
                              · refine TieA.mv 14 rfl (.inl rfl) rfl (by kernel_rfl) rfl (.all [15, 16] (by kernel_rfl) rfl (AllA.run _ rfl rfl rfl ?_ ?_))
                                · refine TieA.all [16, 17] (by kernel_rfl) rfl (AllA.runTo _ rfl rfl rfl (.of rfl rfl) A_4 (AllA.run _ rfl rfl rfl ?_ ?_))
                                  · refine TieA.all [16] (by kernel_rfl) rfl (AllA.run _ rfl rfl rfl ?_ ?_)
                                    · exact TieA.done (.of rfl rfl)
                                    exact AllA.nil
                                  exact AllA.nil
                                refine AllA.run _ rfl rfl rfl ?_ ?_
                                · exact TieA.all [15] (by kernel_rfl) rfl (AllA.runTo _ rfl rfl rfl (.of rfl rfl) A_4 (AllA.nil))
                                exact AllA.nil
                              exact AllA.nil
                            refine TieA.have_ (fuel₁ := 7) (l₁ := (bm 19 4095)) (σ₁ := ⟨[(0, .t (tS enc_SConfig l)), (1, .t (tS (Pv.encS enc_u8) cycles)), (7, .ptr 7 0), (9, .own 2488), (10, .own 2512), (15, .t (tI q)), (65, .t (tS (Pv.encS enc_u8) cycles)), (66, .t (tI (cycles.length : Int))), (67, .t (tI i)), (89, .t (tS enc_u8 x)), (90, .t (tI (x.length : Int))), (91, .t (tI i2)), (102, .agg [.t (tS enc_SConfig s2.1.Configs), .t (tS enc_SFault s2.1.L), .t (tI s2.1.Cycle), .t (tB s2.1.Running)]), (103, .t (tI q)), (106, .t (tB ((bitAnd .u8 x2 1) == 1))), (113, .t (tI (maxI 0 (minI x3.Frame 8))))], [(7, .box (x3_0 s2)), (2488, .rs 43 4 s2.2 enc_SReady), (2512, .rs 3 1 s.2.2 Pv.encI)]⟩) ?_ fun A_2 => ?_
                            · refine TieA.all [12] (by kernel_rfl) rfl (AllA.cons _ rfl rfl ?_ A_3 ?_)
                              · refine TieO.withH hl5 (TieO.makeO (enc := Pv.encI) 2912 0 rfl rfl rfl rfl rfl rfl rfl rfl rfl rfl rfl rfl rfl (TieO.ifG ?_))
                                exact TieO.nil (TieS.leaf ⟨rfl, .of rfl rfl⟩)
                              exact AllA.nil
                            refine TieA.have_ (fuel₁ := 8) (l₁ := (bm 19 2047)) (σ₁ := ⟨[(0, .t (tS enc_SConfig l)), (1, .t (tS (Pv.encS enc_u8) cycles)), (7, .ptr 7 0), (9, .own 2488), (10, .own 2512), (15, .t (tI q)), (65, .t (tS (Pv.encS enc_u8) cycles)), (66, .t (tI (cycles.length : Int))), (67, .t (tI i)), (89, .t (tS enc_u8 x)), (90, .t (tI (x.length : Int))), (91, .t (tI i2)), (102, .agg [.t (tS enc_SConfig s2.1.Configs), .t (tS enc_SFault s2.1.L), .t (tI s2.1.Cycle), .t (tB s2.1.Running)]), (103, .t (tI q)), (106, .t (tB ((bitAnd .u8 x2 1) == 1))), (112, .t (tI (minI x3.Frame 8)))], [(7, .box (x3_0 s2)), (2488, .rs 43 4 s2.2 enc_SReady), (2512, .rs 3 1 s.2.2 Pv.encI)]⟩) ?_ fun A_1 => ?_
                            · exact TieA.all [11] (by kernel_rfl) rfl (AllA.runTo _ rfl rfl rfl (.of rfl rfl) A_2 (AllA.nil))
                            refine TieA.have_ (fuel₁ := 9) (l₁ := (bm 19 1023)) (σ₁ := ⟨[(0, .t (tS enc_SConfig l)), (1, .t (tS (Pv.encS enc_u8) cycles)), (7, .ptr 7 0), (9, .own 2488), (10, .own 2512), (15, .t (tI q)), (65, .t (tS (Pv.encS enc_u8) cycles)), (66, .t (tI (cycles.length : Int))), (67, .t (tI i)), (89, .t (tS enc_u8 x)), (90, .t (tI (x.length : Int))), (91, .t (tI i2)), (102, .agg [.t (tS enc_SConfig s2.1.Configs), .t (tS enc_SFault s2.1.L), .t (tI s2.1.Cycle), .t (tB s2.1.Running)]), (103, .t (tI q)), (106, .t (tB ((bitAnd .u8 x2 1) == 1))), (111, .t (tI x3.Frame))], [(7, .box (x3_0 s2)), (2488, .rs 43 4 s2.2 enc_SReady), (2512, .rs 3 1 s.2.2 Pv.encI)]⟩) ?_ fun A_0 => ?_
                            · exact TieA.all [10] (by kernel_rfl) rfl (AllA.runTo _ rfl rfl rfl (.of rfl rfl) A_1 (AllA.nil))
                            refine TieA.mv 1 rfl (.inl rfl) rfl (by kernel_rfl) rfl (.mv 2 rfl (.inl rfl) rfl (by kernel_rfl) rfl (.bin (V := .t (tK .u8 (bitAnd .u8 x2 1))) 3 _ rfl rfl rfl rfl rfl rfl (by kernel_rfl) (by kernel_rfl) (by kernel_rfl) rfl rfl rfl rfl (.bin (V := .t (tB ((bitAnd .u8 x2 1) == 1))) 4 _ rfl rfl rfl rfl rfl rfl (by kernel_rfl) (by kernel_rfl) (by kernel_rfl) rfl rfl rfl rfl (.mv 5 rfl (.inl rfl) rfl (by kernel_rfl) rfl ?_))))
                            refine TieA.mv 6 rfl (.inl rfl) rfl (by kernel_rfl) rfl (.all [0, 7] (by kernel_rfl) rfl (AllA.run _ rfl rfl rfl ?_ ?_))
                            · refine TieA.all [7] (by kernel_rfl) rfl (AllA.cons (σ₁ := ⟨[(0, .t (tS enc_SConfig l)), (1, .t (tS (Pv.encS enc_u8) cycles)), (7, .ptr 7 0), (9, .own 2488), (10, .own 2512), (15, .t (tI q)), (65, .t (tS (Pv.encS enc_u8) cycles)), (66, .t (tI (cycles.length : Int))), (67, .t (tI i)), (89, .t (tS enc_u8 x)), (90, .t (tI (x.length : Int))), (91, .t (tI i2)), (102, .agg [.t (tS enc_SConfig s2.1.Configs), .t (tS enc_SFault s2.1.L), .t (tI s2.1.Cycle), .t (tB s2.1.Running)]), (103, .t (tI q)), (106, .t (tB ((bitAnd .u8 x2 1) == 1))), (109, .el (enc_SConfig x3))], [(7, .box (x3_0 s2)), (2488, .rs 43 4 s2.2 enc_SReady), (2512, .rs 3 1 s.2.2 Pv.encI)]⟩) _ rfl rfl ?_ ?_ ?_)
                              · exact TieO.indexH hx3 rfl rfl rfl rfl rfl rfl rfl rfl (fun _ => rfl) (.nil (TieS.leaf ⟨rfl, .of rfl rfl⟩))
                              · exact TieA.fE 8 rfl rfl rfl (by kernel_rfl) rfl rfl rfl (.all [9] (by kernel_rfl) rfl (AllA.runTo _ rfl rfl rfl (.of rfl rfl) A_0 (AllA.nil)))
                              exact AllA.nil
                            refine AllA.cons (σ₁ := ⟨[(0, .t (tS enc_SConfig l)), (1, .t (tS (Pv.encS enc_u8) cycles)), (7, .ptr 7 0), (9, .own 2488), (10, .own 2512), (15, .t (tI q)), (65, .t (tS (Pv.encS enc_u8) cycles)), (66, .t (tI (cycles.length : Int))), (67, .t (tI i)), (89, .t (tS enc_u8 x)), (90, .t (tI (x.length : Int))), (91, .t (tI i2)), (103, .t (tI q)), (106, .t (tB ((bitAnd .u8 x2 1) == 1))), (109, .el (enc_SConfig x3))], [(7, .box (x3_0 s2)), (2488, .rs 43 4 s2.2 enc_SReady), (2512, .rs 3 1 s.2.2 Pv.encI)]⟩) _ rfl rfl ?_ ?_ ?_
                            · exact TieO.indexH hx3 rfl rfl rfl rfl rfl rfl rfl rfl (fun _ => rfl) (.nil (TieS.leaf ⟨rfl, .of rfl rfl⟩))
                            · refine TieA.fE 8 rfl rfl rfl (by kernel_rfl) rfl rfl rfl (.all [0, 9] (by kernel_rfl) rfl (AllA.run _ rfl rfl rfl ?_ ?_))
                              · exact TieA.all [9] (by kernel_rfl) rfl (AllA.runTo _ rfl rfl rfl (.of rfl rfl) A_0 (AllA.nil))
                              refine AllA.run _ rfl rfl rfl ?_ ?_
                              · refine TieA.all [0, 10] (by kernel_rfl) rfl (AllA.runTo _ rfl rfl rfl (.of rfl rfl) A_0 (AllA.run _ rfl rfl rfl ?_ ?_))
                                · refine TieA.all [0, 11] (by kernel_rfl) rfl (AllA.runTo _ rfl rfl rfl (.of rfl rfl) A_1 (AllA.run _ rfl rfl rfl ?_ ?_))
                                  · refine TieA.all [0, 12] (by kernel_rfl) rfl (AllA.runTo _ rfl rfl rfl (.of rfl rfl) A_2 (AllA.cons (σ₁ := ⟨[(0, .t (tS enc_SConfig l)), (1, .t (tS (Pv.encS enc_u8) cycles)), (7, .ptr 7 0), (9, .own 2488), (10, .own 2512), (15, .t (tI q)), (65, .t (tS (Pv.encS enc_u8) cycles)), (66, .t (tI (cycles.length : Int))), (67, .t (tI i)), (89, .t (tS enc_u8 x)), (90, .t (tI (x.length : Int))), (91, .t (tI i2)), (103, .t (tI q)), (106, .t (tB ((bitAnd .u8 x2 1) == 1))), (114, .own 2912)], [(7, .box (x3_0 s2)), (2488, .rs 43 4 s2.2 enc_SReady), (2512, .rs 3 1 s.2.2 Pv.encI), (2912, .rs 3 1 l5 Pv.encI)]⟩) _ rfl rfl ?_ ?_ ?_))
                                    · refine TieO.withH hl5 (TieO.makeO (enc := Pv.encI) 2912 0 rfl rfl rfl rfl rfl rfl rfl rfl rfl rfl rfl rfl rfl (TieO.ifG ?_))
                                      exact TieO.nil (TieS.leaf ⟨rfl, .of rfl rfl⟩)
                                    · exact TieA.all [0] (by kernel_rfl) rfl (AllA.runTo _ rfl rfl rfl (.of rfl rfl) A_3 (AllA.nil))
                                    exact AllA.nil
                                  exact AllA.nil
                                exact AllA.nil
                              exact AllA.nil
                            exact AllA.nil
                          exact TieO.run 1 rfl (.nil (.leaf ⟨rfl, .of rfl rfl⟩))
                        rintro s3 e σ' _ ⟨rfl, hs⟩
                        refine TieX.sub hs (TieS.seq (.region (.run 3 rfl (.selOr (v := ((s3.2.L.length : Int) != (l.length : Int))) 7 120 (fun b => ⟨[(0, .t (tS enc_SConfig l)), (1, .t (tS (Pv.encS enc_u8) cycles)), (7, .ptr 7 0), (9, .own 2488), (10, .own 2512), (15, .t (tI q)), (65, .t (tS (Pv.encS enc_u8) cycles)), (66, .t (tI (cycles.length : Int))), (67, .t (tI i)), (89, .t (tS enc_u8 x)), (90, .t (tI (x.length : Int))), (91, .t (tI i2)), (127, .t (tB b))], [(7, .box [.t (tS enc_SConfig s3.2.Configs), .t (tS enc_SFault s3.2.L), .t (tI s3.2.Cycle), .t (tB s3.2.Running)]), (2488, .rs 43 4 s2.2 enc_SReady), (2512, .rs 3 1 s.2.2 Pv.encI)]⟩) rfl ?_ ?_ ?_))))
                        · exact TieO.run 7 rfl (.nil (.leaf ⟨rfl, .of rfl rfl⟩))
                        · exact TieO.run 7 rfl (.nil (.leaf ⟨rfl, .of rfl rfl⟩))
                        refine TieO.nil (.cond rfl ?_ ?_)
                        · exact TieS.seq (.region (.run 1 rfl (.nil (.ret ⟨rfl, rfl⟩))))
                        · refine TieS.skip (.seq (.region (.run 3 rfl (.index rfl rfl rfl rfl rfl rfl rfl rfl (fun _ => rfl) fun x4 hx4 => ?_))))
                          refine TieO.run 5 rfl (.nil (.seq (.region (.run 4 rfl ?_))))
                          refine TieO.indexO rfl rfl rfl rfl rfl rfl rfl rfl rfl rfl fun x5 hx5 => .loadY hx5 rfl rfl rfl rfl rfl rfl rfl rfl (.run 1 rfl (.call _ rfl rfl rfl (tie_readiness_Step x5 true ((bitAnd .i64 x4.Status 8) != 0)) (fun _ => rfl) fun r6 => .run 3 rfl ?_))
                          refine TieO.indexOH hx5 rfl rfl rfl rfl rfl rfl rfl rfl rfl rfl (.storeY r6.1 [tB r6.1.Done, tB r6.1.Ran, tI r6.1.Numerator, tI r6.1.Denominator] hx5 rfl rfl rfl rfl rfl rfl rfl rfl rfl rfl rfl rfl fun l6 hl6 => .run 1 rfl (.nil (.seq ?_)))
                          refine TieS.region (.run 2 rfl (.nil (.cond rfl ?_ ?_)))
                          · exact TieS.seq (.region (.run 1 rfl (.nil (.ret ⟨rfl, rfl⟩))))
                          · exact TieS.skip (.endb (.leaf ⟨rfl, .of rfl rfl⟩))
                      rintro (t | t | t) e σ' _ hq
                      · obtain ⟨rfl, hs⟩ := hq
                        exact TieX.sub hs (TieS.region (.run 2 rfl (.nil (.leaf ⟨rfl, .of rfl rfl⟩))))
                      · obtain ⟨rfl, hs⟩ := hq
                        exact TieX.exitOut rfl ⟨(fun h => by cases h), rfl, hs⟩
                      · obtain ⟨rfl, hs⟩ := hq
                        exact TieX.ret ⟨(fun h => by cases h), rfl, hs⟩
                    · exact TieS.exitOut rfl ⟨(fun h => by cases h), rfl, .of rfl rfl⟩
                  rintro (s4 | r10) e σ' _ hq
                  · obtain ⟨rfl, hs⟩ := hq
                    refine TieX.exit rfl (TieX.sub hs ?_)
                    refine TieS.seq (.seq (.region (.run 3 rfl (.nil ?_))))
                    refine TieS.block (.loop (fun p => ⟨[(0, .t (tS enc_SConfig l)), (1, .t (tS (Pv.encS enc_u8) cycles)), (7, .ptr 7 0), (9, .own 2488), (10, .own 2512), (65, .t (tS (Pv.encS enc_u8) cycles)), (66, .t (tI (cycles.length : Int))), (67, .t (tI i)), (152, .t (tI (l.length : Int))), (153, .t (tI p.1))], [(7, .box (x3_1 s4)), (2488, .rs 43 4 p.2.1 enc_SReady), (2512, .rs 3 1 p.2.2 Pv.encI)]⟩) (fun b e σ' => match b with | .inl t => e = .exit 4 ∧ Sub ⟨[(0, .t (tS enc_SConfig l)), (1, .t (tS (Pv.encS enc_u8) cycles)), (7, .ptr 7 0), (9, .own 2488), (10, .own 2512), (65, .t (tS (Pv.encS enc_u8) cycles)), (66, .t (tI (cycles.length : Int))), (67, .t (tI i))], [(7, .box (x3_1 s4)), (2488, .rs 43 4 t.1 enc_SReady), (2512, .rs 3 1 t.2 Pv.encI)]⟩ σ' | .inr t => e = .ret ∧ retT tab σ' [.tmp 4] = some (((fun r => .t (tB r)) : Bool → T) t)) (.of rfl rfl) ?_ ?_)
                    · rintro ⟨i3, s5⟩
                      refine TieS.seq (.region (.run 1 rfl (.nil (.seq ?_))))
                      refine TieS.cond rfl ?_ ?_
                      · refine TieS.skip (.seq (TieX.sub (σ' := ⟨[(0, .t (tS enc_SConfig l)), (1, .t (tS (Pv.encS enc_u8) cycles)), (7, .ptr 7 0), (9, .own 2488), (10, .own 2512), (65, .t (tS (Pv.encS enc_u8) cycles)), (66, .t (tI (cycles.length : Int))), (67, .t (tI i)), (152, .t (tI (l.length : Int))), (153, .t (tI i3))], [(7, .box (x3_1 s4)), (2488, .rs 43 4 s5.1 enc_SReady), (2512, .rs 3 1 s5.2 Pv.encI)]⟩) (.of rfl rfl) (TieS.bind (Q₁ := fun f e σ' => match f with | .next t => e = .normal ∧ Sub ⟨[(0, .t (tS enc_SConfig l)), (1, .t (tS (Pv.encS enc_u8) cycles)), (7, .ptr 7 0), (9, .own 2488), (10, .own 2512), (65, .t (tS (Pv.encS enc_u8) cycles)), (66, .t (tI (cycles.length : Int))), (67, .t (tI i)), (152, .t (tI (l.length : Int))), (153, .t (tI i3))], [(7, .box (x3_1 s4)), (2488, .rs 43 4 t.1 enc_SReady), (2512, .rs 3 1 t.2 Pv.encI)]⟩ σ' | .brk t => e = .exit 4 ∧ Sub ⟨[(0, .t (tS enc_SConfig l)), (1, .t (tS (Pv.encS enc_u8) cycles)), (7, .ptr 7 0), (9, .own 2488), (10, .own 2512), (65, .t (tS (Pv.encS enc_u8) cycles)), (66, .t (tI (cycles.length : Int))), (67, .t (tI i))], [(7, .box (x3_1 s4)), (2488, .rs 43 4 t.1 enc_SReady), (2512, .rs 3 1 t.2 Pv.encI)]⟩ σ' | .ret t => e = .ret ∧ retT tab σ' [.tmp 4] = some (((fun r => .t (tB r)) : Bool → T) t)) ?_ ?_)))
                        · refine TieS.block (.seq (.region (.run 2 rfl (.nil ?_))))
                          refine TieS.seq (.seq (.region (.run 3 rfl (.index rfl rfl rfl rfl rfl rfl rfl rfl (fun _ => rfl) fun x6 hx6 => ?_))))
                          refine TieO.run 4 rfl (.nil (.bind (Q₁ := fun t e σ' => e = .normal ∧ Sub ⟨[(0, .t (tS enc_SConfig l)), (1, .t (tS (Pv.encS enc_u8) cycles)), (7, .ptr 7 0), (9, .own 2488), (10, .own 2512), (17, .t (tI i3)), (65, .t (tS (Pv.encS enc_u8) cycles)), (66, .t (tI (cycles.length : Int))), (67, .t (tI i)), (152, .t (tI (l.length : Int))), (153, .t (tI i3))], [(7, .box (x3_1 s4)), (2488, .rs 43 4 s5.1 enc_SReady), (2512, .rs 3 1 t Pv.encI)]⟩ σ') ?_ ?_))
                          · refine TieS.cond rfl ?_ ?_
                            · refine TieS.region (.run 2 rfl (.indexO rfl rfl rfl rfl rfl rfl rfl rfl rfl rfl fun x7 hx7 => .loadY hx7 rfl rfl rfl rfl rfl rfl rfl rfl (.run 1 rfl ?_)))
                              exact TieO.indexOH hx7 rfl rfl rfl rfl rfl rfl rfl rfl rfl rfl (.storeY (w64 (x7 + 1)) [tI (w64 (x7 + 1))] hx7 rfl rfl rfl rfl rfl rfl rfl rfl rfl rfl rfl rfl fun l7 hl7 => .nil (.leaf ⟨rfl, .of rfl rfl⟩))
                            · exact TieS.skip (.leaf ⟨rfl, .of rfl rfl⟩)
                          rintro f2 e σ' _ ⟨rfl, hs⟩
                          refine TieX.sub hs (TieS.seq (.region (.run 4 rfl (.indexO rfl rfl rfl rfl rfl rfl rfl rfl rfl rfl fun x8 hx8 => ?_))))
                          refine TieO.loadY hx8 rfl rfl rfl rfl rfl rfl rfl rfl (.call _ rfl rfl rfl (tie_readiness_Cycle x8 true) (fun _ => rfl) fun r7 => .run 3 rfl (.indexOH hx8 rfl rfl rfl rfl rfl rfl rfl rfl rfl rfl (.storeY r7.1 [tB r7.1.Done, tB r7.1.Ran, tI r7.1.Numerator, tI r7.1.Denominator] hx8 rfl rfl rfl rfl rfl rfl rfl rfl rfl rfl rfl rfl fun l8 hl8 => ?_)))
                          refine TieO.run 1 rfl (.nil (.seq (.region (.run 2 rfl ?_))))
                          refine TieO.nil (.cond rfl ?_ ?_)
                          · exact TieS.seq (.region (.run 1 rfl (.nil (.ret ⟨rfl, rfl⟩))))
                          · exact TieS.skip (.endb (.leaf ⟨rfl, .of rfl rfl⟩))
                        rintro (t | t | t) e σ' _ hq
                        · obtain ⟨rfl, hs⟩ := hq
                          exact TieX.sub hs (TieS.region (.run 2 rfl (.nil (.leaf ⟨rfl, .of rfl rfl⟩))))
                        · obtain ⟨rfl, hs⟩ := hq
                          exact TieX.exitOut rfl ⟨(fun h => by cases h), rfl, hs⟩
                        · obtain ⟨rfl, hs⟩ := hq
                          exact TieX.ret ⟨(fun h => by cases h), rfl, hs⟩
                      · exact TieS.exitOut rfl ⟨(fun h => by cases h), rfl, .of rfl rfl⟩
                    rintro (s6 | r9) e σ' _ hq
                    · obtain ⟨rfl, hs⟩ := hq
                      refine TieX.exit rfl (TieX.sub hs ?_)
                      refine TieS.seq (.region (.run 1 rfl (.call _ rfl rfl rfl (tie_fault_End s4.1) (fun _ => rfl) fun r8 => .run 5 rfl ?_)))
                      refine TieO.nil (.seq (.region (.run 2 rfl (.nil ?_))))
                      refine TieS.cond rfl ?_ ?_
                      · exact TieS.seq (.region (.run 1 rfl (.nil (.ret ⟨rfl, rfl⟩))))
                      · exact TieS.skip (.endb (.leaf ⟨rfl, .of rfl rfl⟩))
                    · obtain ⟨rfl, hs⟩ := hq
                      exact TieX.ret ⟨rfl, hs⟩
                  · obtain ⟨rfl, hs⟩ := hq
                    exact TieX.ret ⟨rfl, hs⟩
            rintro (t | t | t) e σ' _ hq
            · obtain ⟨rfl, hs⟩ := hq
              exact TieX.sub hs (TieS.region (.run 2 rfl (.nil (.leaf ⟨rfl, .of rfl rfl⟩))))
            · obtain ⟨rfl, hs⟩ := hq
              exact TieX.exitOut rfl ⟨(fun h => by cases h), rfl, hs⟩
            · obtain ⟨rfl, hs⟩ := hq
              exact TieX.ret ⟨(fun h => by cases h), rfl, hs⟩
          · exact TieS.exitOut rfl ⟨(fun h => by cases h), rfl, .of rfl rfl⟩
        rintro (s7 | r14) e σ' _ hq
        · obtain ⟨rfl, hs⟩ := hq
          refine TieX.exit rfl (TieX.sub hs ?_)
          refine TieS.seq (.region (.run 1 rfl (.nil (.seq ?_))))
          refine TieS.seq (.region (.run 3 rfl (.nil (.block ?_))))
          refine TieS.loop (fun p => ⟨[(0, .t (tS enc_SConfig l)), (1, .t (tS (Pv.encS enc_u8) cycles)), (9, .own 2488), (10, .own 2512), (18, .t (tI p.2)), (192, .own 2488), (193, .t (tI (s7.2.1.length : Int))), (194, .t (tI p.1))], [(2488, .rs 43 4 s7.2.1 enc_SReady), (2512, .rs 3 1 s7.2.2 Pv.encI)]⟩) (fun b e σ' => match b with | .inl t => e = .exit 6 ∧ Sub ⟨[(0, .t (tS enc_SConfig l)), (9, .own 2488), (18, .t (tI t))], [(2488, .rs 43 4 s7.2.1 enc_SReady)]⟩ σ' | .inr t => e = .ret ∧ retT tab σ' [.tmp 4] = some (((fun r => .t (tB r)) : Bool → T) t)) (.of rfl rfl) ?_ ?_
          · rintro ⟨i4, want⟩
            refine TieS.seq (.region (.run 1 rfl (.nil (.seq ?_))))
            refine TieS.cond rfl ?_ ?_
            · refine TieS.skip (.seq (TieX.sub (σ' := ⟨[(0, .t (tS enc_SConfig l)), (1, .t (tS (Pv.encS enc_u8) cycles)), (9, .own 2488), (10, .own 2512), (18, .t (tI want)), (192, .own 2488), (193, .t (tI (s7.2.1.length : Int))), (194, .t (tI i4))], [(2488, .rs 43 4 s7.2.1 enc_SReady), (2512, .rs 3 1 s7.2.2 Pv.encI)]⟩) (.of rfl rfl) (TieS.bind (Q₁ := fun f e σ' => match f with | .next t => e = .normal ∧ Sub ⟨[(0, .t (tS enc_SConfig l)), (1, .t (tS (Pv.encS enc_u8) cycles)), (9, .own 2488), (10, .own 2512), (18, .t (tI t)), (192, .own 2488), (193, .t (tI (s7.2.1.length : Int))), (194, .t (tI i4))], [(2488, .rs 43 4 s7.2.1 enc_SReady), (2512, .rs 3 1 s7.2.2 Pv.encI)]⟩ σ' | .brk t => e = .exit 6 ∧ Sub ⟨[(0, .t (tS enc_SConfig l)), (9, .own 2488), (18, .t (tI t))], [(2488, .rs 43 4 s7.2.1 enc_SReady)]⟩ σ' | .ret t => e = .ret ∧ retT tab σ' [.tmp 4] = some (((fun r => .t (tB r)) : Bool → T) t)) ?_ ?_)))
              · refine TieS.block (.seq (.region (.run 1 rfl (.indexO rfl rfl rfl rfl rfl rfl rfl rfl rfl rfl fun x9 hx9 => ?_))))
                refine TieO.loadY hx9 rfl rfl rfl rfl rfl rfl rfl rfl (.run 3 rfl (.nil (.seq (.seq ?_))))
                refine TieS.bind (Q₁ := fun t e σ' => e = .normal ∧ Sub ⟨[(0, .t (tS enc_SConfig l)), (1, .t (tS (Pv.encS enc_u8) cycles)), (9, .own 2488), (10, .own 2512), (18, .t (tI want)), (19, .t (tI i4)), (192, .own 2488), (193, .t (tI (s7.2.1.length : Int))), (194, .t (tI i4)), (226, .t (tB t))], [(2488, .rs 43 4 s7.2.1 enc_SReady), (2512, .rs 3 1 s7.2.2 Pv.encI)]⟩ σ') ?_ ?_
                · refine TieX.pre fun x10 hx10 => TieX.split (fun hg => ?_) (fun hg2 => ?_)
                  · exact TieS.draw 28 [_, _, _, _, _, _, _, _, _, _, _, _, _, _, _, _, _, _, _, _, _, _, _, _, _, _, _, _] [(0, .t (tS enc_SConfig l)), (1, .t (tS (Pv.encS enc_u8) cycles)), (9, .own 2488), (10, .own 2512), (18, .t (tI want)), (19, .t (tI i4)), (20, .ptr 20 0), (192, .own 2488), (193, .t (tI (s7.2.1.length : Int))), (194, .t (tI i4))] [(20, .box (x3_2 x9)), (2488, .rs 43 4 s7.2.1 enc_SReady), (2512, .rs 3 1 s7.2.2 Pv.encI)] mixed (.of rfl rfl) rfl rfl rfl rfl (.cons (.quiet rfl rfl rfl) (.cons (.quiet rfl rfl rfl) (.cons (.quiet rfl rfl rfl) (.cons (.quiet rfl rfl rfl) (.cons (.indexO (sz := 1) hx10 rfl rfl rfl rfl rfl rfl rfl rfl) (.cons (.loadY hx10 rfl rfl rfl rfl rfl rfl) (.cons (.quiet rfl rfl rfl) (.cons (.quiet rfl rfl rfl) (.cons (.cast (congrArg T.B hg) (.quiet rfl rfl rfl)) (.cons (.skip rfl) (.cons (.skip rfl) (.cons (.skip rfl) (.cons (.skip rfl) (.cons (.skip rfl) (.cons (.skip rfl) (.cons (.skip rfl) (.cons (.quiet rfl rfl rfl) (.cons (.quiet rfl rfl rfl) (.cons (.skip rfl) (.cons (.skip rfl) (.cons (.skip rfl) (.cons (.skip rfl) (.cons (.skip rfl) (.cons (.quiet rfl rfl rfl) (.cons (.quiet rfl rfl rfl) (.cons (.skip rfl) (.cons (.skip rfl) (.cons (.quiet rfl rfl rfl) (.nil))))))))))))))))))))))))))))) (.nil (.leaf ⟨rfl, .of rfl rfl⟩))
                  · refine TieX.split (fun hg3 => ?_) (fun hg4 => ?_)
                    · exact TieS.draw 28 [_, _, _, _, _, _, _, _, _, _, _, _, _, _, _, _, _, _, _, _, _, _, _, _, _, _, _, _] [(0, .t (tS enc_SConfig l)), (1, .t (tS (Pv.encS enc_u8) cycles)), (9, .own 2488), (10, .own 2512), (18, .t (tI want)), (19, .t (tI i4)), (20, .ptr 20 0), (192, .own 2488), (193, .t (tI (s7.2.1.length : Int))), (194, .t (tI i4))] [(20, .box (x3_2 x9)), (2488, .rs 43 4 s7.2.1 enc_SReady), (2512, .rs 3 1 s7.2.2 Pv.encI)] mixed (.of rfl rfl) rfl rfl rfl rfl (.cons (.quiet rfl rfl rfl) (.cons (.quiet rfl rfl rfl) (.cons (.quiet rfl rfl rfl) (.cons (.quiet rfl rfl rfl) (.cons (.indexO (sz := 1) hx10 rfl rfl rfl rfl rfl rfl rfl rfl) (.cons (.loadY hx10 rfl rfl rfl rfl rfl rfl) (.cons (.quiet rfl rfl rfl) (.cons (.quiet rfl rfl rfl) (.cons (.cast (congrArg T.B hg2) (.quiet rfl rfl rfl)) (.cons (.quiet rfl rfl rfl) (.cons (.quiet rfl rfl rfl) (.cons (.quiet rfl rfl rfl) (.cons (.quiet rfl rfl rfl) (.cons (.indexO (sz := 1) hx10 rfl rfl rfl rfl rfl rfl rfl rfl) (.cons (.loadY hx10 rfl rfl rfl rfl rfl rfl) (.cons (.quiet rfl rfl rfl) (.cons (.quiet rfl rfl rfl) (.cons (.cast (congrArg T.B hg3) (.quiet rfl rfl rfl)) (.cons (.skip rfl) (.cons (.skip rfl) (.cons (.skip rfl) (.cons (.skip rfl) (.cons (.skip rfl) (.cons (.quiet rfl rfl rfl) (.cons (.quiet rfl rfl rfl) (.cons (.skip rfl) (.cons (.skip rfl) (.cons (.quiet rfl rfl rfl) (.nil))))))))))))))))))))))))))))) (.nil (.leaf ⟨rfl, .of rfl rfl⟩))
                    · refine TieX.split (fun hg5 => ?_) (fun hg6 => ?_)
                      · exact TieS.draw 28 [_, _, _, _, _, _, _, _, _, _, _, _, _, _, _, _, _, _, _, _, _, _, _, _, _, _, _, _] [(0, .t (tS enc_SConfig l)), (1, .t (tS (Pv.encS enc_u8) cycles)), (9, .own 2488), (10, .own 2512), (18, .t (tI want)), (19, .t (tI i4)), (20, .ptr 20 0), (192, .own 2488), (193, .t (tI (s7.2.1.length : Int))), (194, .t (tI i4))] [(20, .box (x3_2 x9)), (2488, .rs 43 4 s7.2.1 enc_SReady), (2512, .rs 3 1 s7.2.2 Pv.encI)] mixed (.of rfl rfl) rfl rfl rfl rfl (.cons (.quiet rfl rfl rfl) (.cons (.quiet rfl rfl rfl) (.cons (.quiet rfl rfl rfl) (.cons (.quiet rfl rfl rfl) (.cons (.indexO (sz := 1) hx10 rfl rfl rfl rfl rfl rfl rfl rfl) (.cons (.loadY hx10 rfl rfl rfl rfl rfl rfl) (.cons (.quiet rfl rfl rfl) (.cons (.quiet rfl rfl rfl) (.cons (.cast (congrArg T.B hg2) (.quiet rfl rfl rfl)) (.cons (.quiet rfl rfl rfl) (.cons (.quiet rfl rfl rfl) (.cons (.quiet rfl rfl rfl) (.cons (.quiet rfl rfl rfl) (.cons (.indexO (sz := 1) hx10 rfl rfl rfl rfl rfl rfl rfl rfl) (.cons (.loadY hx10 rfl rfl rfl rfl rfl rfl) (.cons (.quiet rfl rfl rfl) (.cons (.quiet rfl rfl rfl) (.cons (.cast (congrArg T.B hg4) (.quiet rfl rfl rfl)) (.cons (.quiet rfl rfl rfl) (.cons (.quiet rfl rfl rfl) (.cons (.quiet rfl rfl rfl) (.cons (.quiet rfl rfl rfl) (.cons (.quiet rfl rfl rfl) (.cons (.quiet rfl rfl rfl) (.cons (.cast (congrArg T.B hg5) (.quiet rfl rfl rfl)) (.cons (.skip rfl) (.cons (.skip rfl) (.cons (.quiet rfl rfl rfl) (.nil))))))))))))))))))))))))))))) (.nil (.leaf ⟨rfl, .of rfl rfl⟩))
                      · exact TieS.draw 28 [_, _, _, _, _, _, _, _, _, _, _, _, _, _, _, _, _, _, _, _, _, _, _, _, _, _, _, _] [(0, .t (tS enc_SConfig l)), (1, .t (tS (Pv.encS enc_u8) cycles)), (9, .own 2488), (10, .own 2512), (18, .t (tI want)), (19, .t (tI i4)), (20, .ptr 20 0), (192, .own 2488), (193, .t (tI (s7.2.1.length : Int))), (194, .t (tI i4))] [(20, .box (x3_2 x9)), (2488, .rs 43 4 s7.2.1 enc_SReady), (2512, .rs 3 1 s7.2.2 Pv.encI)] mixed (.of rfl rfl) rfl rfl rfl rfl (.cons (.quiet rfl rfl rfl) (.cons (.quiet rfl rfl rfl) (.cons (.quiet rfl rfl rfl) (.cons (.quiet rfl rfl rfl) (.cons (.indexO (sz := 1) hx10 rfl rfl rfl rfl rfl rfl rfl rfl) (.cons (.loadY hx10 rfl rfl rfl rfl rfl rfl) (.cons (.quiet rfl rfl rfl) (.cons (.quiet rfl rfl rfl) (.cons (.cast (congrArg T.B hg2) (.quiet rfl rfl rfl)) (.cons (.quiet rfl rfl rfl) (.cons (.quiet rfl rfl rfl) (.cons (.quiet rfl rfl rfl) (.cons (.quiet rfl rfl rfl) (.cons (.indexO (sz := 1) hx10 rfl rfl rfl rfl rfl rfl rfl rfl) (.cons (.loadY hx10 rfl rfl rfl rfl rfl rfl) (.cons (.quiet rfl rfl rfl) (.cons (.quiet rfl rfl rfl) (.cons (.cast (congrArg T.B hg4) (.quiet rfl rfl rfl)) (.cons (.quiet rfl rfl rfl) (.cons (.quiet rfl rfl rfl) (.cons (.quiet rfl rfl rfl) (.cons (.quiet rfl rfl rfl) (.cons (.quiet rfl rfl rfl) (.cons (.quiet rfl rfl rfl) (.cons (.cast (congrArg T.B hg6) (.quiet rfl rfl rfl)) (.cons (.quiet rfl rfl rfl) (.cons (.quiet rfl rfl rfl) (.cons (.quiet rfl rfl rfl) (.nil))))))))))))))))))))))))))))) (.nil (.leaf ⟨rfl, .of rfl rfl⟩))
                rintro v e σ' _ ⟨rfl, hs⟩
                refine TieX.sub hs (TieS.cond rfl ?_ ?_)
                · exact TieS.seq (.region (.run 1 rfl (.nil (.ret ⟨rfl, rfl⟩))))
                · refine TieS.skip (.seq (.region (.run 2 rfl (.indexO rfl rfl rfl rfl rfl rfl rfl rfl rfl rfl fun x11 hx11 => ?_))))
                  refine TieO.loadY hx11 rfl rfl rfl rfl rfl rfl rfl rfl (.run 1 rfl (.nil (.cond rfl ?_ ?_)))
                  · refine TieS.region (.run 2 rfl (.shl rfl rfl rfl rfl rfl rfl fun q2 => .run 2 rfl (.nil ?_)))
                    exact TieS.endb (.leaf ⟨rfl, .of rfl rfl⟩)
                  · exact TieS.skip (.endb (.leaf ⟨rfl, .of rfl rfl⟩))
              rintro (t | t | t) e σ' _ hq
              · obtain ⟨rfl, hs⟩ := hq
                exact TieX.sub hs (TieS.region (.run 2 rfl (.nil (.leaf ⟨rfl, .of rfl rfl⟩))))
              · obtain ⟨rfl, hs⟩ := hq
                exact TieX.exitOut rfl ⟨(fun h => by cases h), rfl, hs⟩
              · obtain ⟨rfl, hs⟩ := hq
                exact TieX.ret ⟨(fun h => by cases h), rfl, hs⟩
            · exact TieS.exitOut rfl ⟨(fun h => by cases h), rfl, .of rfl rfl⟩
          rintro (want2 | r13) e σ' _ hq
          · obtain ⟨rfl, hs⟩ := hq
            refine TieX.exit rfl (TieX.sub hs ?_)
            refine TieS.seq (.region (.run 1 rfl (.callS _ rfl rfl rfl (tie_readiness_Code s7.2.1) (fun _ => rfl) (fun _ => rfl) fun r11 => .run 5 rfl ?_)))
            refine TieO.nil (.seq (.region (.run 1 rfl (.frz 2488 rfl ?_))))
            refine TieO.call _ rfl rfl rfl (tie_readiness_Clear s7.2.1) (fun _ => rfl) fun v2 => .call _ rfl rfl rfl (tie_readiness_Code v2) (fun _ => rfl) fun r12 => .run 5 rfl (.nil (.seq ?_))
            refine TieS.region (.run 3 rfl (.selAnd (v := (r11.1 == want2)) 4 250 (fun b => ⟨[(0, .t (tS enc_SConfig l)), (22, .t (tI r12.1)), (23, .t (tI r12.2)), (254, .t (tB b))], []⟩) rfl ?_ ?_ ?_))
            · exact TieO.run 4 rfl (.nil (.leaf ⟨rfl, .of rfl rfl⟩))
            · exact TieO.run 4 rfl (.nil (.leaf ⟨rfl, .of rfl rfl⟩))
            refine TieO.run 1 rfl (.selAnd (v := (r12.2 == 0)) 3 255 (fun b => ⟨[(0, .t (tS enc_SConfig l)), (22, .t (tI r12.1)), (258, .t (tB b))], []⟩) rfl ?_ ?_ ?_)
            · exact TieO.run 3 rfl (.nil (.leaf ⟨rfl, .of rfl rfl⟩))
            · exact TieO.run 3 rfl (.nil (.leaf ⟨rfl, .of rfl rfl⟩))
            refine TieO.run 1 rfl (.bind 7 (fun b2 => ⟨[(266, .t (tB b2))], []⟩) (TieO.split 259 rfl ?_ ?_) fun b2 _ => ?_)
            · exact TieO.run 3 rfl (.shl rfl rfl rfl rfl rfl rfl fun q3 => .run 3 rfl (.nil (.leaf ⟨rfl, .of rfl rfl⟩)))
            · exact TieO.run 7 rfl (.nil (.leaf ⟨rfl, .of rfl rfl⟩))
            exact TieO.run 1 rfl (.nil (.ret ⟨.inl rfl, rfl⟩))
          · obtain ⟨rfl, hs⟩ := hq
            exact TieX.ret ⟨.inl rfl, hs⟩
        · obtain ⟨rfl, hs⟩ := hq
          exact TieX.ret ⟨.inl rfl, hs⟩
end Go.Proofs.Ytjgoihfcmpjimaa
namespace Go.Pv
open Go
structure wf_SConfig (x : SConfig) : Prop where
  Code : (fun n => (Lit.int .i64 n).wf = true) x.Code
  Fail : (fun n => (Lit.int .i64 n).wf = true) x.Fail
  Pass : (fun n => (Lit.int .i64 n).wf = true) x.Pass
  Heal : (fun n => (Lit.int .i64 n).wf = true) x.Heal
  Age : (fun n => (Lit.int .i64 n).wf = true) x.Age
  Priority : (fun n => (Lit.int .i64 n).wf = true) x.Priority
  Lamp : (fun _ => True) x.Lamp
  Frame : (fun n => (Lit.int .i64 n).wf = true) x.Frame
end Go.Pv
namespace Go.Proofs.Ytjgoihfcmpjimaa
open Go Go.Pv Go.Proofs
theorem reads_3 : Reads Try.prog 3 Pv.encI (fun n => (Lit.int .i64 n).wf = true) := reads_int Try.underlying3 (fun _ => rfl)
theorem reads_4 : Reads Try.prog 4 Pv.encB (fun _ => True) := reads_bool Try.underlying4 (fun _ => rfl)
theorem reads_39 : Reads Try.prog 39 enc_SConfig wf_SConfig := by
  intro H e w fuel cs x h
  obtain ⟨xs, n, _, rfl, hl, hlen, hf⟩ := DataW.trod_struct Try.underlying39 h
  obtain ⟨y0, w0, r0⟩ := field_of hlen hf 0 rfl reads_3
  obtain ⟨y1, w1, r1⟩ := field_of hlen hf 1 rfl reads_3
  obtain ⟨y2, w2, r2⟩ := field_of hlen hf 2 rfl reads_3
  obtain ⟨y3, w3, r3⟩ := field_of hlen hf 3 rfl reads_3
  obtain ⟨y4, w4, r4⟩ := field_of hlen hf 4 rfl reads_3
  obtain ⟨y5, w5, r5⟩ := field_of hlen hf 5 rfl reads_3
  obtain ⟨y6, w6, r6⟩ := field_of hlen hf 6 rfl reads_4
  obtain ⟨y7, w7, r7⟩ := field_of hlen hf 7 rfl reads_3
  exact ⟨⟨y0, y1, y2, y3, y4, y5, y6, y7⟩, ⟨w0, w1, w2, w3, w4, w5, w6, w7⟩, rtl_cons (o := 0) (o' := 1) r0 (by kernel_rfl) (rtl_cons (o := 1) (o' := 2) r1 (by kernel_rfl) (rtl_cons (o := 2) (o' := 3) r2 (by kernel_rfl) (rtl_cons (o := 3) (o' := 4) r3 (by kernel_rfl) (rtl_cons (o := 4) (o' := 5) r4 (by kernel_rfl) (rtl_cons (o := 5) (o' := 6) r5 (by kernel_rfl) (rtl_cons (o := 6) (o' := 7) r6 (by kernel_rfl) (rtl_cons (o := 7) (o' := 8) r7 (by kernel_rfl) (rtl_nil (hl.trans (by kernel_rfl))))))))))⟩
theorem reads_22 : Reads Try.prog 22 (Pv.encS enc_SConfig) (wfL wf_SConfig) := reads_slice (sz := 8) Try.underlying22 reads_39 (by kernel_rfl) (by decide) (fun _ => rfl)
theorem arg_22 : ArgOk Try.prog 22 (fun x => .t (tS enc_SConfig x)) (wfL wf_SConfig) := arg_slice Try.underlying22 reads_22 (fun _ => rfl)
theorem reads_5 : Reads Try.prog 5 enc_u8 (fun n => (Lit.int .u8 n).wf = true) := reads_int Try.underlying5 (fun _ => rfl)
theorem reads_34 : Reads Try.prog 34 (Pv.encS enc_u8) (wfL (fun n => (Lit.int .u8 n).wf = true)) := reads_slice (sz := 1) Try.underlying34 reads_5 (by kernel_rfl) (by decide) (fun _ => rfl)
theorem reads_23 : Reads Try.prog 23 (Pv.encS (Pv.encS enc_u8)) (wfL (wfL (fun n => (Lit.int .u8 n).wf = true))) := reads_slice (sz := 1) Try.underlying23 reads_34 (by kernel_rfl) (by decide) (fun _ => rfl)
theorem arg_23 : ArgOk Try.prog 23 (fun x => .t (tS (Pv.encS enc_u8) x)) (wfL (wfL (fun n => (Lit.int .u8 n).wf = true))) := arg_slice Try.underlying23 reads_23 (fun _ => rfl)
end Go.Proofs.Ytjgoihfcmpjimaa
namespace Go.Pv
open Go.RowKit
theorem stepsN_inv {S R : Type} (f : Int → S → Option (Fl S R)) (I : Nat → S → Prop) : ∀ (k i : Nat) (s : S), I i s → (∀ j, i ≤ j → j < i + k → ∀ s, I j s → ∃ s', f (j : Int) s = some (.next s') ∧ I (j + 1) s') → ∃ s', stepsN f k (i : Int) s = some (.inl s') ∧ I (i + k) s'
  | 0, i, s, h, _ => ⟨s, rfl, h⟩
  | k + 1, i, s, h, st => by
    obtain ⟨s1, h1, h2⟩ := st i (Nat.le_refl _) (by omega) s h
    obtain ⟨s2, h3, h4⟩ := stepsN_inv f I k (i + 1) s1 h2 (fun j a b => st j (by omega) (by omega))
    refine ⟨s2, ?_, by rw [show i + (k + 1) = i + 1 + k by omega]; exact h4⟩
    simp only [stepsN, h1, Option.bind_some]
    exact h3
theorem rangeN_inv {S R : Type} (n : Nat) (hn : n ≤ 9223372036854775807) (f : Int → S → Option (Fl S R)) (I : Nat → S → Prop) (s : S) (h : I 0 s) (st : ∀ j, j < n → ∀ s, I j s → ∃ s', f (j : Int) s = some (.next s') ∧ I (j + 1) s') : ∃ s', rangeN (n : Int) f s = some (.inl s') ∧ I n s' := by
  obtain ⟨s', h1, h2⟩ := stepsN_inv f I n 0 s h (fun j _ b => st j (by omega))
  refine ⟨s', ?_, by simpa using h2⟩
  rw [rangeN_steps _ hn]
  exact h1
theorem setM_nat {α : Type} (l : List α) (i : Nat) (y : α) (h : i < l.length) : setM l (i : Int) y = some (l.set i y) := by
  unfold setM; rw [if_pos ⟨by omega, by omega⟩]; rfl
theorem getI_get {α : Type} (l : List α) (i : Nat) (h : i < l.length) : getI l (i : Int) = some l[i] := by rw [getI_nat, List.getElem?_eq_getElem h]
theorem makeM_nat {α : Type} (n : Nat) (h : n ≤ 1073741824) (z : α) : makeM (n : Int) z = some (List.replicate n z) := by
  unfold makeM; rw [if_pos ⟨by omega, by omega⟩]; rfl
theorem appendM_ok {α : Type} (l r : List α) (h : l.length + r.length ≤ 1073741824) : appendM l r = some (l ++ r) := by
  unfold appendM; rw [if_pos h]
end Go.Pv
set_option linter.unusedSimpArgs false
namespace Go.Pv
open Go
section
variable {α β : Type}
/-! Ranges change places. -/
/-! Rotation. -/
end
section
variable {α : Type} {D : α → Prop} {g : α → α → Option Int}
abbrev AllD (D : α → Prop) (l : List α) : Prop := ∀ x ∈ l, D x
def eqv (g : α → α → Option Int) (x y : α) : Bool := !ltM g x y && !ltM g y x
/-- The same elements; those that are alike in their order. -/
structure Sta (D : α → Prop) (g : α → α → Option Int) (l r : List α) : Prop where
  perm : r.Perm l
  same : ∀ x, D x → r.filter (eqv g x) = l.filter (eqv g x)
theorem Sta.refl (l : List α) : Sta D g l l := ⟨.refl _, fun _ _ => rfl⟩
theorem Sta.trans {l r s : List α} (h : Sta D g l r) (k : Sta D g r s) : Sta D g l s := ⟨k.perm.trans h.perm, fun x hx => (k.same x hx).trans (h.same x hx)⟩
theorem Sta.len {l r : List α} (h : Sta D g l r) : r.length = l.length := h.perm.length_eq
theorem Sta.all {l r : List α} (h : Sta D g l r) (hl : AllD D l) : AllD D r := fun x hx => hl x (h.perm.mem_iff.1 hx)
/-! Insertion. -/
/-! A search by halves. -/
end
section
variable {α : Type} {D : α → Prop} {g : α → α → Option Int}
end
section
variable {α : Type} {D : α → Prop} {g : α → α → Option Int}
end
section
variable {α : Type} {D : α → Prop} {g : α → α → Option Int}
/-! The blocks. -/
end
end Go.Pv
set_option linter.unusedSimpArgs false
namespace Go.Pv
open Go
namespace Fr
theorem stepsL_total {α S R : Type} (f : Int → α → S → Option (Fl S R)) : ∀ (l : List α) (i : Int) (s : S), (∀ i, ∀ y ∈ l, ∀ s, ∃ x, f i y s = some x) → ∃ r, stepsL f l i s = some r
  | [], i, s, _ => ⟨_, rfl⟩
  | y :: l, i, s, h => by
    obtain ⟨x, hx⟩ := h i y (List.mem_cons_self ..) s
    simp only [stepsL, hx, Option.bind_some]
    cases x with
    | next s' => exact stepsL_total f l (i + 1) s' fun i y hy s => h i y (List.mem_cons_of_mem _ hy) s
    | brk s' => exact ⟨_, rfl⟩
    | ret r => exact ⟨_, rfl⟩
theorem codes_total (l : List SConfig) (hl : l.length ≤ 9223372036854775807) : ∃ b, fault_codes l = some b := by
  unfold fault_codes
  rw [rangeM_steps _ hl]
  obtain ⟨r, hr⟩ := stepsL_total fault_codes_b1 l 0 [] (fun i y _ s => by unfold fault_codes_b1; cases mget false s y.Code <;> exact ⟨_, rfl⟩)
  rw [hr]
  cases r <;> exact ⟨_, rfl⟩
/-- A configuration that is right. -/
structure CfOk (c : SConfig) : Prop where
  fail : 1 ≤ c.Fail ∧ c.Fail ≤ 100
  pass : 1 ≤ c.Pass ∧ c.Pass ≤ 100
  heal : 1 ≤ c.Heal ∧ c.Heal ≤ 100
  age : c.Heal ≤ c.Age ∧ c.Age ≤ 255
  frame : 0 ≤ c.Frame ∧ c.Frame ≤ 8
def cfB (c : SConfig) : Bool := ((((((decide (c.Code ≥ 1) && decide (c.Code ≤ 16777215)) && (decide (c.Fail ≥ 1) && decide (c.Fail ≤ 100))) && (decide (c.Pass ≥ 1) && decide (c.Pass ≤ 100))) && (decide (c.Heal ≥ 1) && decide (c.Heal ≤ 100))) && (decide (c.Age ≥ c.Heal) && decide (c.Age ≤ 255))) && (decide (c.Priority ≥ 0) && decide (c.Priority ≤ 255))) && (decide (c.Frame ≥ 0) && decide (c.Frame ≤ 8))
theorem cf_eq (c : SConfig) : fault_ValidConfig c = some (cfB c) := by
  unfold fault_ValidConfig fault_within cfB
  simp only [Option.bind_some, bif_some, Bool.cond_false_right]
theorem CfOk.of {c : SConfig} (h : cfB c = true) : CfOk c := by
  simp only [cfB, Bool.and_eq_true, decide_eq_true_eq] at h
  obtain ⟨⟨⟨⟨⟨⟨_, h1⟩, h2⟩, h3⟩, h4⟩, _⟩, h5⟩ := h
  exact ⟨h1, h2, h3, h4, h5⟩
theorem wrong_eq (c : SConfig) : fault_wrong c = some (!cfB c) := by
  unfold fault_wrong; rw [cf_eq]; rfl
theorem contains_cf (l : List SConfig) (hl : l.length ≤ 9223372036854775807) : slices_ContainsFunc_sConfig l fault_wrong = some (l.any fun c => !cfB c) := by
  unfold slices_ContainsFunc_sConfig slices_IndexFunc_sConfig slices_IndexFunc_sConfig_b1
  exact index_any l hl fault_wrong (fun c => !cfB c) (fun y _ => wrong_eq y)
/-- A status, by its bits. -/
def stN (b1 b2 b4 b8 b16 : Bool) : Int := (((((bif b1 then 1 else 0) + (bif b2 then 2 else 0)) + (bif b4 then 4 else 0)) + (bif b8 then 8 else 0)) + (bif b16 then 16 else 0))
theorem st_range (a b c d e : Bool) : 0 ≤ stN a b c d e ∧ stN a b c d e ≤ 31 := by
  cases a <;> cases b <;> cases c <;> cases d <;> cases e <;> decide
theorem st_1 (a b c d e : Bool) : (bitAnd .i64 (stN a b c d e) 1 == 1) = a := by cases a <;> cases b <;> cases c <;> cases d <;> cases e <;> rfl
theorem st_2 (a b c d e : Bool) : (bitAnd .i64 (stN a b c d e) 2 == 2) = b := by cases a <;> cases b <;> cases c <;> cases d <;> cases e <;> rfl
theorem st_4 (a b c d e : Bool) : (bitAnd .i64 (stN a b c d e) 4 == 4) = c := by cases a <;> cases b <;> cases c <;> cases d <;> cases e <;> rfl
theorem st_8 (a b c d e : Bool) : (bitAnd .i64 (stN a b c d e) 8 == 8) = d := by cases a <;> cases b <;> cases c <;> cases d <;> cases e <;> rfl
theorem st_8n (a b c d e : Bool) : (bitAnd .i64 (stN a b c d e) 8 != 0) = d := by cases a <;> cases b <;> cases c <;> cases d <;> cases e <;> rfl
theorem st_16 (a b c d e : Bool) : (bitAnd .i64 (stN a b c d e) 16 == 16) = e := by cases a <;> cases b <;> cases c <;> cases d <;> cases e <;> rfl
theorem st_10 (a b c d e : Bool) : (bitAnd .i64 (stN a b c d e) 10 == 10) = (b && d) := by cases a <;> cases b <;> cases c <;> cases d <;> cases e <;> rfl
theorem st_6 (a b c d e : Bool) : (bitAnd .i64 (stN a b c d e) 6 != 0) = (b || c) := by cases a <;> cases b <;> cases c <;> cases d <;> cases e <;> rfl
theorem st_n9 (a b c d e : Bool) : bitAndNot .i64 (stN a b c d e) 9 = stN false b c false e := by cases a <;> cases b <;> cases c <;> cases d <;> cases e <;> rfl
theorem st_n2 (a b c d e : Bool) : bitAndNot .i64 (stN a b c d e) 2 = stN a false c d e := by cases a <;> cases b <;> cases c <;> cases d <;> cases e <;> rfl
theorem st_n1 (a b c d e : Bool) : bitAndNot .i64 (stN a b c d e) 1 = stN false b c d e := by cases a <;> cases b <;> cases c <;> cases d <;> cases e <;> rfl
theorem st_n16 (a b c d e : Bool) : bitAndNot .i64 (stN a b c d e) 16 = stN a b c d false := by cases a <;> cases b <;> cases c <;> cases d <;> cases e <;> rfl
theorem st_o11 (a b c d e : Bool) : bitOr .i64 (stN a b c d e) 11 = stN true true c true e := by cases a <;> cases b <;> cases c <;> cases d <;> cases e <;> rfl
theorem st_o4 (a b c d e : Bool) : bitOr .i64 (stN a b c d e) 4 = stN a b true d e := by cases a <;> cases b <;> cases c <;> cases d <;> cases e <;> rfl
theorem st_o16 (a b c d e : Bool) : bitOr .i64 (stN a b c d e) 16 = stN a b c d true := by cases a <;> cases b <;> cases c <;> cases d <;> cases e <;> rfl
theorem st_o8 (a b c d e : Bool) : bitOr .i64 (stN a b c d e) 8 = stN a b c true e := by cases a <;> cases b <;> cases c <;> cases d <;> cases e <;> rfl
/-- Numbers that may stand in a frame. -/
def FrOk (c : SConfig) (l : List Int) : Prop := (l.length : Int) = c.Frame ∧ ∀ x ∈ l, -1099511627776 ≤ x ∧ x ≤ 1099511627776
theorem contains_int (l : List Int) (hl : l.length ≤ 9223372036854775807) (f : Int → Option Bool) (p : Int → Bool) (h : ∀ y ∈ l, f y = some (p y)) : slices_ContainsFunc_sint l f = some (l.any p) := by
  unfold slices_ContainsFunc_sint slices_IndexFunc_sint slices_IndexFunc_sint_b1
  exact index_any l hl f p h
theorem frame_ok {c : SConfig} {l : List Int} (hc : CfOk c) (h : FrOk c l) : fault_frame c l = some true := by
  unfold fault_frame
  have hl : l.length ≤ 9223372036854775807 := by have := h.1; have := hc.frame; omega
  have he : ((l.length : Int) == c.Frame) = true := by simpa using h.1
  rw [he, contains_int l hl fault_frame_1 (fun x => !(decide (x ≥ -1099511627776) && decide (x ≤ 1099511627776))) (fun y _ => rfl)]
  have : l.any (fun x => !(decide (x ≥ -1099511627776) && decide (x ≤ 1099511627776))) = false := by
    rw [List.any_eq_false]
    intro x hx
    have := h.2 x hx
    simp [this.1, this.2]
  rw [this]
  rfl
/-- The state of a fault that is right; with the bits of its status. -/
structure RtB (c : SConfig) (x : SFault) (cycle : Int) (b1 b2 b4 b8 b16 : Bool) : Prop where
  st : x.Status = stN b1 b2 b4 b8 b16
  count : -c.Pass ≤ x.Count ∧ x.Count ≤ c.Fail
  cycles : 0 ≤ x.Cycles ∧ x.Cycles ≤ 2
  clean : 0 ≤ x.Clean ∧ x.Clean ≤ c.Age - 1
  occ : 0 ≤ x.Occurrences ∧ x.Occurrences ≤ 255
  last : 0 ≤ x.Last ∧ x.Last ≤ cycle
  frame : x.Frame = [] ∨ FrOk c x.Frame
  k1 : b1 = true → b2 = true ∧ b8 = true ∧ x.Last = cycle
  k4 : b4 = true ↔ x.Cycles = 2
  k16 : b16 = true → b4 = true ∧ c.Lamp = true
  k2 : b2 = true → x.Clean = 0
  known : (b2 || b4) = true → 1 ≤ x.Occurrences ∧ 1 ≤ x.Cycles ∧ 1 ≤ x.Last ∧ (x.Frame.length : Int) = c.Frame
  none : (b2 || b4) = false → x.Cycles = 0 ∧ x.Clean = 0 ∧ x.Occurrences = 0 ∧ x.Last = 0 ∧ x.Frame = []
def Rt (c : SConfig) (x : SFault) (cycle : Int) (b8 : Bool) : Prop := ∃ b1 b2 b4 b16, RtB c x cycle b1 b2 b4 b8 b16
theorem Rt.bit {c : SConfig} {x : SFault} {cycle : Int} {b8 : Bool} (h : Rt c x cycle b8) : (bitAnd .i64 x.Status 8 != 0) = b8 := by
  obtain ⟨b1, b2, b4, b16, h⟩ := h
  rw [h.st]; exact st_8n ..
theorem right_ok {c : SConfig} {x : SFault} {cycle : Int} {b8 : Bool} (hc : CfOk c) (h : Rt c x cycle b8) : fault_right c x cycle = some true := by
  obtain ⟨b1, b2, b4, b16, h⟩ := h
  have hfr : (Option.bind (bif (decide ((x.Frame.length : Int) > 0)) then (Option.bind (fault_frame c x.Frame) fun v7 => some (!v7)) else (some false)) fun b7 => some b7) = some false := by
    rcases h.frame with h1 | h1
    · rw [h1]; rfl
    · rw [frame_ok hc h1]; cases decide ((x.Frame.length : Int) > 0) <;> rfl
  have := h.count; have := h.cycles; have := h.clean; have := h.occ; have := h.last; have := hc.pass; have := hc.age; have := hc.heal
  have s := st_range b1 b2 b4 b8 b16
  unfold fault_right
  rw [hfr]
  simp only [fault_within, fault_has, fault_known, Option.bind_some, h.st, st_1, st_10, st_4, st_16, st_2, st_6]
  rw [w64_of (n := 0 - c.Pass) (by omega) (by omega), w64_of (n := c.Age - 1) (by omega) (by omega)]
  have e1 : (decide (stN b1 b2 b4 b8 b16 ≥ 0) && decide (stN b1 b2 b4 b8 b16 ≤ 31)) = true := by simp [s.1, s.2]
  have e2 : (decide (x.Count ≥ 0 - c.Pass) && decide (x.Count ≤ c.Fail)) = true := by simp; omega
  have e3 : (decide (x.Cycles ≥ 0) && decide (x.Cycles ≤ 2)) = true := by simp; omega
  have e4 : (decide (x.Clean ≥ 0) && decide (x.Clean ≤ c.Age - 1)) = true := by simp; omega
  have e5 : (decide (x.Occurrences ≥ 0) && decide (x.Occurrences ≤ 255)) = true := by simp; omega
  have e6 : (decide (x.Last ≥ 0) && decide (x.Last ≤ cycle)) = true := by simp; omega
  simp only [e1, e2, e3, e4, e5, e6, Bool.not_true, cond_false, Option.bind_some]
  have f1 : (bif b1 then some ((!(b2 && b8)) || (x.Last != cycle)) else some false) = some false := by
    cases hb : b1
    · rfl
    · obtain ⟨h1, h2, h3⟩ := h.k1 hb
      rw [h1, h2, h3]; simp
  rw [f1]
  simp only [Option.bind_some, cond_false]
  have f2 : (b4 == (x.Cycles == 2)) = true := by
    have := h.k4
    cases hb : b4
    · have h3 : ¬ x.Cycles = 2 := fun e => by have := this.2 e; rw [hb] at this; cases this
      simpa using h3
    · have h3 := this.1 hb
      simpa using h3
  rw [f2]
  simp only [Bool.not_true, cond_false]
  have f3 : (bif b16 then some ((!b4) || (!c.Lamp)) else some false) = some false := by
    cases hb : b16
    · rfl
    · obtain ⟨h1, h2⟩ := h.k16 hb
      rw [h1, h2]; rfl
  rw [f3]
  simp only [Option.bind_some, cond_false]
  have f4 : (b2 && (x.Clean != 0)) = false := by
    cases hb : b2
    · rfl
    · have := h.k2 hb; simp [this]
  rw [f4]
  simp only [cond_false]
  cases hk : b2 || b4
  · obtain ⟨h1, h2, h3, h4, h5⟩ := h.none hk
    simp [h1, h2, h3, h4, h5]
  · obtain ⟨h1, h2, h3, h4⟩ := h.known hk
    simp [h1, h2, h3, h4]
/-- A state of faults that is right, in a cycle; t: which faults were tested in this cycle. -/
structure Inv (l : List SConfig) (f : SFaults) (cycle : Int) (run : Bool) (t : Nat → Bool) : Prop where
  configs : f.Configs = l
  cyc : f.Cycle = cycle
  run : f.Running = run
  len : f.L.length = l.length
  rt : ∀ i (h1 : i < l.length) (h2 : i < f.L.length), Rt (l[i]) (f.L[i]) cycle (t i)
/-- Configurations that are right. -/
structure Cfs (l : List SConfig) : Prop where
  len : l.length ≤ 64
  cf : ∀ c ∈ l, cfB c = true
  codes : fault_codes l = some true
theorem Cfs.any {l : List SConfig} (h : Cfs l) : (l.any fun c => !cfB c) = false := by
  rw [List.any_eq_false]; intro c hc; simp [h.cf c hc]
theorem Cfs.ok {l : List SConfig} (h : Cfs l) {i : Nat} (hi : i < l.length) : CfOk l[i] := .of (h.cf _ (List.getElem_mem hi))
theorem valid_ok {l : List SConfig} {f : SFaults} {cycle : Int} {run : Bool} {t : Nat → Bool} (hc : Cfs l) (h : Inv l f cycle run t) (h0 : 0 ≤ cycle) (h1 : cycle ≤ 1073741824) (h2 : run = true → 1 ≤ cycle) : fault_Valid f = some true := by
  have hlen := hc.len
  have e0 : decide ((f.Configs.length : Int) > 64) = false := by rw [h.configs]; simp; omega
  have e2 : ((f.L.length : Int) != (f.Configs.length : Int)) = false := by rw [h.configs, h.len]; simp
  have e3 : (decide (f.Cycle ≥ 0) && decide (f.Cycle ≤ 1073741824)) = true := by rw [h.cyc]; simp [h0, h1]
  have e4 : (f.Running && decide (f.Cycle < 1)) = false := by
    rw [h.run, h.cyc]
    cases hr : run
    · rfl
    · have := h2 hr; simp; omega
  unfold fault_Valid
  rw [e0, contains_cf _ (by rw [h.configs]; omega)]
  have e1 : (f.Configs.any fun c => !cfB c) = false := by rw [h.configs]; exact hc.any
  rw [e1]
  have e5 : fault_codes f.Configs = some true := by rw [h.configs]; exact hc.codes
  rw [e5, e2]
  simp only [fault_within, e3, cond_false, Option.bind_some, Bool.not_true, Bool.or_self, e4]
  have hl := h.len
  obtain ⟨s, k1, _⟩ := rangeN_inv (R := Bool) f.L.length (by omega) (fault_Valid_b1 f) (fun _ _ => True) () trivial (fun j hj s _ => ⟨(), by
    unfold fault_Valid_b1
    have hj2 : j < f.Configs.length := by rw [h.configs]; omega
    rw [getI_get _ _ hj, getI_get _ _ hj2]
    simp only [Option.bind_some]
    have : f.Configs[j] = l[j]'(by omega) := by simp [h.configs]
    rw [this, h.cyc, right_ok (hc.ok (by omega)) (h.rt j (by omega) hj)]
    rfl, trivial⟩)
  rw [k1]
  rfl
theorem clone_ok {α : Type} (l : List α) (h : l.length ≤ 1073741824) : (Option.bind (appendM ([] : List α) l) fun l => some l) = some l := by
  rw [appendM_ok _ _ (by simpa using h)]; rfl
theorem set_same {α : Type} (l : List α) (i : Nat) (h : i < l.length) : l.set i l[i] = l := by simp
/-- A copy is the state itself. -/
theorem copied_ok {f : SFaults} (h : f.L.length ≤ 64) (hf : ∀ x ∈ f.L, x.Frame.length ≤ 8) : fault_copied f = some f := by
  unfold fault_copied slices_Clone_sFault
  rw [clone_ok _ (by omega)]
  simp only [Option.bind_some]
  obtain ⟨s, k1, k2⟩ := rangeN_inv (R := Empty) f.L.length (by omega) fault_copied_b1 (fun _ s => s = f.L) f.L rfl (fun j hj s hs => ⟨f.L, by
    subst hs
    unfold fault_copied_b1 slices_Clone_sint
    rw [getI_get _ _ hj]
    simp only [Option.bind_some]
    rw [clone_ok _ (by have := hf _ (List.getElem_mem hj); omega)]
    simp only [Option.bind_some]
    rw [setM_nat _ _ _ hj]
    have := set_same f.L j hj
    simp only [Option.bind_some]
    rw [show (⟨f.L[j].Status, f.L[j].Count, f.L[j].Cycles, f.L[j].Clean, f.L[j].Occurrences, f.L[j].Frame, f.L[j].Last⟩ : SFault) = f.L[j] from rfl, this], rfl⟩)
  rw [k1, k2]
  rfl
theorem Rt.frame8 {c : SConfig} {x : SFault} {cycle : Int} {b8 : Bool} (hc : CfOk c) (h : Rt c x cycle b8) : x.Frame.length ≤ 8 := by
  obtain ⟨b1, b2, b4, b16, h⟩ := h
  rcases h.frame with h1 | h1
  · simp [h1]
  · have := h1.1; have := hc.frame; omega
theorem Inv.frames {l : List SConfig} {f : SFaults} {cycle : Int} {run : Bool} {t : Nat → Bool} (hc : Cfs l) (h : Inv l f cycle run t) : ∀ x ∈ f.L, x.Frame.length ≤ 8 := by
  intro x hx
  obtain ⟨i, hi, rfl⟩ := List.mem_iff_getElem.1 hx
  have hl := h.len
  exact (h.rt i (by omega) hi).frame8 (hc.ok (by omega))
theorem Inv.copied {l : List SConfig} {f : SFaults} {cycle : Int} {run : Bool} {t : Nat → Bool} (hc : Cfs l) (h : Inv l f cycle run t) : fault_copied f = some f :=
  copied_ok (by have := h.len; have := hc.len; omega) (h.frames hc)
/-- Each element of a list turned, one after the other. -/
theorem rangeN_map {α R : Type} (l : List α) (hn : l.length ≤ 9223372036854775807) (f : Int → List α → Option (Fl (List α) R)) (g : Nat → α → α)
    (h : ∀ (j : Nat) (s : List α) (hj : j < s.length), s.length = l.length → s[j]? = l[j]? → f (j : Int) s = some (.next (s.set j (g j s[j])))) :
    rangeN (l.length : Int) f l = some (.inl (l.mapIdx g)) := by
  obtain ⟨s, k1, k2⟩ := rangeN_inv (R := R) l.length hn f (fun j s => s.length = l.length ∧ (∀ i, i < j → s[i]? = (l[i]?).map (g i)) ∧ ∀ i, j ≤ i → s[i]? = l[i]?) l ⟨rfl, fun i h => by omega, fun i _ => rfl⟩ (fun j hj s ⟨h1, h2, h3⟩ => by
    have hj' : j < s.length := by omega
    refine ⟨_, h j s hj' h1 (h3 j (Nat.le_refl _)), by simp [h1], fun i hi => ?_, fun i hi => ?_⟩
    · rw [List.getElem?_set]
      by_cases e : j = i
      · subst e
        rw [if_pos rfl, if_pos hj']
        have := h3 j (Nat.le_refl _)
        rw [← this, List.getElem?_eq_getElem hj']; rfl
      · rw [if_neg e]; exact h2 i (by omega)
    · rw [List.getElem?_set, if_neg (by omega)]; exact h3 i (by omega))
  rw [k1]
  congr 2
  apply List.ext_getElem?
  intro i
  rw [List.getElem?_mapIdx]
  by_cases hi : i < l.length
  · exact k2.2.1 i hi
  · rw [k2.2.2 i (by omega), List.getElem?_eq_none (by omega)]; rfl
def begF (x : SFault) : SFault := ⟨bitAndNot .i64 x.Status 9, 0, x.Cycles, x.Clean, x.Occurrences, x.Frame, x.Last⟩
theorem begin_rt {c : SConfig} {x : SFault} {cycle : Int} {b8 : Bool} (hc : CfOk c) (h : Rt c x cycle b8) : Rt c (begF x) (cycle + 1) false := by
  obtain ⟨b1, b2, b4, b16, h⟩ := h
  have := hc.pass; have := hc.fail; have := h.last
  refine ⟨false, b2, b4, b16, ?_, ?_, h.cycles, h.clean, h.occ, ?_, h.frame, ?_, h.k4, h.k16, h.k2, h.known, h.none⟩
  · show bitAndNot .i64 x.Status 9 = _
    rw [h.st, st_n9]
  · show -c.Pass ≤ (0 : Int) ∧ (0 : Int) ≤ c.Fail
    omega
  · show 0 ≤ x.Last ∧ x.Last ≤ cycle + 1
    omega
  · intro h; cases h
theorem begin_ok {l : List SConfig} {f : SFaults} {cycle : Int} {t : Nat → Bool} (hc : Cfs l) (h : Inv l f cycle false t) (h0 : 0 ≤ cycle) (h1 : cycle < 1073741824) :
    ∃ f', fault_Begin f = some (f', 0) ∧ Inv l f' (cycle + 1) true (fun _ => false) := by
  have hl := h.len; have hl2 := hc.len
  unfold fault_Begin
  rw [valid_ok hc h h0 (by omega) (fun e => by cases e)]
  have e1 : (f.Cycle == 1073741824) = false := by rw [h.cyc]; simp; omega
  rw [h.run, e1, h.copied hc]
  simp only [Option.bind_some, Bool.not_true, cond_false]
  rw [rangeN_map f.L (by omega) fault_Begin_b1 (fun _ x => begF x) (fun j s hj _ _ => by
    unfold fault_Begin_b1
    rw [getI_get _ _ hj]
    simp only [Option.bind_some]
    rw [setM_nat _ _ _ hj]
    simp only [Option.bind_some]
    rw [setM_nat _ _ _ (by simpa using hj)]
    simp only [Option.bind_some, List.set_set]
    rfl)]
  refine ⟨_, rfl, h.configs, ?_, rfl, by simp [hl], fun i a b => ?_⟩
  · show w64 (f.Cycle + 1) = _
    rw [h.cyc, w64_of (by omega) (by omega)]
  · simp only [List.getElem_mapIdx]
    exact begin_rt (hc.ok a) (h.rt i a (by omega))
theorem new_ok {l : List SConfig} (hl : l.length ≤ 9223372036854775807) : (∃ e, fault_New l = some (⟨[], [], 0, false⟩, e) ∧ e ≠ 0) ∨ (Cfs l ∧ ∃ f, fault_New l = some (f, 0) ∧ Inv l f 0 false (fun _ => false)) := by
  unfold fault_New
  cases h64 : decide ((l.length : Int) > 64)
  · have h64 : l.length ≤ 64 := by simp at h64; omega
    rw [contains_cf l (by omega)]
    cases hany : l.any fun c => !cfB c
    · obtain ⟨b, hb⟩ := codes_total l (by omega)
      rw [hb]
      cases b
      · left; exact ⟨8, rfl, by decide⟩
      · right
        have hcf : ∀ c ∈ l, cfB c = true := fun c hc => by
          rw [List.any_eq_false] at hany
          have := hany c hc
          simpa using this
        have hc : Cfs l := ⟨h64, hcf, hb⟩
        refine ⟨hc, ?_⟩
        unfold slices_Clone_sConfig
        rw [clone_ok l (by omega), makeM_nat _ (by omega)]
        refine ⟨_, rfl, rfl, rfl, rfl, by simp, fun i a b => ?_⟩
        have := hc.ok a
        simp only [List.getElem_replicate]
        refine ⟨false, false, false, false, rfl, ?_, ⟨by decide, by decide⟩, ?_, ⟨by decide, by decide⟩, ⟨by decide, by decide⟩, .inl rfl, fun h => (by cases h), ⟨fun h => (by cases h), fun h => (by cases h)⟩, fun h => (by cases h), fun h => (by cases h), fun h => (by cases h), fun _ => ⟨rfl, rfl, rfl, rfl, rfl⟩⟩
        · have h1 := this.pass; have h2 := this.fail
          show -l[i].Pass ≤ (0 : Int) ∧ (0 : Int) ≤ l[i].Fail
          omega
        · have h1 := this.heal; have h2 := this.age
          show (0 : Int) ≤ 0 ∧ (0 : Int) ≤ l[i].Age - 1
          omega
    · left; exact ⟨1, rfl, by decide⟩
  · left; exact ⟨5, rfl, by decide⟩
/-! ### the end of a cycle -/
def endF (c : SConfig) (cycle : Int) (x : SFault) : SFault :=
  bif (!(bitAnd .i64 x.Status 8 == 8)) || (x.Last == cycle) then x else
  bif bitAnd .i64 (bitAndNot .i64 x.Status 2) 4 == 4 then
    (bif w64 (x.Clean + 1) == c.Age then ⟨8, x.Count, 0, 0, 0, [], 0⟩ else
      bif decide (w64 (x.Clean + 1) ≥ c.Heal) then ⟨bitAndNot .i64 (bitAndNot .i64 x.Status 2) 16, x.Count, x.Cycles, w64 (x.Clean + 1), x.Occurrences, x.Frame, x.Last⟩
      else ⟨bitAndNot .i64 x.Status 2, x.Count, x.Cycles, w64 (x.Clean + 1), x.Occurrences, x.Frame, x.Last⟩)
  else ⟨8, x.Count, 0, 0, 0, [], 0⟩
theorem end_step (f : SFaults) (j : Nat) (s : List SFault) (hj : j < s.length) (hc : j < f.Configs.length) : fault_End_b1 f (j : Int) s = some (.next (s.set j (endF (f.Configs[j]) f.Cycle s[j]))) := by
  unfold fault_End_b1 endF
  rw [getI_get _ _ hj, getI_get _ _ hc]
  simp only [Option.bind_some, fault_has]
  have hset : ∀ y : SFault, (s.set j y).length = s.length := fun y => by simp
  cases h1 : (bitAnd .i64 s[j].Status 8 == 8) <;> cases h2 : (s[j].Last == f.Cycle) <;>
    simp only [Bool.not_true, Bool.not_false, cond_true, cond_false, Option.bind_some, Bool.true_or, Bool.or_true, Bool.or_false, Bool.false_or, set_same s j hj]
  rw [setM_nat _ _ _ hj]
  simp only [Option.bind_some]
  cases h3 : (bitAnd .i64 (bitAndNot .i64 s[j].Status 2) 4 == 4)
  · simp only [Bool.not_false, Bool.not_true, cond_true, cond_false, Option.bind_some]
    rw [getI_get _ _ (by simpa using hj)]
    simp only [Option.bind_some, List.getElem_set_self]
    rw [setM_nat _ _ _ (by simpa using hj)]
    simp only [Option.bind_some, List.set_set]
  · simp only [Bool.not_false, Bool.not_true, cond_true, cond_false]
    rw [setM_nat _ _ _ (by simpa using hj)]
    simp only [Option.bind_some, List.set_set]
    rw [getI_get _ _ (by simpa using hj)]
    simp only [Option.bind_some, List.getElem_set_self]
    cases h4 : (w64 (s[j].Clean + 1) == f.Configs[j].Age)
    · simp only [cond_false, Option.bind_some]
      cases h5 : decide (w64 (s[j].Clean + 1) ≥ f.Configs[j].Heal)
      · rfl
      · simp only [cond_true]
        rw [setM_nat _ _ _ (by simpa using hj)]
        simp only [Option.bind_some, List.set_set]
    · simp only [cond_true]
      rw [setM_nat _ _ _ (by simpa using hj)]
      simp only [Option.bind_some, List.set_set]
theorem end_rt {c : SConfig} {x : SFault} {cycle : Int} {b8 : Bool} (hc : CfOk c) (h : Rt c x cycle b8) : ∃ b, Rt c (endF c cycle x) cycle b := by
  obtain ⟨b1, b2, b4, b16, h⟩ := h
  have p1 := hc.pass; have p2 := hc.fail; have p3 := h.last; have p4 := h.clean; have p5 := hc.age; have p6 := hc.heal; have p7 := h.count
  have zero : Rt c ⟨8, x.Count, 0, 0, 0, [], 0⟩ cycle true :=
    ⟨false, false, false, false, rfl, h.count, ⟨Int.le_refl 0, by show (0 : Int) ≤ 2; decide⟩, ⟨Int.le_refl 0, by show (0 : Int) ≤ c.Age - 1; omega⟩, ⟨Int.le_refl 0, by show (0 : Int) ≤ 255; decide⟩, ⟨Int.le_refl 0, by show (0 : Int) ≤ cycle; omega⟩, .inl rfl, fun h => (by cases h), ⟨fun h => (by cases h), fun h => (by cases h)⟩, fun h => (by cases h), fun h => (by cases h), fun h => (by cases h), fun _ => ⟨rfl, rfl, rfl, rfl, rfl⟩⟩
  unfold endF
  rw [h.st, st_8, st_n2, st_4, st_n16, w64_of (n := x.Clean + 1) (by omega) (by omega)]
  cases hb8 : b8
  · subst hb8; exact ⟨false, b1, b2, b4, b16, h⟩
  · subst hb8
    cases hL : (x.Last == cycle)
    · have hL : ¬ x.Last = cycle := by simpa using hL
      have hb1 : b1 = false := by
        cases hb : b1
        · rfl
        · exact absurd (h.k1 hb).2.2 hL
      subst hb1
      simp only [Bool.not_true, Bool.or_false, cond_false]
      cases hb4 : b4
      · exact ⟨true, zero⟩
      · subst hb4
        simp only [cond_true]
        have hk := h.known (by simp)
        cases hA : (x.Clean + 1 == c.Age)
        · have hA : ¬ x.Clean + 1 = c.Age := by simpa using hA
          simp only [cond_false]
          have clean : 0 ≤ x.Clean + 1 ∧ x.Clean + 1 ≤ c.Age - 1 := by omega
          cases decide (x.Clean + 1 ≥ c.Heal)
          · exact ⟨true, false, false, true, b16, rfl, h.count, h.cycles, clean, h.occ, h.last, h.frame, fun h => (by cases h), h.k4, h.k16, fun h => (by cases h), fun _ => hk, fun h => (by cases h)⟩
          · exact ⟨true, false, false, true, false, rfl, h.count, h.cycles, clean, h.occ, h.last, h.frame, fun h => (by cases h), h.k4, fun h => (by cases h), fun h => (by cases h), fun _ => hk, fun h => (by cases h)⟩
        · exact ⟨true, zero⟩
    · exact ⟨true, b1, b2, b4, b16, h⟩
theorem end_ok {l : List SConfig} {f : SFaults} {cycle : Int} {t : Nat → Bool} (hc : Cfs l) (h : Inv l f cycle true t) (h0 : 1 ≤ cycle) (h1 : cycle ≤ 1073741824) :
    ∃ f' t', fault_End f = some (f', 0) ∧ Inv l f' cycle false t' := by
  obtain rfl := h.cyc
  have hl := h.len; have hl2 := hc.len
  unfold fault_End
  rw [valid_ok hc h (by omega) h1 (fun _ => h0), h.run, h.copied hc]
  simp only [Option.bind_some, Bool.not_true, cond_false]
  have hcl : f.Configs.length = l.length := by rw [h.configs]
  rw [rangeN_map f.L (by omega) (fault_End_b1 f) (fun j x => if hj : j < f.Configs.length then endF (f.Configs[j]) f.Cycle x else x) (fun j s hj e _ => by
    rw [end_step f j s hj (by omega), dif_pos (by omega)])]
  have key : ∀ i : Nat, ∃ b8, ∀ (a : i < l.length) (b : i < f.L.length), Rt (l[i]) (endF (l[i]) f.Cycle f.L[i]) f.Cycle b8 := fun i => by
    by_cases a : i < l.length
    · obtain ⟨b8, hb⟩ := end_rt (hc.ok a) (h.rt i a (by omega))
      exact ⟨b8, fun _ _ => hb⟩
    · exact ⟨false, fun a' => absurd a' a⟩
  obtain ⟨t', ht⟩ := Classical.axiomOfChoice key
  refine ⟨_, t', rfl, h.configs, h.cyc, rfl, by simp [hl], fun i a b => ?_⟩
  have b' : i < f.L.length := by omega
  have e1 : f.Configs[i]'(by omega) = l[i] := by simp [h.configs]
  have := ht i a b'
  simp only [List.getElem_mapIdx]
  rw [dif_pos (by omega), e1]
  exact this
/-! ### a result -/
def failF (c : SConfig) (cycle : Int) (fr : List Int) (x : SFault) : SFault :=
  let y : SFault := bif !(bitAnd .i64 x.Status 1 == 1) then ⟨x.Status, x.Count, x.Cycles, x.Clean, minI 255 (w64 (x.Occurrences + 1)), bif !(bitAnd .i64 x.Status 4 == 4) then fr else x.Frame, x.Last⟩ else x
  bif y.Last == cycle then ⟨bitOr .i64 y.Status 11, y.Count, y.Cycles, 0, y.Occurrences, y.Frame, y.Last⟩ else
  bif decide ((minI 2 (w64 (y.Cycles + 1))) < 2) then ⟨bitOr .i64 y.Status 11, y.Count, minI 2 (w64 (y.Cycles + 1)), 0, y.Occurrences, y.Frame, cycle⟩ else
  bif c.Lamp then ⟨bitOr .i64 (bitOr .i64 (bitOr .i64 y.Status 11) 4) 16, y.Count, minI 2 (w64 (y.Cycles + 1)), 0, y.Occurrences, y.Frame, cycle⟩
  else ⟨bitOr .i64 (bitOr .i64 y.Status 11) 4, y.Count, minI 2 (w64 (y.Cycles + 1)), 0, y.Occurrences, y.Frame, cycle⟩
theorem fails_eq (s : List SFault) (j : Nat) (hj : j < s.length) (c : SConfig) (cycle : Int) (fr : List Int) (hfr : fr.length ≤ 1073741824) : fault_fails s (j : Int) c cycle fr = some (s.set j (failF c cycle fr s[j])) := by
  have key : ∀ (s : List SFault) (hj : j < s.length), (Option.bind (getI s (j : Int)) fun x3 => Option.bind (setM s (j : Int) (⟨bitOr .i64 x3.Status 11, x3.Count, x3.Cycles, x3.Clean, x3.Occurrences, x3.Frame, x3.Last⟩ : SFault)) fun l4 => Option.bind (setM l4 (j : Int) (⟨bitOr .i64 x3.Status 11, x3.Count, x3.Cycles, 0, x3.Occurrences, x3.Frame, x3.Last⟩ : SFault)) fun l5 => bif (x3.Last == cycle) then (some l5) else (Option.bind (setM l5 (j : Int) (⟨bitOr .i64 x3.Status 11, x3.Count, x3.Cycles, 0, x3.Occurrences, x3.Frame, cycle⟩ : SFault)) fun l6 => Option.bind (setM l6 (j : Int) (⟨bitOr .i64 x3.Status 11, x3.Count, minI 2 (w64 (x3.Cycles + 1)), 0, x3.Occurrences, x3.Frame, cycle⟩ : SFault)) fun l7 => bif (decide ((minI 2 (w64 (x3.Cycles + 1))) < 2)) then (some l7) else (Option.bind (setM l7 (j : Int) (⟨bitOr .i64 (bitOr .i64 x3.Status 11) 4, x3.Count, minI 2 (w64 (x3.Cycles + 1)), 0, x3.Occurrences, x3.Frame, cycle⟩ : SFault)) fun l8 => bif c.Lamp then (Option.bind (setM l8 (j : Int) (⟨bitOr .i64 (bitOr .i64 (bitOr .i64 x3.Status 11) 4) 16, x3.Count, minI 2 (w64 (x3.Cycles + 1)), 0, x3.Occurrences, x3.Frame, cycle⟩ : SFault)) fun l9 => some l9) else (some l8)))) =
      some (s.set j (bif s[j].Last == cycle then ⟨bitOr .i64 s[j].Status 11, s[j].Count, s[j].Cycles, 0, s[j].Occurrences, s[j].Frame, s[j].Last⟩ else
  bif decide ((minI 2 (w64 (s[j].Cycles + 1))) < 2) then ⟨bitOr .i64 s[j].Status 11, s[j].Count, minI 2 (w64 (s[j].Cycles + 1)), 0, s[j].Occurrences, s[j].Frame, cycle⟩ else
  bif c.Lamp then ⟨bitOr .i64 (bitOr .i64 (bitOr .i64 s[j].Status 11) 4) 16, s[j].Count, minI 2 (w64 (s[j].Cycles + 1)), 0, s[j].Occurrences, s[j].Frame, cycle⟩
  else ⟨bitOr .i64 (bitOr .i64 s[j].Status 11) 4, s[j].Count, minI 2 (w64 (s[j].Cycles + 1)), 0, s[j].Occurrences, s[j].Frame, cycle⟩)) := by
    intro s hj
    rw [getI_get _ _ hj]
    simp only [Option.bind_some]
    rw [setM_nat _ _ _ hj]
    simp only [Option.bind_some]
    rw [setM_nat _ _ _ (by simpa using hj)]
    simp only [Option.bind_some, List.set_set]
    cases (s[j].Last == cycle)
    · simp only [cond_false]
      rw [setM_nat _ _ _ (by simpa using hj)]
      simp only [Option.bind_some, List.set_set]
      rw [setM_nat _ _ _ (by simpa using hj)]
      simp only [Option.bind_some, List.set_set]
      cases decide ((minI 2 (w64 (s[j].Cycles + 1))) < 2)
      · simp only [cond_false]
        rw [setM_nat _ _ _ (by simpa using hj)]
        simp only [Option.bind_some, List.set_set]
        cases c.Lamp
        · rfl
        · simp only [cond_true]
          rw [setM_nat _ _ _ (by simpa using hj)]
          simp only [Option.bind_some, List.set_set]
      · rfl
    · rfl
  unfold fault_fails
  rw [getI_get _ _ hj]
  simp only [Option.bind_some, fault_has]
  unfold failF
  cases h1 : (bitAnd .i64 s[j].Status 1 == 1)
  · simp only [Bool.not_false, cond_true]
    rw [setM_nat _ _ _ hj]
    simp only [Option.bind_some]
    cases h4 : (bitAnd .i64 s[j].Status 4 == 4)
    · simp only [Bool.not_false, cond_true, slices_Clone_sint]
      rw [clone_ok fr hfr]
      simp only [Option.bind_some]
      rw [setM_nat _ _ _ (by simpa using hj)]
      simp only [Option.bind_some, List.set_set]
      rw [key _ (by simpa using hj)]
      simp only [List.getElem_set_self, List.set_set]
    · simp only [Bool.not_true, cond_false, Option.bind_some]
      rw [key _ (by simpa using hj)]
      simp only [List.getElem_set_self, List.set_set]
  · simp only [Bool.not_true, cond_false, Option.bind_some]
    rw [key _ hj]
theorem fail_rt {c : SConfig} {x : SFault} {cycle : Int} {b8 : Bool} {fr : List Int} (hc : CfOk c) (h : Rt c x cycle b8) (hfr : FrOk c fr) (h1 : 1 ≤ cycle) : Rt c (failF c cycle fr x) cycle true := by
  obtain ⟨b1, b2, b4, b16, h⟩ := h
  have p3 := h.last; have p8 := h.occ; have p9 := h.cycles; have p10 := hc.age; have p11 := hc.heal
  have clean : 0 ≤ (0 : Int) ∧ (0 : Int) ≤ c.Age - 1 := by omega
  have n1 : (0 : Int) ≤ 1 ∧ (1 : Int) ≤ 2 := by decide
  have n2 : (0 : Int) ≤ 2 ∧ (2 : Int) ≤ 2 := by decide
  have m1 : (1 : Int) ≤ 1 := by decide
  have m2 : (1 : Int) ≤ 2 := by decide
  obtain ⟨y, hy, hst, hcn, hcy, hocc, hlast, hfrm, hfl⟩ : ∃ y : SFault, y = (bif !(bitAnd .i64 x.Status 1 == 1) then (⟨x.Status, x.Count, x.Cycles, x.Clean, minI 255 (w64 (x.Occurrences + 1)), bif !(bitAnd .i64 x.Status 4 == 4) then fr else x.Frame, x.Last⟩ : SFault) else x) ∧
      y.Status = stN b1 b2 b4 b8 b16 ∧ y.Count = x.Count ∧ y.Cycles = x.Cycles ∧ (1 ≤ y.Occurrences ∧ y.Occurrences ≤ 255) ∧ y.Last = x.Last ∧ (y.Frame = [] ∨ FrOk c y.Frame) ∧ (y.Frame.length : Int) = c.Frame := by
    refine ⟨_, rfl, ?_⟩
    rw [h.st, st_1, st_4]
    cases hb1 : b1
    · subst hb1
      simp only [Bool.not_false, cond_true]
      refine ⟨trivial, trivial, trivial, ?_, trivial, ?_⟩
      · rw [w64_of (n := x.Occurrences + 1) (by omega) (by omega)]
        unfold minI; split <;> omega
      · cases hb4 : b4
        · simp only [Bool.not_false, cond_true]; exact ⟨.inr hfr, hfr.1⟩
        · subst hb4
          simp only [Bool.not_true, cond_false]
          exact ⟨h.frame, (h.known (by simp)).2.2.2⟩
    · subst hb1
      have k := h.k1 rfl
      have hk := h.known (by rw [k.1]; rfl)
      simp only [Bool.not_true, cond_false]
      exact ⟨h.st, trivial, trivial, ⟨hk.1, h.occ.2⟩, trivial, h.frame, hk.2.2.2⟩
  unfold failF
  rw [← hy]
  simp only [hst, st_o11, st_o4, st_o16]
  cases hL : (y.Last == cycle)
  · have hL : ¬ x.Last = cycle := by rw [hlast] at hL; simpa using hL
    have hb1 : b1 = false := by
      cases hb : b1
      · rfl
      · exact absurd (h.k1 hb).2.2 hL
    simp only [cond_false]
    rw [hcy, w64_of (n := x.Cycles + 1) (by omega) (by omega)]
    have hm : minI 2 (x.Cycles + 1) = if x.Cycles = 0 then 1 else 2 := by unfold minI; split <;> split <;> omega
    rw [hm]
    by_cases hz : x.Cycles = 0
    · have hb4 : b4 = false := by
        cases hb : b4
        · rfl
        · have := h.k4.1 hb; omega
      subst hb4
      rw [if_pos hz]
      simp only [show decide ((1 : Int) < 2) = true from rfl, cond_true]
      exact ⟨true, true, false, b16, rfl, by rw [show (⟨_, y.Count, _, _, _, _, _⟩ : SFault).Count = x.Count from hcn]; exact h.count, n1, clean, ⟨by have := hocc.1; show 0 ≤ y.Occurrences; omega, hocc.2⟩, ⟨by show 0 ≤ cycle; omega, Int.le_refl _⟩, hfrm, fun _ => ⟨rfl, rfl, rfl⟩, ⟨fun h => (by cases h), fun h => (by cases h)⟩, h.k16, fun _ => rfl, fun _ => ⟨hocc.1, m1, h1, hfl⟩, fun h => (by cases h)⟩
    · rw [if_neg hz]
      simp only [show decide ((2 : Int) < 2) = false from rfl, cond_false]
      cases hlp : c.Lamp
      · simp only [cond_false]
        exact ⟨true, true, true, b16, rfl, by rw [show (⟨_, y.Count, _, _, _, _, _⟩ : SFault).Count = x.Count from hcn]; exact h.count, n2, clean, ⟨by have := hocc.1; show 0 ≤ y.Occurrences; omega, hocc.2⟩, ⟨by show 0 ≤ cycle; omega, Int.le_refl _⟩, hfrm, fun _ => ⟨rfl, rfl, rfl⟩, ⟨fun _ => rfl, fun _ => rfl⟩, fun hb => ⟨rfl, (h.k16 hb).2⟩, fun _ => rfl, fun _ => ⟨hocc.1, m2, h1, hfl⟩, fun h => (by cases h)⟩
      · simp only [cond_true]
        exact ⟨true, true, true, true, rfl, by rw [show (⟨_, y.Count, _, _, _, _, _⟩ : SFault).Count = x.Count from hcn]; exact h.count, n2, clean, ⟨by have := hocc.1; show 0 ≤ y.Occurrences; omega, hocc.2⟩, ⟨by show 0 ≤ cycle; omega, Int.le_refl _⟩, hfrm, fun _ => ⟨rfl, rfl, rfl⟩, ⟨fun _ => rfl, fun _ => rfl⟩, fun _ => ⟨rfl, hlp⟩, fun _ => rfl, fun _ => ⟨hocc.1, m2, h1, hfl⟩, fun h => (by cases h)⟩
  · have hL : x.Last = cycle := by rw [hlast] at hL; simpa using hL
    simp only [cond_true]
    -- it failed in this cycle: it is known
    have hkn : (b2 || b4) = true := by
      cases hk : b2 || b4
      · have := (h.none hk).2.2.2.1; omega
      · rfl
    have hk := h.known hkn
    exact ⟨true, true, b4, b16, rfl, by rw [show (⟨_, y.Count, _, _, _, _, _⟩ : SFault).Count = x.Count from hcn]; exact h.count, by rw [show (⟨_, _, y.Cycles, _, _, _, _⟩ : SFault).Cycles = x.Cycles from hcy]; exact h.cycles, clean, ⟨by have := hocc.1; show 0 ≤ y.Occurrences; omega, hocc.2⟩, by rw [show (⟨_, _, _, _, _, _, y.Last⟩ : SFault).Last = x.Last from hlast]; exact h.last, hfrm, fun _ => ⟨rfl, rfl, hlast.trans hL⟩,
      by rw [show (⟨_, _, y.Cycles, _, _, _, _⟩ : SFault).Cycles = x.Cycles from hcy]; exact h.k4, h.k16, fun _ => rfl, fun _ => ⟨hocc.1, by rw [show (⟨_, _, y.Cycles, _, _, _, _⟩ : SFault).Cycles = x.Cycles from hcy]; exact hk.2.1, by rw [show (⟨_, _, _, _, _, _, y.Last⟩ : SFault).Last = x.Last from hlast]; omega, hfl⟩, fun h => (by cases h)⟩
/-- The fault behind a result. -/
def cntF (c : SConfig) (bad : Bool) (x : SFault) : SFault :=
  ⟨x.Status, bif bad then minI c.Fail (w64 ((maxI x.Count 0) + 1)) else maxI (w64 (0 - c.Pass)) (w64 ((minI x.Count 0) - 1)), x.Cycles, x.Clean, x.Occurrences, x.Frame, x.Last⟩
def resF (c : SConfig) (cycle : Int) (bad : Bool) (fr : List Int) (x : SFault) : SFault :=
  let y := cntF c bad x
  bif y.Count == c.Fail then failF c cycle fr y else
  bif y.Count == w64 (0 - c.Pass) then ⟨bitAndNot .i64 (bitOr .i64 y.Status 8) 1, y.Count, y.Cycles, y.Clean, y.Occurrences, y.Frame, y.Last⟩ else y
theorem cnt_rt {c : SConfig} {x : SFault} {cycle : Int} {b8 : Bool} (bad : Bool) (hc : CfOk c) (h : Rt c x cycle b8) : Rt c (cntF c bad x) cycle b8 := by
  obtain ⟨b1, b2, b4, b16, h⟩ := h
  have p1 := h.count; have p2 := hc.pass; have p3 := hc.fail
  refine ⟨b1, b2, b4, b16, h.st, ?_, h.cycles, h.clean, h.occ, h.last, h.frame, h.k1, h.k4, h.k16, h.k2, h.known, h.none⟩
  show -c.Pass ≤ (bif bad then _ else _) ∧ (bif bad then _ else _) ≤ c.Fail
  have a1 : maxI x.Count 0 = if 0 > x.Count then 0 else x.Count := rfl
  have a2 : minI x.Count 0 = if 0 < x.Count then 0 else x.Count := rfl
  cases bad
  · simp only [cond_false]
    rw [a2, w64_of (n := 0 - c.Pass) (by omega) (by omega)]
    split
    · rw [w64_of (by omega) (by omega)]; unfold maxI; split <;> omega
    · rw [w64_of (by omega) (by omega)]; unfold maxI; split <;> omega
  · simp only [cond_true]
    rw [a1]
    split
    · rw [w64_of (by omega) (by omega)]; unfold minI; split <;> omega
    · rw [w64_of (by omega) (by omega)]; unfold minI; split <;> omega
theorem res_rt {c : SConfig} {x : SFault} {cycle : Int} {b8 : Bool} {fr : List Int} (bad : Bool) (hc : CfOk c) (h : Rt c x cycle b8) (hfr : FrOk c fr) (h1 : 1 ≤ cycle) : ∃ b, Rt c (resF c cycle bad fr x) cycle b ∧ (b8 = true → b = true) := by
  have h' := cnt_rt bad hc h
  unfold resF
  simp only
  cases (cntF c bad x).Count == c.Fail
  · simp only [cond_false]
    cases (cntF c bad x).Count == w64 (0 - c.Pass)
    · exact ⟨b8, h', id⟩
    · simp only [cond_true]
      refine ⟨true, ?_, fun _ => rfl⟩
      obtain ⟨b1, b2, b4, b16, h'⟩ := h'
      exact ⟨false, b2, b4, b16, by show bitAndNot .i64 (bitOr .i64 (cntF c bad x).Status 8) 1 = _; rw [h'.st, st_o8, st_n1], h'.count, h'.cycles, h'.clean, h'.occ, h'.last, h'.frame, fun h => (by cases h), h'.k4, h'.k16, h'.k2, h'.known, h'.none⟩
  · exact ⟨true, fail_rt hc h' hfr h1, fun _ => rfl⟩
theorem result_ok {l : List SConfig} {f : SFaults} {cycle : Int} {t : Nat → Bool} {q : Nat} {bad : Bool} {fr : List Int} (hc : Cfs l) (h : Inv l f cycle true t) (h0 : 1 ≤ cycle) (h1 : cycle ≤ 1073741824) (hq : q < l.length) (hfr : FrOk (l[q]) fr) :
    ∃ f' b, fault_Result f (q : Int) bad fr = some (f', 0) ∧ Inv l f' cycle true (fun i => if i = q then b else t i) ∧ (t q = true → b = true) := by
  have hl := h.len; have hl2 := hc.len
  have hq2 : q < f.L.length := by omega
  have hq3 : q < f.Configs.length := by rw [h.configs]; omega
  have e1 : f.Configs[q] = l[q] := by simp [h.configs]
  have hfl : fr.length ≤ 8 := by have := hfr.1; have := (hc.ok hq).frame; omega
  have g1 : decide ((q : Int) < 0) = false := by simp
  have g2 : decide ((q : Int) ≥ (f.L.length : Int)) = false := by simp; omega
  obtain ⟨b, hb, hm⟩ := res_rt (fr := fr) bad (hc.ok hq) (h.rt q hq hq2) hfr h0
  have hset : ∀ y : SFault, q < (f.L.set q y).length := fun y => by simpa using hq2
  have main : fault_Result f (q : Int) bad fr = some (⟨f.Configs, f.L.set q (resF (l[q]) cycle bad fr f.L[q]), f.Cycle, f.Running⟩, 0) := by
    unfold fault_Result
    rw [valid_ok hc h (by omega) h1 (fun _ => h0), g1, g2, h.run, getI_get _ _ hq3, e1]
    simp only [Option.bind_some, Bool.not_true, Bool.or_self, cond_false]
    rw [frame_ok (hc.ok hq) hfr, h.copied hc]
    simp only [Option.bind_some, Bool.not_true, Bool.or_self, cond_false]
    rw [getI_get _ _ hq2, getI_get _ _ hq3, e1]
    simp only [Option.bind_some]
    rw [setM_nat _ _ _ hq2, setM_nat _ _ _ hq2]
    simp only [Option.bind_some]
    have e2 : (bif bad then some (f.L.set q ⟨f.L[q].Status, minI l[q].Fail (w64 (maxI f.L[q].Count 0 + 1)), f.L[q].Cycles, f.L[q].Clean, f.L[q].Occurrences, f.L[q].Frame, f.L[q].Last⟩) else some (f.L.set q ⟨f.L[q].Status, maxI (w64 (0 - l[q].Pass)) (w64 (minI f.L[q].Count 0 - 1)), f.L[q].Cycles, f.L[q].Clean, f.L[q].Occurrences, f.L[q].Frame, f.L[q].Last⟩)) = some (f.L.set q (cntF (l[q]) bad f.L[q])) := by
      unfold cntF; cases bad <;> rfl
    rw [e2]
    simp only [Option.bind_some]
    rw [getI_get _ _ (hset _)]
    simp only [Option.bind_some, List.getElem_set_self]
    unfold resF
    simp only
    cases (cntF (l[q]) bad f.L[q]).Count == (l[q]).Fail
    · simp only [cond_false]
      cases (cntF (l[q]) bad f.L[q]).Count == w64 (0 - (l[q]).Pass)
      · simp only [cond_false]; rw [h.run]
      · simp only [cond_true]
        rw [setM_nat _ _ _ (hset _)]
        simp only [Option.bind_some, List.set_set]
        rw [setM_nat _ _ _ (hset _)]
        simp only [Option.bind_some, List.set_set]
        rw [h.run]
    · simp only [cond_true]
      rw [fails_eq _ _ (hset _) _ _ _ (by omega)]
      simp only [Option.bind_some, List.getElem_set_self, List.set_set]
      rw [h.run, h.cyc]
  refine ⟨_, b, main, ⟨h.configs, h.cyc, h.run, by simp [hl], fun i a c => ?_⟩, hm⟩
  simp only [List.getElem_set]
  by_cases hi : q = i
  · subst hi; simp only [if_true]; exact hb
  · rw [if_neg hi, if_neg (fun e => hi e.symm)]; exact h.rt i a (by omega)
end Fr
end Go.Pv

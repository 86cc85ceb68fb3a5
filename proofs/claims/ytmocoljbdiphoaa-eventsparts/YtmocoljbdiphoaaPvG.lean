/- The value machine, part G: one quiet operation, and many. -/
import Derived.Test.YtmocoljbdiphoaaPvF
namespace Go.Pv
open Go.RowKit

section
variable {P : Program} {tab : Tab} {w0 : World} {L : Lim} {nt : Nat} {σ σ' : St} {S : Nat → Prop} {E : Nat → Value} {a : Act} {w : World} {t : T}

theorem fieldAddr_ok {s f p n m : Nat} {fs : List (Nat × Nat)} {sz : Nat} {z : List Value} (hti : TIok P s ⟨sz, .struct fs, z⟩) (hf : fs[f]? = some (p, n + 1)) (b o : Nat) (_ : m = p) :
    (Instr.fieldAt s (.pointer (some ⟨b, o, none⟩)) f).run P w = .ok (.pointer (some ⟨b, o + p, none⟩)) w := by
  obtain ⟨d, hd, ho⟩ := hti.run_under w
  simp only [TD.ok] at ho
  obtain ⟨fds, rfl, hl, hfs⟩ := ho
  obtain ⟨fd, i, h1, h2, h3, h4⟩ := hfs f p (n + 1) hf
  simp [Instr.fieldAt, hd, h1, Instr.sureAddr, fieldPlace, sizeOf, typeInfo, h3, h4, addr_add, h2]

theorem RV.el_drop {b o : Nat} {cells : List Tree} (h : RV w S E (.pointer (some ⟨b, o, none⟩)) (.el cells)) (p : Nat) : RV w S E (.pointer (some ⟨b, o + p, none⟩)) (.el (cells.drop p)) := by
  cases h with
  | el _ _ _ vs hS hc hr =>
    refine .el b (o + p) _ (fun j => vs (p + j)) hS (fun j hj => ?_) (fun j hj => ?_)
    · simp only [List.length_drop] at hj
      rw [Nat.add_assoc]
      exact hc (p + j) (by omega)
    · simp only [List.length_drop] at hj
      simpa using hr (p + j) (by omega)

theorem RV.el_inv {x : Value} {cells : List Tree} (h : RV w S E x (.el cells)) : ∃ b o, x = .pointer (some ⟨b, o, none⟩) := by cases h with | el b o => exact ⟨b, o, rfl⟩
theorem RV.ptr_inv {x : Value} {id off : Nat} (h : RV w S E x (.ptr id off)) : ∃ b, x = .pointer (some ⟨b, off, none⟩) ∧ E id = .pointer (some ⟨b, 0, none⟩) := by cases h with | ptr _ _ b h => exact ⟨b, rfl, h⟩

theorem alloc_rvl (l : List Value) : RVL w S E l (l.map fun z => T.t (.v z)) := ⟨by simp, fun j h1 h2 => by simpa using RV.t (.v _)⟩

theorem build_ok (htab : TabOk P tab) (hok : Ok w0 L nt σ S E a w) {ty sz : Nat} {fs : List (Nat × Nat)} {z : List Value} (hl : look tab ty = some ⟨sz, .struct fs, z⟩) {parts : Array (Nat × Operand)} {l : List T}
    (h : fillT σ.hp σ.tm (fs[·]?) (z.map fun x => .t (.v x)) parts.toList = some l) : ∃ v, (Instr.build ty (parts.map fun (i, x) => (i, a.eval x))).run P w = .ok v w ∧ RV w S E v (.agg l) := by
  obtain ⟨zv, hz, hzc⟩ := (htab ty _ hl).run_zero w
  obtain ⟨d, hd, ho⟩ := (htab ty _ hl).run_under w
  simp only [TD.ok] at ho
  obtain ⟨fds, rfl, hlen, hfs⟩ := ho
  simp only at hzc
  have hr : RVL w S E zv.cells.toList (z.map fun x => T.t (.v x)) := by rw [hzc]; exact alloc_rvl z
  obtain ⟨cs', hfill, hrl⟩ := fill_ok hok parts.toList zv.cells _ l hr h
  have hpl : (fds.mapM fun f => (do pure (f.offset, ← sizeOf f.type) : Sem (Nat × Nat))).run P w = .ok fs.toArray w := by
    have key : ∀ (fl : List Field) (k : List (Nat × Nat)), k.length = fl.length → (∀ (f : Nat) (o n : Nat), k[f]? = some (o, n) → ∃ (fd : Field) (i : TypeInfo), fl[f]? = some fd ∧ fd.offset = o ∧ P.info? fd.type = some i ∧ i.size = n) →
        (fl.mapM fun f => (do pure (f.offset, ← sizeOf f.type) : Sem (Nat × Nat))).run P w = .ok k w := by
      intro fl
      induction fl with
      | nil => intro k hk _; simp at hk; subst hk; simp
      | cons f fl ih =>
        intro k hk hall
        cases k with
        | nil => simp at hk
        | cons q k =>
          obtain ⟨o, n⟩ := q
          obtain ⟨fd, i, h1, h2, h3, h4⟩ := hall 0 o n rfl
          simp only [List.getElem?_cons_zero, Option.some.injEq] at h1
          subst h1
          have := ih k (by simpa using hk) (fun j o n hj => by simpa using hall (j + 1) o n (by simpa using hj))
          simp [List.mapM_cons, sizeOf, typeInfo, h3, h4, h2] at this ⊢
          simp [this]
    have := key fds.toList fs (by simpa using hlen) (fun f o n hf => by simpa using hfs f o n hf)
    rw [Array.mapM_eq_mapM_toList, Sem.run_map, this]
    rfl
  refine ⟨.agg cs', ?_, ?_⟩
  · simp only [Instr.build, Sem.run_bind, hz, Result.andThen_ok, hd, hpl]
    have : (parts.map fun (i, x) => (i, a.eval x)).toList = parts.toList.map fun (i, x) => (i, a.eval x) := by simp
    rw [this]
    have e : (fun x : Nat => fs.toArray[x]?) = (fun x : Nat => fs[x]?) := by funext x; simp
    rw [e, hfill]
    simp
  · have := RV.agg (w := w) (S := S) (E := E) cs'.toList l hrl.1 hrl.2
    simpa using this

theorem buildArr_ok (htab : TabOk P tab) (hok : Ok w0 L nt σ S E a w) {ty sz n e : Nat} {te : TI} {z : List Value} (hl : look tab ty = some ⟨sz, .array n e, z⟩) (he : look tab e = some te) {parts : Array (Nat × Operand)} {l : List T}
    (h : fillT σ.hp σ.tm (fun i => some (i * te.size, te.size)) (z.map fun x => .t (.v x)) parts.toList = some l) : ∃ v, (Instr.build ty (parts.map fun (i, x) => (i, a.eval x))).run P w = .ok v w ∧ RV w S E v (.agg l) := by
  obtain ⟨zv, hz, hzc⟩ := (htab ty _ hl).run_zero w
  obtain ⟨d, hd, ho⟩ := (htab ty _ hl).run_under w
  simp only [TD.ok] at ho
  subst ho
  simp only at hzc
  have hr : RVL w S E zv.cells.toList (z.map fun x => T.t (.v x)) := by rw [hzc]; exact alloc_rvl z
  obtain ⟨cs', hfill, hrl⟩ := fill_ok hok parts.toList zv.cells _ l hr h
  refine ⟨.agg cs', ?_, ?_⟩
  · have hp : (parts.map fun (i, x) => (i, a.eval x)).toList = parts.toList.map fun (i, x) => (i, a.eval x) := by simp
    simp only [Instr.build, Sem.run_bind, hz, Result.andThen_ok, hd, (htab e _ he).run_size w, hp, hfill, Sem.run_pure]
  · have := RV.agg (w := w) (S := S) (E := E) cs'.toList l hrl.1 hrl.2
    simpa using this

theorem arrAddr_ok {t n e i b o : Nat} {ik : IntKind} {te : TI} {sz : Nat} {z : List Value} (htab : TabOk P tab) (hti : look tab t = some ⟨sz, .array n e, z⟩) (he : look tab e = some te) (hi : i < n) :
    (Instr.indexAt t (.pointer (some ⟨b, o, none⟩)) (.int ik (Int.ofNat i))).run P w = .ok (.pointer (some ⟨b, o + i * te.size, none⟩)) w := by
  obtain ⟨d, hd, ho⟩ := (htab t _ hti).run_under w
  simp only [TD.ok] at ho
  subst ho
  have hs := (htab e _ he).run_size w
  have c1 : (0 : Int) ≤ (Int.ofNat i) ∧ (Int.ofNat i) < (n : Int) := ⟨Int.natCast_nonneg i, by simpa using hi⟩
  simp only [Instr.indexAt, asIntOf, Sem.run_bind, Sem.run_pure, Result.andThen_ok, hd, Instr.sureAddr, c1, and_self, if_true, hs, addr_add]
  simp

theorem arrPart_ok {t n e i : Nat} {ik : IntKind} {te : TI} {sz : Nat} {z : List Value} (htab : TabOk P tab) (hti : look tab t = some ⟨sz, .array n e, z⟩) (he : look tab e = some te) (hi : i < n) {vs : List Value} {l : List T} (hv : RVL w S E vs l) {r : T}
    (hr : takeT te.desc.isAgg te.size l (i * te.size) = some r) : ∃ v, (Instr.index t (.agg vs.toArray) (.int ik (Int.ofNat i))).run P w = .ok v w ∧ RV w S E v r := by
  obtain ⟨d, hd, ho⟩ := (htab t _ hti).run_under w
  simp only [TD.ok] at ho
  subst ho
  have hs := (htab e _ he).run_size w
  have hag := (htab e _ he).run_agg w
  have c1 : (0 : Int) ≤ (Int.ofNat i) ∧ (Int.ofNat i) < (n : Int) := ⟨Int.natCast_nonneg i, by simpa using hi⟩
  unfold takeT at hr
  have hl := hv.1
  cases hb : te.desc.isAgg
  · simp only [hb, cond_false] at hr
    obtain ⟨hlt, rfl⟩ := List.getElem?_eq_some_iff.1 hr
    have hlt' : i * te.size < vs.length := by omega
    refine ⟨vs[i * te.size], ?_, hv.2 _ hlt' hlt⟩
    rw [hb] at hag
    simp only [Instr.index, asIntOf, Sem.run_bind, Sem.run_pure, Result.andThen_ok, hd, c1, and_self, if_true, hs, part, hag]
    simp [hlt']
  · simp only [hb, cond_true] at hr
    cases hle : Nat.ble (i * te.size + te.size) l.length <;> simp only [hle, cond_true, cond_false, Option.some.injEq, reduceCtorEq] at hr
    subst hr
    have hle := Nat.le_of_ble_eq_true hle
    rw [hb] at hag
    refine ⟨.agg (vs.toArray.extract (i * te.size) (i * te.size + te.size)), ?_, ?_⟩
    · simp only [Instr.index, asIntOf, Sem.run_bind, Sem.run_pure, Result.andThen_ok, hd, c1, and_self, if_true, hs, part, hag]
      simp [hs]
    · have key := RV.agg (w := w) (S := S) (E := E) ((vs.drop (i * te.size)).take te.size) ((l.drop (i * te.size)).take te.size) (by simp; omega) (fun j h1 h2 => by
        simp only [List.length_take, List.length_drop] at h1 h2
        have := hv.2 (i * te.size + j) (by omega) (by omega)
        simpa using this)
      have e1 : vs.toArray.extract (i * te.size) (i * te.size + te.size) = ((vs.drop (i * te.size)).take te.size).toArray := by
        apply Array.ext'
        simp [List.take_drop]
      rw [e1]
      exact key

theorem buildSlice_ok (htab : TabOk P tab) (hok : Ok w0 L nt σ S E a w) {ty sz e n : Nat} {z : List Value} {ti : TI} (hl : look tab ty = some ⟨sz, .slice e, z⟩) (he : look tab e = some ti)
    {parts : Array (Nat × Operand)} {l : List T} (h : fillT σ.hp σ.tm (fun i => some (i * ti.size, ti.size)) ((zeros n ti.zero).map fun x => .t (.v x)) parts.toList = some l)
    (hb1 : n * ti.size ≤ 1000000) (hb2 : ti.zero.length = ti.size) (hb3 : 0 < ti.size) :
    ∃ cs : Array Value, (Instr.buildSlice ty n (parts.map fun (i, x) => (i, a.eval x))).run P w = .ok (.slice (some ⟨w.heap.size, 0, none⟩) n n) (w.alloc (.cells cs e)) ∧ RVL w S E cs.toList l := by
  obtain ⟨d, hd, ho⟩ := (htab ty _ hl).run_under w
  simp only [TD.ok] at ho
  subst ho
  obtain ⟨zv, hz, hzc⟩ := (htab e _ he).run_zero w
  have hs := (htab e _ he).run_size w
  have hzs : zv.cells.size = ti.size := by rw [← hb2, ← hzc]; simp
  have e1 : ∃ start : Array Value, start.toList = zeros n ti.zero ∧
      (do let zero ← if n * ti.size = 0 then pure #[] else do pure (← zeroValue e).cells
          pure ((Array.range (n * ti.size)).map (zero[· % zero.size]!)) : Sem (Array Value)).run P w = .ok start w := by
    by_cases h0 : n * ti.size = 0
    · refine ⟨#[], ?_, by simp [h0]⟩
      have : (zeros n ti.zero).length = 0 := by rw [zeros_length, hb2, h0]
      exact (List.eq_nil_of_length_eq_zero this).symm
    · refine ⟨(zeros n ti.zero).toArray, rfl, ?_⟩
      simp only [h0, if_false, Sem.run_bind, hz, Result.andThen_ok, Sem.run_pure]
      rw [← hzs, zeros_eq n zv.cells (by omega), hzc]
  obtain ⟨start, hst, hrun⟩ := e1
  have hr : RVL w S E start.toList ((zeros n ti.zero).map fun x => T.t (.v x)) := by rw [hst]; exact alloc_rvl _
  obtain ⟨cs', hfill, hrl⟩ := fill_ok hok parts.toList start _ l hr h
  refine ⟨cs', ?_, hrl⟩
  have hp : (parts.map fun (i, x) => (i, a.eval x)).toList = parts.toList.map fun (i, x) => (i, a.eval x) := by simp
  have hlim : ¬ n * ti.size > 2 ^ 24 := by omega
  by_cases h0 : n * ti.size = 0
  · have hr0 : ∀ f : Nat → Value, (Array.range 0).map f = #[] := fun f => by simp
    simp only [h0, if_true, Sem.run_bind, Sem.run_pure, Result.andThen_ok] at hrun
    simp only [Result.ok.injEq, and_true, hr0] at hrun
    simp only [Instr.buildSlice, Sem.run_bind, hd, Result.andThen_ok, hs, h0, if_true, Sem.run_pure, hr0, hp]
    simp only [← hrun] at hfill
    simp only [hfill]
    simp [newRow]
  · simp only [h0, if_false, Sem.run_bind, hz, Result.andThen_ok, Sem.run_pure, Result.ok.injEq, and_true] at hrun
    simp only [Instr.buildSlice, Sem.run_bind, hd, Result.andThen_ok, hs, hlim, if_false, h0, Sem.run_pure, hz, hrun, hp, hfill]
    simp [newRow]
end
end Go.Pv

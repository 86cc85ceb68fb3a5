/- This file joins: The value machine, part Xr: in a region that draws its order, a load is taken at once where all that might write wait for it. Part Xq: elements of arrays by an index that is not known. The value machine, part Xs: many small steps at once, and short words for what is said often. The walk reckoned, part A: what is to be held equal, as one tree; operations that need no word. The walk reckoned, part B: that the steps that need no word are the machine's. The walk reckoned, part C: functions with their models; operations that give a value, and what they ask. -/
import Derived.Test.YtjhedhnghldjbaaGreatDoorEcuExplainsE
import Derived.OrdersHeld
set_option linter.unusedSimpArgs false
set_option linter.unusedVariables false
namespace Go.Pv
open Go.RowKit
/-! ### what only reads -/
def Rd {α : Type} (s : Sem α) : Prop := ∀ P w r w', s.run P w = .ok r w' → w' = w
theorem rd_pure {α : Type} (x : α) : Rd (pure x : Sem α) := fun P w r w' h => by
  simp only [Sem.run_pure, Result.ok.injEq] at h; exact h.2.symm
theorem rd_halt {α : Type} (x : Halt) : Rd (Sem.halt x : Sem α) := fun P w r w' h => by
  simp [Sem.run] at h
theorem rd_bind {α β : Type} {s : Sem α} {f : α → Sem β} (h : Rd s) (k : ∀ x, Rd (f x)) : Rd (s >>= f) := fun P w r w' e => by
  rw [Sem.run_bind] at e
  cases hs : s.run P w with
  | ok x w1 =>
    rw [hs] at e
    have := h P w x w1 hs
    subst this
    exact k x P w1 r w' e
  | halt x w1 => rw [hs] at e; cases e
theorem rd_load (a : Addr) (m : Mode) : Rd (load a m) := fun P w r w' h => by
  unfold load Sem.run at h
  split at h
  · simp only [Sem.run, Result.ok.injEq] at h; exact h.2.symm
  · split at h
    · simp only [Sem.run, Result.ok.injEq] at h; exact h.2.symm
    · cases h
theorem rd_program : Rd program := fun P w r w' h => by
  unfold program Sem.run at h
  simp only [Sem.run, Result.ok.injEq] at h; exact h.2.symm
theorem rd_underlying (t : TypeId) : Rd (underlying t) := by
  unfold underlying
  refine rd_bind rd_program fun p => ?_
  split
  · exact rd_pure _
  · exact rd_halt _
theorem rd_isAgg (t : TypeId) : Rd (isAgg t) := by
  unfold isAgg
  refine rd_bind (rd_underlying t) fun d => ?_
  split <;> exact rd_pure _
theorem rd_sizeOf (t : TypeId) : Rd (sizeOf t) := by
  unfold sizeOf typeInfo
  refine rd_bind (rd_bind rd_program fun p => ?_) fun i => rd_pure _
  split
  · exact rd_pure _
  · exact rd_halt _
theorem rd_cells (a : Addr) : ∀ (n i : Nat) (acc : Array Value), Rd (loadCellsFrom a i n acc)
  | 0, i, acc => by unfold loadCellsFrom; exact rd_pure _
  | n + 1, i, acc => by
    unfold loadCellsFrom
    exact rd_bind (rd_load _ _) fun v => rd_cells a n (i + 1) _
theorem rd_loadAt (t : TypeId) (v : Value) : Rd (Instr.loadAt t v) := by
  unfold Instr.loadAt
  refine rd_bind ?_ fun a => ?_
  · unfold Instr.sureAddr
    split
    · exact rd_pure _
    · exact rd_halt _
  · unfold loadVar
    refine rd_bind (rd_isAgg t) fun b => ?_
    split
    · refine rd_bind (rd_sizeOf t) fun n => rd_bind ?_ fun c => rd_pure _
      unfold loadCells
      exact rd_cells _ _ _ _
    · exact rd_load _ _
theorem rd_extract (v : Value) (k : Nat) : Rd (Instr.extract v k) := by
  unfold Instr.extract
  split
  · split
    · exact rd_pure _
    · exact rd_halt _
  · exact rd_halt _
theorem rd_bounds {α : Type} (k : IntKind) (x y : Int) (c : BoundsCode) : Rd (boundsPanic k x y c : Sem α) := fun P w r w' e => by
  exfalso
  have key : ∀ b w r w', (runtimePanic (.bounds (IntKind.i64.wrap x) y b c) : Sem α).run P w ≠ .ok r w' := fun b w r w' h => by
    unfold runtimePanic at h
    rw [Sem.run_bind] at h
    cases hp : program.run P w with
    | ok p w1 => rw [hp] at h; simp [goPanic, Sem.run] at h
    | halt p w1 => rw [hp] at h; cases h
  unfold boundsPanic at e
  dsimp only at e
  split at e <;>
  · rw [Sem.run_bind] at e
    revert e
    generalize Sem.run P _ w = q
    intro e
    cases q with
    | ok b w1 => exact key b w1 r w' e
    | halt p w1 => cases e
theorem rd_asInt (v : Value) : Rd (asIntOf v) := by
  unfold asIntOf
  split
  · exact rd_pure _
  · exact rd_halt _
  · exact rd_halt _
theorem rd_sure (v : Value) : Rd (Instr.sureAddr v) := by
  unfold Instr.sureAddr
  split
  · exact rd_pure _
  · exact rd_halt _
theorem rd_index (t : TypeId) (x ix : Value) : Rd (Instr.indexAt t x ix) := by
  unfold Instr.indexAt
  refine rd_bind (rd_asInt _) fun p => rd_bind (rd_underlying t) fun d => ?_
  have key : ∀ q : Option Addr × Nat × TypeId, Rd (match q with
      | (base, len, elem) => do
        let d ← underlying t
        let tiny := len ≤ 1 && (match d with | .array .. => true | _ => false)
        match base with
        | some a =>
          if 0 ≤ p.2 ∧ p.2 < len then pure (Value.pointer (some (a.add (p.2.toNat * (← sizeOf elem)))))
          else if tiny then unsupported (.noEntry "op/indexAddr.an index out of range at an array of length 0 or 1 (ledger 616)")
          else boundsPanic p.1 p.2 len .index
        | none => boundsPanic p.1 p.2 0 .index : Sem Value) := fun (base, len, elem) => by
    dsimp only
    refine rd_bind (rd_underlying t) fun d => ?_
    repeat' split
    all_goals first | exact rd_bind (rd_sizeOf _) fun n => rd_pure _ | exact rd_halt _ | exact rd_bounds _ _ _ _
  dsimp only at key ⊢
  split
  · exact rd_bind (rd_sure _) fun a => rd_bind (rd_pure _) fun q => key q
  · exact rd_bind (rd_pure _) fun q => key q
  · exact rd_bind (rd_halt _) fun q => key q
/-- An operation that does nothing but give a value. -/
def harmB : Op → Bool
  | .move _ | .assign _ | .load .. | .extract .. | .indexAddr .. => true
  | _ => false
theorem harm_ok {P : Program} {o : Oper} (h : harmB o.op = true) (ρ : Operand → Value) (w : World) (n : Next) (w' : World) (e : (execOp ρ o).run P w = .ok n w') : w' = w ∧ ∃ u, n = .value u := by
  have key : ∀ s : Sem Value, Rd s → (execOp ρ o).run P w = (s >>= fun v => pure (Next.value v)).run P w → w' = w ∧ ∃ u, n = .value u := by
    intro s hs he
    rw [he, Sem.run_bind] at e
    cases hr : s.run P w with
    | ok x w1 =>
      rw [hr] at e
      have h1 := hs P w x w1 hr
      simp only [Result.andThen_ok, Sem.run_pure, Result.ok.injEq] at e
      exact ⟨by rw [← e.2, h1], x, e.1.symm⟩
    | halt x w1 => rw [hr] at e; cases e
  obtain ⟨dst, op, type, pos, aft, guard⟩ := o
  cases op <;> simp only [harmB, Bool.false_eq_true] at h
  case move x => exact key (pure (ρ x)) (rd_pure _) (by simp [execOp])
  case assign x => exact key (pure (ρ x)) (rd_pure _) (by simp [execOp])
  case load t x => exact key (Instr.loadAt t (ρ x)) (rd_loadAt _ _) rfl
  case extract x k => exact key (Instr.extract (ρ x) k) (rd_extract _ _) rfl
  case indexAddr t x ix => exact key (Instr.indexAt t (ρ x) (ρ ix)) (rd_index _ _ _) rfl
/-! ### taken before what may write -/
section
variable {P : Program} {ops : Array Oper} {Q : Exit → Act → World → Prop} {md : Region.Mode} {S : World → Prop}
theorem wpOp_keep {j : Nat} {oj : Oper} (hj : ops[j]? = some oj) (hh : harmB oj.op = true) {K : Act → World → Prop} {a : Act} {w : World} (hS : S w) (h : wpOp P ops Q j K a w) : wpOp P ops Q j (fun a' w' => S w' ∧ K a' w') a w := by
  unfold wpOp at *
  simp only [hj] at *
  split
  · rename_i hw
    rw [if_pos hw] at h
    refine h.imp (fun h => ?_) id
    unfold Oper.wp at *
    cases hr : (execOp a.eval oj).run P w with
    | ok n w' =>
      rw [hr] at h
      obtain ⟨e1, u, e2⟩ := harm_ok hh a.eval w n w' hr
      subst e1
      subst e2
      simp only [Oper.upon] at h ⊢
      exact ⟨hS, h⟩
    | halt x w' =>
      rw [hr] at h
      cases x <;> simp only [Oper.upon] at h ⊢ <;> exact h
  · rename_i hw
    rw [if_neg hw] at h
    exact ⟨hS, h⟩
/-- An operation that may come up now is taken first, if its value is the same wherever S holds, and all that do not wait for it do nothing but give values. -/
theorem wpAny_late {i : Nat} {oi : Oper} {v : Value} (hi : ops[i]? = some oi) (hsel : ∀ (j : Nat) (o : Oper) cs b, ops[j]? = some o → o.op ≠ .select cs b)
    (hQ : ∀ c a w, Q (.panic c) (a.put oi.dst v) w → Q (.panic c) a w) (W : Nat → Bool) :
    ∀ (fuel : Nat) (listed : Array Bool) (a : Act) (w : World),
      (∀ j, W j = true → listed.getD j true = false ∧ ∃ oj, ops[j]? = some oj ∧ ∃ e ∈ oj.after, Region.binds md e = true ∧ (e.on = i ∨ W e.on = true)) →
      (∀ j oj, ops[j]? = some oj → j ≠ i → listed.getD j true = false → W j = false → oi.apart ops oj = true ∧ harmB oj.op = true) →
      i ∈ Region.ready md ops listed → YieldsIf P ops S oi v a → S w →
      wpAny P md ops Q fuel (listed.setIfInBounds i true) (a.put oi.dst v) w → wpAny P md ops Q (fuel + 1) listed a w := by
  have hnW : ∀ (listed : Array Bool) (j : Nat), (∀ j, W j = true → listed.getD j true = false ∧ ∃ oj, ops[j]? = some oj ∧ ∃ e ∈ oj.after, Region.binds md e = true ∧ (e.on = i ∨ W e.on = true)) → i ∈ Region.ready md ops listed → j ∈ Region.ready md ops listed → W j = false := by
    intro listed j hW hr hj
    cases hWj : W j
    · rfl
    · exfalso
      obtain ⟨_, oj, ho, e, he, hb, hor⟩ := hW j hWj
      obtain ⟨_, oj', ho', hall⟩ := mem_ready.1 hj
      rw [ho] at ho'
      cases ho'
      have h1 := hall e he hb
      have h0 : listed.getD e.on true = false := by
        rcases hor with heq | hor
        · rw [heq]; exact (mem_ready.1 hr).1
        · exact (hW e.on hor).1
      rcases Nat.lt_or_ge e.on listed.size with h' | h'
      · simp [h'] at h0 h1; rw [h0] at h1; cases h1
      · simp [Array.getElem?_eq_none h'] at h1
  intro fuel
  induction fuel with
  | zero =>
    intro listed a w hW hrest hr hy hS H
    refine ⟨fun h => (by rw [h] at hr; cases hr), fun j hj => ?_⟩
    by_cases hji : j = i
    · subst hji; exact hy.wpOp hi hS H
    · have := ready_mono hj hji
      rw [H.1] at this
      cases this
  | succ fuel ih =>
    intro listed a w hW hrest hr hy hS H
    refine ⟨fun h => (by rw [h] at hr; cases hr), fun j hj => ?_⟩
    by_cases hji : j = i
    · subst hji; exact hy.wpOp hi hS H
    · have h1 := H.2 j (ready_mono hj hji)
      have hWj := hnW listed j hW hr hj
      obtain ⟨hjun, oj, hoj, hall⟩ := mem_ready.1 hj
      obtain ⟨hap, hharm⟩ := hrest j oj hoj hji hjun hWj
      have h2 := wpOp_keep hoj hharm hS (wpOp_putIf hoj hap (fun cs b => hsel i oi cs b hi) (fun cs b => hsel j oj cs b hoj) hQ hy h1)
      have hW' : ∀ k, W k = true → (listed.setIfInBounds j true).getD k true = false ∧ ∃ ok, ops[k]? = some ok ∧ ∃ e ∈ ok.after, Region.binds md e = true ∧ (e.on = i ∨ W e.on = true) := fun k hk => by
        obtain ⟨x1, x2⟩ := hW k hk
        have hjk : j ≠ k := fun h => by rw [h] at hWj; rw [hk] at hWj; cases hWj
        exact ⟨by rw [getD_set_ne true hjk]; exact x1, x2⟩
      have hrest' : ∀ k ok, ops[k]? = some ok → k ≠ i → (listed.setIfInBounds j true).getD k true = false → W k = false → oi.apart ops ok = true ∧ harmB ok.op = true := fun k ok hk hki hun hWk => by
        refine hrest k ok hk hki ?_ hWk
        by_cases hjk : j = k
        · subst hjk; exact hjun
        · rw [getD_set_ne true hjk] at hun; exact hun
      refine wpOp_mono (fun a' w' h3 => ih (listed.setIfInBounds j true) a' w' hW' hrest' (ready_mono hr (Ne.symm hji)) h3.2.1 h3.1 ?_) h2
      rw [Array.setIfInBounds_comm _ _ hji]
      exact h3.2.2
end
/-- What waits for operation i, as it stands in W, is all that may write. -/
def okW (ops : Array Oper) (l W : List Bool) (i : Nat) (oi : Oper) : Bool := (List.range ops.size).all fun j =>
  bif W.getD j false then (!(l.getD j true)) && (match ops[j]? with | some oj => oj.after.any (fun e => Region.binds .any e && (e.on == i || W.getD e.on false)) | none => false)
  else (j == i || l.getD j true || match ops[j]? with | some oj => oi.apart ops oj && harmB oj.op | none => true)
def okL (nt : Nat) (ops : Array Oper) (l W : List Bool) (i d : Nat) (o : Oper) : Bool := Nat.blt d nt && o.guard.isNone && Region.noSelect ops && okW ops l W i o && (Region.ready .any ops l.toArray).contains i && Nat.ble W.length ops.size
def readB : Op → Bool
  | .move _ | .assign _ | .load .. | .extract .. => true
  | _ => false
theorem harm_read {o : Op} (h : readB o = true) : harmB o = true := by cases o <;> simp_all [readB, harmB]
def pureB : Op → Bool
  | .move _ | .assign _ | .fieldAddr .. | .nilCheck _ | .extract .. => true
  | _ => false
/-- Operation i may be taken now: it only names (k = 0), or it only reads, and what waits for it are the bits of k / 2. -/
def takeOk (nt : Nat) (ops : Array Oper) (l : List Bool) (i k : Nat) (o : Oper) : Bool := match o.dst with
  | some d => bif Nat.beq k 0 then pureB o.op && okA nt ops l i d o else readB o.op && okL nt ops l (bm ops.size (k / 2)) i d o
  | none => false
def chkA (nt : Nat) (ops : Array Oper) : List (Nat × Nat) → List Bool → Bool
  | [], _ => true
  | (i, k) :: r, l => (match ops[i]? with | some o => takeOk nt ops l i k o | none => false) && chkA nt ops r (l.set i true)
def markA : List (Nat × Nat) → List Bool → List Bool
  | [], l => l
  | (i, _) :: r, l => markA r (l.set i true)
def evA (tab : Tab) (ops : Array Oper) : List (Nat × Nat) → List (Nat × T) → List (Nat × Blk) → Option (List (Nat × T))
  | [], tm, _ => some tm
  | (i, _) :: r, tm, hp => match ops[i]? with
    | some o => match o.dst with
      | some d => match evalOp tab ⟨tm, hp⟩ o with
        | some (t, _) => evA tab ops r ((d, t) :: tm) hp
        | none => none
      | none => none
    | none => none
section
variable {X : Cx} {ops : Array Oper} {fe fuel : Nat} {le l : List Bool} {σ' : St} {o : Oper}
theorem pure_yields {t : T} {tm : List (Nat × T)} {hp : List (Nat × Blk)} {s2 : St} (hb : pureB o.op = true) (he : evalOp X.tab ⟨tm, hp⟩ o = some (t, s2)) : ∀ S E a w, Ok X.w0 X.L X.nt ⟨tm, hp⟩ S E a w → ∃ v, (∀ w', (execOp a.eval o).run X.P w' = .ok (.value v) w') ∧ RV w S E v t := by
  intro S E a w hk
  rw [evalOp_eq] at he
  obtain ⟨dst, op, type, pos, aft, guard⟩ := o
  cases op <;> simp only [pureB, Bool.false_eq_true] at hb <;> simp only [evalOp0] at he
  case move x => exact ⟨_, fun w' => rfl, hk.val (map_inv he).1⟩
  case assign x => exact ⟨_, fun w' => rfl, hk.val (map_inv he).1⟩
  case fieldAddr s x f =>
    split at he <;> try (cases he; done)
    · rename_i id off sz fs z hx hti
      split at he <;> try (cases he; done)
      rename_i p n hfs
      cases he
      obtain ⟨β, hpv, hE⟩ := (hk.val hx).ptr_inv
      exact ⟨_, fun w' => by simp [execOp, hpv, fieldAddr_ok (X.htab s _ hti) hfs β off rfl], .ptr id _ β hE⟩
    · rename_i cells sz fs z hx hti
      split at he <;> try (cases he; done)
      rename_i p n hfs
      cases he
      have hv := hk.val hx
      obtain ⟨b, o', hpv⟩ := hv.el_inv
      rw [hpv] at hv
      exact ⟨_, fun w' => by simp [execOp, hpv, fieldAddr_ok (X.htab s _ hti) hfs b o' rfl], hv.el_drop p⟩
    · rename_i id k sz' off sz fs z hx hti
      split at he <;> try (cases he; done)
      rename_i p n hfs
      cases he
      have hv := hk.val hx
      generalize hpv : a.eval x = pv at hv
      cases hv with
      | pe _ _ _ _ β n' cap hE =>
        exact ⟨.pointer (some ⟨β, k * sz' + off + p, none⟩), fun w' => by simp [execOp, hpv, fieldAddr_ok (X.htab s _ hti) hfs β _ rfl], by rw [Nat.add_assoc]; exact .pe id k sz' (off + p) β n' cap hE⟩
  case nilCheck x =>
    have hv : ∀ y, val tm x = some y → (∃ b o', a.eval x = .pointer (some ⟨b, o', none⟩)) → y = t → ∃ v, (∀ w', (execOp a.eval (⟨dst, .nilCheck x, type, pos, aft, guard⟩ : Oper)).run X.P w' = .ok (.value v) w') ∧ RV w S E v t := by
      intro y hx ⟨b, o', hpv⟩ hy
      subst hy
      exact ⟨_, fun w' => by simp only [execOp]; rw [hpv]; rfl, hpv ▸ hk.val hx⟩
    split at he <;> try (cases he; done)
    · rename_i id off hx
      cases he
      obtain ⟨β, hpv, _⟩ := (hk.val hx).ptr_inv
      exact hv _ hx ⟨β, _, hpv⟩ rfl
    · rename_i cells hx
      cases he
      obtain ⟨b, o', hpv⟩ := (hk.val hx).el_inv
      exact hv _ hx ⟨b, o', hpv⟩ rfl
    · rename_i id i sz off hx
      cases he
      have h2 := hk.val hx
      generalize hpv : a.eval x = pv at h2
      cases h2 with
      | pe _ _ _ _ β n' cap hE => exact hv _ hx ⟨β, _, hpv⟩ rfl
  case extract x k =>
    split at he <;> try (cases he; done)
    rename_i l hx
    obtain ⟨hx', _⟩ := map_inv he
    have hv := hk.val hx
    cases hxe : a.eval x <;> rw [hxe] at hv <;> try (cases hv; done)
    cases hv with
    | tup vs _ hl hr =>
      obtain ⟨hk', rfl⟩ := List.getElem?_eq_some_iff.1 hx'
      exact ⟨_, fun w' => by simp [execOp, hxe, Instr.extract, hl, hk'], hr k (by omega) hk'⟩
theorem harm_same {t : T} {tm : List (Nat × T)} {hp : List (Nat × Blk)} {s2 : St} (hb : readB o.op = true) (he : evalOp X.tab ⟨tm, hp⟩ o = some (t, s2)) : s2 = ⟨tm, hp⟩ := by
  rw [evalOp_eq] at he
  obtain ⟨dst, op, type, pos, aft, guard⟩ := o
  cases op <;> simp only [readB, Bool.false_eq_true] at hb <;> simp only [evalOp0] at he
  case move x => exact (map_inv he).2
  case assign x => exact (map_inv he).2
  case load t x =>
    split at he <;> try (cases he; done)
    · split at he <;> try (cases he; done)
      exact (map_inv he).2
    · exact (map_inv he).2
  case extract x k =>
    split at he <;> try (cases he; done)
    exact (map_inv he).2
theorem TieA.late {d : Nat} {t : T} {tm : List (Nat × T)} {hp : List (Nat × Blk)} {s2 : St} (i : Nat) (W : List Bool) (ho : ops[i]? = some o) (hd : o.dst = some d) (hh : readB o.op = true) (hb : okL X.nt ops l W i d o = true) (he : evalOp X.tab ⟨tm, hp⟩ o = some (t, s2))
    (h : TieA X ops fe le fuel (l.set i true) ⟨(d, t) :: tm, hp⟩ σ') : TieA X ops fe le (fuel + 1) l ⟨tm, hp⟩ σ' := fun Q hpn hQ a w ⟨S, E, hk⟩ => by
  unfold okL at hb
  simp only [Bool.and_eq_true, Option.isNone_iff_eq_none] at hb
  obtain ⟨⟨⟨⟨⟨hdn, hg⟩, hs⟩, hw⟩, hr⟩, hWl⟩ := hb
  obtain ⟨v, w', E', hdo, hok, hv⟩ := evalOp_ok X.htab hk he
  rw [harm_same hh he] at hok
  replace hh := harm_read hh
  have hrun : (execOp a.eval o).run X.P w = .ok (.value v) w ∧ w' = w := by
    rcases hdo with hdo | ⟨hdo, _⟩
    · obtain ⟨e1, _⟩ := harm_ok hh a.eval w _ _ hdo
      rw [e1] at hdo
      exact ⟨hdo, e1⟩
    · obtain ⟨_, u, e2⟩ := harm_ok hh a.eval w _ _ hdo
      cases e2
  obtain ⟨hrun, rfl⟩ := hrun
  unfold okW at hw
  rw [List.all_eq_true] at hw
  have hlt : i < ops.size := (Array.getElem?_eq_some_iff.1 ho).1
  refine wpAny_late (S := fun z => z = w') ho (Region.noSelect_spec hs) (fun c a w hc => absurd hc (hpn _ _ _)) (fun j => W.getD j false) fuel l.toArray a w' (fun j hj => ?_) (fun j oj hoj hji hun hWj => ?_) (by simpa using hr) (v := v) (.inl ⟨?_, fun z hz => ?_⟩) rfl ?_
  · have hjs : j < ops.size := by
      have h1 : j < W.length := by
        rcases Nat.lt_or_ge j W.length with h | h
        · exact h
        · rw [List.getD_eq_getElem?_getD, List.getElem?_eq_none h] at hj; cases hj
      have := Nat.le_of_ble_eq_true hWl
      omega
    have := hw j (List.mem_range.2 hjs)
    simp only [hj, cond_true, Bool.and_eq_true, Bool.not_eq_true'] at this
    obtain ⟨t1, t2⟩ := this
    refine ⟨?_, ?_⟩
    · rw [List.getD_eq_getElem?_getD] at t1
      rw [Array.getD_eq_getD_getElem?]
      simpa using t1
    · cases hoj : ops[j]? with
      | none => rw [hoj] at t2; cases t2
      | some oj =>
        rw [hoj] at t2
        obtain ⟨e, he1, he2⟩ := Array.any_eq_true'.1 t2
        simp only [Bool.and_eq_true, Bool.or_eq_true, beq_iff_eq] at he2
        exact ⟨oj, rfl, e, he1, he2.1, he2.2⟩
  · have hjs : j < ops.size := (Array.getElem?_eq_some_iff.1 hoj).1
    have := hw j (List.mem_range.2 hjs)
    rw [hWj] at this
    simp only [cond_false, Bool.or_eq_true, beq_iff_eq] at this
    rcases this with (h1 | h1) | h1
    · exact absurd h1 hji
    · rw [List.getD_eq_getElem?_getD] at h1
      rw [Array.getD_eq_getD_getElem?] at hun
      have : l[j]?.getD true = false := by simpa using hun
      rw [h1] at this; cases this
    · rw [hoj] at h1
      simpa using h1
  · unfold Region.wanted; rw [hg]
  · subst hz; exact hrun
  · rw [List.setIfInBounds_toArray]
    exact h Q hpn hQ _ _ ⟨S, E', by rw [hd]; exact hok.put (Nat.le_of_ble_eq_true hdn) hv⟩
/-- A chain of operations that only name or read, taken in this order. -/
theorem TieA.goN : ∀ (is : List (Nat × Nat)) {fuel : Nat} {l : List Bool} {tm tm' : List (Nat × T)} {hp : List (Nat × Blk)}, chkA X.nt ops is l = true → evA X.tab ops is tm hp = some tm' → TieA X ops fe le fuel (markA is l) ⟨tm', hp⟩ σ' → TieA X ops fe le (fuel + is.length) l ⟨tm, hp⟩ σ'
  | [], fuel, l, tm, tm', hp, _, he, h => by cases he; exact h
  | (i, k) :: r, fuel, l, tm, tm', hp, hb, he, h => by
    unfold chkA at hb
    unfold evA at he
    rw [Bool.and_eq_true] at hb
    obtain ⟨h1, h2⟩ := hb
    cases ho : ops[i]? with
    | none => rw [ho] at h1; cases h1
    | some o =>
      rw [ho] at h1 he
      simp only at h1 he
      unfold takeOk at h1
      cases hd : o.dst with
      | none => rw [hd] at h1; cases h1
      | some d =>
        rw [hd] at h1 he
        simp only at h1 he
        cases hv : evalOp X.tab ⟨tm, hp⟩ o with
        | none => rw [hv] at he; cases he
        | some q =>
          obtain ⟨t, s2⟩ := q
          rw [hv] at he
          simp only at he
          have ih := TieA.goN r h2 he h
          rw [List.length_cons, ← Nat.add_assoc]
          cases hk : Nat.beq k 0 <;> rw [hk] at h1
          · simp only [cond_false, Bool.and_eq_true] at h1
            exact TieA.late i _ ho hd h1.1 h1.2 hv ih
          · simp only [cond_true, Bool.and_eq_true] at h1
            have k := okA_of h1.2
            exact TieA.take1 i _ ho rfl hd k.1 k.2.1 k.2.2.1 k.2.2.2.1 k.2.2.2.2 (pure_yields h1.1 hv) ih
theorem TieA.go {n : Nat} {tm tm' : List (Nat × T)} {hp : List (Nat × Blk)} (fuel : Nat) (is : List (Nat × Nat)) (hn : fuel + is.length = n) (hb : chkA X.nt ops is l = true) (he : evA X.tab ops is tm hp = some tm') (h : TieA X ops fe le fuel (markA is l) ⟨tm', hp⟩ σ') : TieA X ops fe le n l ⟨tm, hp⟩ σ' := hn ▸ TieA.goN is hb he h
/-- The only operation that may come now. -/
theorem TieA.one {σ σ₁ : St} (i : Nat) (ho : ops[i]? = some o) (hr : Region.ready .any ops l.toArray = [i]) (h₁ : TieO X ops [o] [] σ (some ()) (fun _ e σ'' => e = .normal ∧ σ'' = σ₁)) (h₂ : TieA X ops fe le fuel (l.set i true) σ₁ σ') : TieA X ops fe le (fuel + 1) l σ σ' :=
  TieA.all [i] hr rfl (AllA.consE _ ho rfl h₁ h₂ AllA.nil)
end
end Go.Pv
namespace Go.Pv
open Go.RowKit
section
variable {ρ α : Type} {X : Cx} {ks : List K} {tm : List (Nat × T)} {hp : List (Nat × Blk)} {Q : ρ → Exit → St → Prop} {all : Array Oper} {o : Oper} {rest : List Oper}
end
end Go.Pv
namespace Go.Pv
open Go.RowKit
abbrev NI (x : Int) : T := .t (tI x)
abbrev NB (x : Bool) : T := .t (tB x)
abbrev NS {α : Type} (e : α → List Tree) (l : List α) : T := .t (tS e l)
/-- Where a walk stands: ahead of a piece of code, or within a region. -/
inductive Cf where
  | S (ks : List K) (σ : St)
  | O (all : Array Oper) (ops : List Oper) (ks : List K) (σ : St)
/-- The next n steps that need no word. -/
def adv (tab : Tab) (nt : Nat) : Nat → Cf → Cf
  | 0, c => c
  | n + 1, .S (.c (.seq x y) :: ks) σ => adv tab nt n (.S (.c x :: .c y :: ks) σ)
  | n + 1, .S (.c .skip :: ks) σ => adv tab nt n (.S ks σ)
  | n + 1, .S (.c (.block id x) :: ks) σ => adv tab nt n (.S (.c x :: .e id :: ks) σ)
  | n + 1, .S (.e _ :: ks) σ => adv tab nt n (.S ks σ)
  | n + 1, .S (.c (.region _ ops false) :: ks) σ => adv tab nt n (.O ops ops.toList ks σ)
  | n + 1, .O _ [] ks σ => adv tab nt n (.S ks σ)
  | n + 1, .O all (o :: r) ks σ => match runOps tab nt all.toList 1 (o :: r) σ with
    | (ops, σ') => adv tab nt n (.O all ops ks σ')
  | _ + 1, c => c
section
variable {ρ τ : Type} {X : Cx} {ks ks' : List K} {σ σ' : St} {m : Option ρ} {Q : ρ → Exit → St → Prop} {all all' : Array Oper} {ops ops' : List Oper}
def TieC {ρ : Type} (X : Cx) (c : Cf) (m : Option ρ) (Q : ρ → Exit → St → Prop) : Prop := match c with
  | .S ks σ => TieS X ks σ m Q
  | .O all ops ks σ => TieO X all ops ks σ m Q
theorem adv_ok : ∀ (n : Nat) (c : Cf), TieC X (adv X.tab X.nt n c) m Q → TieC X c m Q := by
  intro n
  induction n with
  | zero => intro c h; exact h
  | succ n ih =>
    intro c h
    unfold adv at h
    split at h
    · cases ‹_ = _›
    · rename_i e; cases e; exact TieS.seq (ih _ h)
    · rename_i e; cases e; exact TieS.skip (ih _ h)
    · rename_i e; cases e; exact TieS.block (ih _ h)
    · rename_i e; cases e; exact TieS.endb (ih _ h)
    · rename_i e; cases e; exact TieS.region (ih _ h)
    · rename_i e; cases e; exact TieO.nil (ih _ h)
    · rename_i all o r ks σ e
      cases e
      split at h
      rename_i he
      exact TieO.run 1 he (ih _ h)
    · exact h
theorem TieS.o (n : Nat) (he : adv X.tab X.nt n (.S ks σ) = .O all ops ks' σ') (h : TieO X all ops ks' σ' m Q) : TieS X ks σ m Q := adv_ok (X := X) n (.S ks σ) (by rw [he]; exact h)
theorem TieS.s (n : Nat) (he : adv X.tab X.nt n (.S ks σ) = .S ks' σ') (h : TieS X ks' σ' m Q) : TieS X ks σ m Q := adv_ok (X := X) n (.S ks σ) (by rw [he]; exact h)
theorem TieO.o (n : Nat) (he : adv X.tab X.nt n (.O all ops ks σ) = .O all' ops' ks' σ') (h : TieO X all' ops' ks' σ' m Q) : TieO X all ops ks σ m Q := adv_ok (X := X) n (.O all ops ks σ) (by rw [he]; exact h)
theorem TieO.s (n : Nat) (he : adv X.tab X.nt n (.O all ops ks σ) = .S ks' σ') (h : TieS X ks' σ' m Q) : TieO X all ops ks σ m Q := adv_ok (X := X) n (.O all ops ks σ) (by rw [he]; exact h)
theorem TieS.l {r : ρ} (n : Nat) (he : adv X.tab X.nt n (.S ks σ) = .S [] σ') (h : Q r .normal σ') : TieS X ks σ (some r) Q := TieS.s n he (.leaf h)
theorem TieO.l {r : ρ} (n : Nat) (he : adv X.tab X.nt n (.O all ops ks σ) = .S [] σ') (h : Q r .normal σ') : TieO X all ops ks σ (some r) Q := TieO.s n he (.leaf h)
theorem TieS.r {r : ρ} (n : Nat) (he : adv X.tab X.nt n (.S ks σ) = .S (.c .ret :: ks') σ') (h : Q r .ret σ') : TieS X ks σ (some r) Q := TieS.s n he (.ret h)
theorem TieO.r {r : ρ} (n : Nat) (he : adv X.tab X.nt n (.O all ops ks σ) = .S (.c .ret :: ks') σ') (h : Q r .ret σ') : TieO X all ops ks σ (some r) Q := TieO.s n he (.ret h)
abbrev nrm {τ : Type} (f : τ → St) : τ → Exit → St → Prop := fun t e σ' => e = .normal ∧ Sub (f t) σ'
theorem lf {e : Exit} {σ₁ : St} (h₁ : σ₁.tm.map (look2 σ.tm) = σ₁.tm.map (fun p => some p.2)) (h₂ : σ₁.hp.map (look3 σ.hp) = σ₁.hp.map (fun p => some p.2)) : e = e ∧ Sub σ₁ σ := ⟨rfl, .of h₁ h₂⟩
theorem rt {p q : Prop} (h : p) : (Exit.ret = Exit.ret ∨ q) ∧ p := ⟨.inl rfl, h⟩
/-- A call whose arguments are known. -/
def callK (nt : Nat) (all : Array Oper) (tm : List (Nat × T)) (o : Oper) : Option (Nat × List T × Nat) := match guardT all.toList tm o.guard with
  | some true => match callZ tm o with
    | some (n, targs, caps) => match frzL [] targs, o.dst with
      | some cargs, some d => bif Nat.blt d nt then some (n, cargs ++ caps.map T.el, d) else none
      | _, _ => none
    | none => none
  | _ => none
theorem TieO.k {d1 : Bool} {o : Oper} {rest : List Oper} {n d : Nat} {args : List T} {m₁ : Option τ} {res : τ → T} {k : τ → Option ρ} {tm : List (Nat × T)} {hp : List (Nat × Blk)} (hc : TieF X.P n args m₁ res d1)
    (ho : callK X.nt all tm o = some (n, args, d)) (h : ∀ t, TieO X all rest ks ⟨(d, res t) :: tm, hp⟩ (k t) Q) (hd0 : X.L.dr = true → d1 = true := by intro _; rfl) : TieO X all (o :: rest) ks ⟨tm, hp⟩ (m₁.bind k) Q := by
  unfold callK at ho
  split at ho <;> try (cases ho; done)
  rename_i hg
  split at ho <;> try (cases ho; done)
  rename_i n' targs caps hz
  split at ho <;> try (cases ho; done)
  rename_i cargs d' hf hd
  cases hb : Nat.blt d' X.nt with
  | false => rw [hb] at ho; cases ho
  | true =>
    rw [hb] at ho
    simp only [cond_true, Option.some.injEq, Prod.mk.injEq] at ho
    obtain ⟨rfl, rfl, rfl⟩ := ho
    exact TieO.call (σ₂ := fun t => ⟨(d', res t) :: tm, hp⟩) hg hz hf hc (fun t => by rw [hd]; simp only [putT, hb, cond_true]) h hd0
theorem TieF.i {d : Bool} {P : Program} {tab : Tab} (htab : TabOk P tab) {n : Nat} {fn : Func} {c : Code} {args : List T} {m : Option τ} {res : τ → T} (nt : Nat) (rs : List ResultVar)
    (hcall : ∀ vs w, (callFunc n vs).run P w = .ok (.enter n vs) w) (hf : P.funcs[n]? = some fn) (hb : fn.body = some c) (hnt : fn.ntmps = nt) (hrs : fn.results.toList = rs) (hsz : Nat.ble args.length nt = true)
    (body : ∀ (w0 : World) (L : Lim) (gl : GlL P w0 L.lent) (_ : L.dr = d), TieS ⟨P, tab, htab, w0, L, nt, gl⟩ [.c c] ⟨number 0 args, []⟩ m (fun r e σ' => (e = .ret ∨ e = .normal) ∧ retT tab σ' rs = some (res r))) : TieF P n args m res d := TieF.intro htab nt rs hcall hf hb hnt hrs (Nat.le_of_ble_eq_true hsz) body
theorem TieG.i {d : Bool} {P : Program} {tab : Tab} (htab : TabOk P tab) {n : Nat} {fn : Func} {c : Code} {args : List T} {hp : List (Nat × Blk)} {m : Option τ} {res : τ → T} {hp' : τ → List (Nat × Blk)} (nt : Nat) (rs : List ResultVar)
    (hcall : ∀ vs w, (callFunc n vs).run P w = .ok (.enter n vs) w) (hf : P.funcs[n]? = some fn) (hb : fn.body = some c) (hnt : fn.ntmps = nt) (hrs : fn.results.toList = rs) (hsz : Nat.ble args.length nt = true)
    (body : ∀ (w0 : World) (L : Lim) (gl : GlL P w0 L.lent) (_ : L.dr = d), TieS ⟨P, tab, htab, w0, L, nt, gl⟩ [.c c] ⟨number 0 args, hp⟩ m (fun r e σ' => (e = .ret ∨ e = .normal) ∧ EndG tab σ' rs (res r) (hp' r))) : TieG P n args hp m res hp' d := TieG.intro htab nt rs hcall hf hb hnt hrs (Nat.le_of_ble_eq_true hsz) body
/-- A region that draws its order, said shortly. -/
theorem TieS.dr {id : Nat} (h : Nat) (tm0 : List (Nat × T)) (hp : List (Nat × Blk)) {Vs : List T} (hmx : X.P.follows .mixedOrders = true) (hs : Sub ⟨tm0, hp⟩ σ) (steps : StepsQ X all Vs tm0 hp all.toList Vs)
    (hc : (Nat.beq Vs.length h && (Nat.ble h all.size && (tailOk all.toList h && headOk X.nt tm0 (all.toList.take h)))) = true) (rest : TieO X all (all.toList.drop h) ks ⟨fullOf all.toList Vs tm0, hp⟩ m Q) : TieS X (.c (.region id all true) :: ks) σ m Q := by
  simp only [Bool.and_eq_true] at hc
  exact TieS.draw h Vs tm0 hp hmx hs (Nat.eq_of_beq_eq_true hc.1) hc.2.1 hc.2.2.1 hc.2.2.2 steps rest
end
/-- What a call that is lent blocks asks, reckoned at once. -/
def callL (nt : Nat) (all : Array Oper) (tm : List (Nat × T)) (hp : List (Nat × Blk)) (o : Oper) (lm nm : List (Nat × Nat)) (cargs : List T) (chp : List (Nat × Blk)) :
    Option (Nat × List T × List T × List (Nat × Blk) × Nat × List (Nat × Blk)) := match guardT all.toList tm o.guard with
  | some true => match Pv.callA tm o, renL lm cargs, renHp lm chp, o.dst with
    | some (n, targs), some targs', some rchp, some d => bif mapsOk lm nm tm hp && Nat.blt d nt then some (n, targs, targs', rchp, d, dropIds lm hp) else none
    | _, _, _, _ => none
  | _ => none
section
variable {ρ τ : Type} {X : Cx} {ks : List K} {m : Option ρ} {Q : ρ → Exit → St → Prop} {all : Array Oper}
theorem TieO.g {d1 : Bool} {o : Oper} {rest : List Oper} {n d : Nat} {targs targs' cargs : List T} {chp rchp hp2 : List (Nat × Blk)} {m₁ : Option τ} {res : τ → T} {chp' : τ → List (Nat × Blk)} {k : τ → Option ρ} {tm : List (Nat × T)} {hp : List (Nat × Blk)} (lm nm : List (Nat × Nat))
    {rres : τ → T} {rhp : τ → List (Nat × Blk)} (hc : TieG X.P n cargs chp m₁ res chp' d1) (he : callL X.nt all tm hp o lm nm cargs chp = some (n, targs, targs', rchp, d, hp2)) (hmr : mrgL targs targs' = targs')
    (hsub : rchp.map (look3 hp) = rchp.map (fun p => some p.2)) (hres : ∀ t, renT (lm ++ nm) (res t) = some (rres t)) (hrhp : ∀ t, renHp (lm ++ nm) (chp' t) = some (rhp t))
    (h : ∀ t, m₁ = some t → TieO X all rest ks ⟨(d, rres t) :: tm, rhp t ++ hp2⟩ (k t) Q) (hd0 : X.L.dr = true → d1 = true := by intro _; rfl) : TieO X all (o :: rest) ks ⟨tm, hp⟩ (m₁.bind k) Q := by
  unfold callL at he
  split at he <;> try (cases he; done)
  rename_i hg
  split at he <;> try (cases he; done)
  rename_i n' targs0 targs1 rchp1 d' ho ha hr hd
  cases hb : (mapsOk lm nm tm hp && Nat.blt d' X.nt) with
  | false => rw [hb] at he; cases he
  | true =>
    rw [hb] at he
    simp only [cond_true, Option.some.injEq, Prod.mk.injEq] at he
    obtain ⟨rfl, rfl, rfl, rfl, rfl, rfl⟩ := he
    rw [Bool.and_eq_true] at hb
    intro r hr' a w ⟨S, E, hk⟩
    cases hm₁ : m₁ with
    | none => simp [hm₁] at hr'
    | some t =>
      simp only [hm₁, Option.bind_some] at hr'
      have hm := hb.1
      obtain ⟨vs, hrun, hv⟩ := callA_ok hk ho hc.1
      let Ec : Nat → Value := fun i => match look lm i with | some j => E j | none => E i
      have hEc : ∀ i j, look lm i = some j → Ec i = E j := fun i j h => by simp [Ec, h]
      have hargs : RVL w S Ec vs cargs := by
        have h1 := mrgL_ok (u := targs1) hv
        rw [hmr] at h1
        exact unrenL_ok (fun i j h => (hEc i j h).symm) h1 ha
      have hmem : ∀ p ∈ rchp1, ∃ b', look hp p.1 = some b' ∧ mrgB b' p.2 = p.2 := by
        intro p hp'
        obtain ⟨n, hn, rfl⟩ := List.mem_iff_getElem.1 hp'
        have : (rchp1.map (look3 hp))[n]? = (rchp1.map (fun p => some p.2))[n]? := by rw [hsub]
        rw [List.getElem?_map, List.getElem?_map, List.getElem?_eq_getElem hn] at this
        simp only [Option.map_some, Option.some.injEq] at this
        unfold look3 at this
        split at this
        · rename_i b' hb'; exact ⟨b', hb', Option.some.inj this⟩
        · cases this
      have hO : Owned w S Ec chp := by
        refine ⟨fun i b hb => ?_, fun i b β hb hβ => ?_, fun i i' b b' β hb hb' hβ hβ' => ?_⟩
        · obtain ⟨j, b', e1, e2, e3⟩ := renHp_fwd hr hb
          obtain ⟨b0, e4, e5⟩ := hmem _ e3
          have h1 := mrgB_ok (u := b') (hk.hp j b0 e4)
          rw [show mrgB b0 b' = b' from e5] at h1
          rw [hEc i j e1]
          exact unrenB_ok (fun i j h => (hEc i j h).symm) h1 e2
        · obtain ⟨j, b', e1, e2, e3⟩ := renHp_fwd hr hb
          obtain ⟨b0, e4, e5⟩ := hmem _ e3
          rw [hEc i j e1] at hβ
          have := hk.own j b0 β e4 hβ
          exact ⟨this.1, this.2.1⟩
        · obtain ⟨j, b1, e1, e2, e3⟩ := renHp_fwd hr hb
          obtain ⟨b0, e4, e5⟩ := hmem _ e3
          obtain ⟨j', b1', e1', e2', e3'⟩ := renHp_fwd hr hb'
          obtain ⟨b0', e4', e5'⟩ := hmem _ e3'
          rw [hEc i j e1] at hβ
          rw [hEc i' j' e1'] at hβ'
          have := hk.dist j j' b0 b0' β e4 e4' hβ hβ'
          subst this
          have hm' := hm
          simp only [mapsOk, Bool.and_eq_true] at hm'
          have nd := (nodup_append (by simpa using hm'.1.1)).1
          have r1 := rev_look nd e1
          rw [rev_look nd e1'] at r1
          exact (Option.some.inj r1).symm
      have hcall := hc.2 t hm₁ w S Ec vs (X.glG hk (fun β ⟨i, b, hb, hβ⟩ => by
        obtain ⟨j, b', e1, e2, e3⟩ := renHp_fwd hr hb
        obtain ⟨b0, e4, _⟩ := hmem _ e3
        rw [hEc i j e1] at hβ
        exact ⟨j, b0, e4, hβ⟩)) hk.stab hO hargs
      refine wpList_step fun K hK => ?_
      rw [guardT_ok hk hg, if_pos rfl]
      unfold Oper.wp
      rw [hrun, Oper.upon_enter]
      refine hcall.mono fun e w' ⟨v, S', E', he, hv', hkeep, h1, h2, hO', h3, h4⟩ => ?_
      subst he
      have hput : ∀ t, putT X.nt o.dst (rres t) ⟨tm, rhp t ++ dropIds lm hp⟩ = some ⟨(d', rres t) :: tm, rhp t ++ dropIds lm hp⟩ := fun t => by rw [hd]; simp only [putT, hb.2, cond_true]
      obtain ⟨S2, E2, hok, hrv⟩ := hk.called hm hr hsub hEc hv' (hkeep.weak hd0) h1 h2 hO' h3 h4 (hres t) (hrhp t)
      exact hK _ _ (h t hm₁ r hr' _ _ ⟨S2, E2, putT_ok hok hrv (hput t)⟩)
end
section
variable {X : Cx} {all : Array Oper} {Vs : List T} {tm0 : List (Nat × T)} {hp : List (Nat × Blk)} {o : Oper} {ops : List Oper} {V : T} {l : List T}
theorem StepsQ.q (hg : guardT all.toList (minOf all.toList Vs tm0 (deps o)) o.guard = some true) (hi : isPure o.op = true) (he : evalOp X.tab ⟨minOf all.toList Vs tm0 (deps o), hp⟩ o = some (V, ⟨minOf all.toList Vs tm0 (deps o), hp⟩)) (r : StepsQ X all Vs tm0 hp ops l) : StepsQ X all Vs tm0 hp (o :: ops) (V :: l) := .cons (.quiet hg hi he) r
theorem StepsQ.k (hg : guardT all.toList (minOf all.toList Vs tm0 (deps o)) o.guard = some false) (r : StepsQ X all Vs tm0 hp ops l) : StepsQ X all Vs tm0 hp (o :: ops) (.t (.v undef) :: l) := .cons (.skip hg) r
end
/-- A chain of operations as TieA.go takes it, of which only the places are said. -/
def chain (ops : Array Oper) (l : List Bool) : List Nat → List (Nat × Nat)
  | [] => []
  | i :: r => (i, match ops[i]? with | some o => bif pureB o.op then 0 else 2 * bitsOf ((List.range ops.size).map fun j => (!(l.getD j true)) && waits ops.toList ops.size j i) + 1 | none => 0) :: chain ops (l.set i true) r
 where bitsOf : List Bool → Nat
  | [] => 0
  | b :: r => (bif b then 1 else 0) + 2 * bitsOf r
section
variable {X : Cx} {ops : Array Oper} {fe : Nat} {le l : List Bool} {σ' : St}
theorem TieA.ga {n : Nat} {tm tm' : List (Nat × T)} {hp : List (Nat × Blk)} (fuel : Nat) (is : List Nat) (hb : (Nat.beq (fuel + (chain ops l is).length) n && chkA X.nt ops (chain ops l is) l) = true) (he : evA X.tab ops (is.map fun i => (i, 0)) tm hp = some tm')
    (h : TieA X ops fe le fuel (markA (is.map fun i => (i, 0)) l) ⟨tm', hp⟩ σ') : TieA X ops fe le n l ⟨tm, hp⟩ σ' := by
  rw [Bool.and_eq_true] at hb
  have e1 : ∀ (is : List Nat) (l l' : List Bool) (tm : List (Nat × T)), evA X.tab ops (chain ops l' is) tm hp = evA X.tab ops (is.map fun i => (i, 0)) tm hp := by
    intro is
    induction is with
    | nil => intro l l' tm; rfl
    | cons i r ih =>
      intro l l' tm
      rw [chain, List.map_cons, evA, evA]
      split <;> try rfl
      split <;> try rfl
      split <;> try rfl
      exact ih l _ _
  have e2 : ∀ (is : List Nat) (l l' : List Bool), markA (chain ops l' is) l = markA (is.map fun i => (i, 0)) l := by
    intro is
    induction is with
    | nil => intro l l'; rfl
    | cons i r ih => intro l l'; rw [chain, List.map_cons, markA, markA]; exact ih _ _
  exact TieA.go fuel (chain ops l is) (Nat.eq_of_beq_eq_true hb.1) hb.2 ((e1 is l l tm).trans he) (by rw [e2]; exact h)
end
end Go.Pv
namespace Go.Pv
open Go.RowKit
/-- A place in a list. -/
structure GK : Type 1 where
  {α : Type}
  enc : α → List Tree
  l : List α
  i : Int
inductive V : Type 1 where
  | mk {α : Type} (a : α)
  | gf (f : GK)
/-- What is to be shown: equations, under names. -/
inductive Tr : Type 1 where
  | ok
  | bad
  | eq (a b : V)
  | and (x y : Tr)
  | all {τ : Type} (f : τ → Tr)
def Tr.den : Tr → Prop
  | .ok => True
  | .bad => False
  | .eq a b => a = b
  | .and x y => x.den ∧ y.den
  | .all f => ∀ t, (f t).den
inductive Tv : Type 1 where
  | ok
  | no (b : Bool)
  | v (a : V)
  | and (x y : Tv)
  | all {τ : Type} (f : τ → Tv)
def Tr.l : Tr → Tv
  | .ok => .ok
  | .bad => .no false
  | .eq a _ => .v a
  | .and x y => .and x.l y.l
  | .all f => .all fun t => (f t).l
def Tr.r : Tr → Tv
  | .ok => .ok
  | .bad => .no true
  | .eq _ b => .v b
  | .and x y => .and x.r y.r
  | .all f => .all fun t => (f t).r
theorem Tr.of : ∀ {x : Tr}, x.l = x.r → x.den
  | .ok, _ => trivial
  | .bad, h => by simp [Tr.l, Tr.r] at h
  | .eq a b, h => by
    show a = b
    simpa [Tr.l, Tr.r] using h
  | .and x y, h => by
    simp only [Tr.l, Tr.r, Tv.and.injEq] at h
    exact ⟨Tr.of h.1, Tr.of h.2⟩
  | .all f, h => by
    simp only [Tr.l, Tr.r, Tv.all.injEq, heq_eq_eq, true_and] at h
    exact fun t => Tr.of (congrFun h t)
theorem V.eq {α : Type} {a b : α} (h : V.mk a = V.mk b) : a = b := by simpa using h
/-- σ₁ says no more than σ. -/
def subTr (σ₁ σ : St) : Tr := .and (.eq (.mk (σ₁.tm.map (look2 σ.tm))) (.mk (σ₁.tm.map fun p => some p.2))) (.eq (.mk (σ₁.hp.map (look3 σ.hp))) (.mk (σ₁.hp.map fun p => some p.2)))
theorem subTr_ok {σ₁ σ : St} (h : (subTr σ₁ σ).den) : Sub σ₁ σ := .of (V.eq h.1) (V.eq h.2)
def isIn (d : Nat) : List Nat → Bool
  | [] => false
  | x :: l => bif Nat.beq x d then true else isIn d l
/-- A guard, where it is decided. -/
def gk (all : List Oper) (kb : List Nat) (tm : List (Nat × T)) : Option (Nat × Bool) → Option Bool
  | none => some true
  | some (j, want) => match all[j]? with
    | some o => match o.dst with
      | some d => match look tm d with
        | some (.t (.v (.bool b))) => bif isIn d kb then some (match want with | true => b | false => !b) else none
        | some (.t (.v (.tuple _))) => some false
        | _ => none
      | none => none
    | none => none
theorem gk_ok {all : List Oper} {kb : List Nat} {tm : List (Nat × T)} {g : Option (Nat × Bool)} {b : Bool} (h : gk all kb tm g = some b) : guardT all tm g = some b := by
  cases g with
  | none => exact h
  | some p =>
    obtain ⟨j, want⟩ := p
    simp only [gk] at h
    simp only [guardT]
    cases ho : all[j]? with
    | none => simp only [ho] at h; cases h
    | some o =>
      simp only [ho] at h ⊢
      cases hd : o.dst with
      | none => simp only [hd] at h; cases h
      | some d =>
        simp only [hd] at h ⊢
        split at h <;> try (cases h; done)
        · cases hb : isIn d kb <;> simp only [hb, cond_true, cond_false, reduceCtorEq] at h
          rename_i hl; simp only [hl]; exact h
        · rename_i hl; simp only [hl]; exact h
/-- Without the slots ds, and each slot once. -/
def rmv : List Nat → List (Nat × T) → List (Nat × T)
  | _, [] => []
  | ds, (k, x) :: r => bif isIn k ds then rmv ds r else (k, x) :: rmv (k :: ds) r
def dstsO : List Oper → List Nat
  | [] => []
  | o :: r => match o.dst with | some d => d :: dstsO r | none => dstsO r
/-- An operation that is taken without a word: where it divides or shifts, by a constant. -/
def quietB : Op → Bool
  | .binOp op _ _ y _ => match op with
    | .quo | .rem | .shl | .shr => (match y with | .const _ => true | _ => false)
    | _ => true
  | .index _ _ y => (match y with | .const _ => true | _ => false)
  | .indexAddr _ _ y => (match y with | .const _ => true | _ => false)
  | _ => true
def isPq (o : Op) : Bool := isPure o && quietB o
theorem isPq_pure {o : Op} (h : isPq o = true) : isPure o = true := by
  unfold isPq at h; rw [Bool.and_eq_true] at h; exact h.1
/-- The operations up to the choice by slot d: those, the choice's slot and its word, the rest. -/
def cut (d : Nat) : List Oper → Option (List Oper × Nat × Op × List Oper)
  | [] => none
  | o :: r => match (match o.op with | .pick (.tmp k) _ _ => Nat.beq k d | _ => false), o.dst with
    | true, some q => some ([o], q, o.op, r)
    | _, _ => match cut d r with
      | some (g, q, op, r') => some (o :: g, q, op, r')
      | none => none
theorem cut_ok {d : Nat} : ∀ {l g r : List Oper} {q : Nat} {op : Op}, cut d l = some (g, q, op, r) → l = g ++ r
  | [], _, _, _, _, h => by cases h
  | o :: l, g, r, q, op, h => by
    unfold cut at h
    split at h
    · simp only [Option.some.injEq, Prod.mk.injEq] at h
      obtain ⟨rfl, _, _, rfl⟩ := h; rfl
    · split at h <;> try (cases h; done)
      rename_i hc
      simp only [Option.some.injEq, Prod.mk.injEq] at h
      obtain ⟨rfl, rfl, rfl, rfl⟩ := h
      rw [cut_ok hc]; rfl
/-- What a choice of truth values gives, in few words. -/
def comb (b v w : Bool) : Op → Option Bool
  | .pick _ _ (.const (.bool false)) => match w with | false => some (b && v) | true => none
  | .pick _ (.const (.bool true)) _ => match v with | true => some (b || w) | false => none
  | _ => some (bif b then v else w)
theorem comb_ok {b v w c : Bool} {op : Op} (h : comb b v w op = some c) : c = bif b then v else w := by
  unfold comb at h
  split at h
  · split at h <;> simp at h
    subst h; cases b <;> simp
  · split at h <;> simp at h
    subst h; cases b <;> simp
  · simp at h; exact h.symm
mutual
/-- Operations that only read, with choices that depend on tests. -/
def evG (tab : Tab) (nt : Nat) (all : List Oper) (hp : List (Nat × Blk)) : Nat → List Nat → List Oper → List (Nat × T) → Option (List (Nat × T))
  | 0, _, _, _ => none
  | _ + 1, _, [], tm => some tm
  | f + 1, kb, o :: r, tm => match gk all kb tm o.guard with
    | some true => bif isPq o.op then match evalOp tab ⟨tm, hp⟩ o, o.dst with
        | some (t, _), some d => bif Nat.blt d nt then evG tab nt all hp f kb r ((d, t) :: tm) else none
        | _, _ => none
      else none
    | some false => match o.dst with
      | some d => bif Nat.blt d nt then evG tab nt all hp f kb r ((d, .t (.v undef)) :: tm) else none
      | none => none
    | none => match evP tab nt all hp f kb (o :: r) tm with
      | some (r', tm') => evG tab nt all hp f kb r' tm'
      | none => none
def evP (tab : Tab) (nt : Nat) (all : List Oper) (hp : List (Nat × Blk)) : Nat → List Nat → List Oper → List (Nat × T) → Option (List Oper × List (Nat × T))
  | 0, _, _, _ => none
  | f + 1, kb, ops, tm => match ops with
    | [] => none
    | o :: _ => match o.guard with
      | none => none
      | some (j, _) => match all[j]? with
        | none => none
        | some oj => match oj.dst with
          | none => none
          | some d => match look tm d, cut d ops with
            | some (.t (.v (.bool b))), some (g, q, op, r) => match evG tab nt all hp f (d :: kb) g ((d, .t (.v (.bool true))) :: tm), evG tab nt all hp f (d :: kb) g ((d, .t (.v (.bool false))) :: tm) with
              | some t1, some t2 => match look t1 q, look t2 q with
                | some (.t (.v (.bool v))), some (.t (.v (.bool w))) => match comb b v w op with
                  | some c => some (r, (q, .t (.v (.bool c))) :: rmv (dstsO g) tm)
                  | none => none
                | _, _ => none
              | _, _ => none
            | _, _ => none
end
/-- The next operation, or the next choice. -/
def stO (tab : Tab) (nt : Nat) (all : List Oper) (kb : List Nat) (o : Oper) (r : List Oper) (tm : List (Nat × T)) (hp : List (Nat × Blk)) : Option (List Oper × St) :=
  match gk all kb tm o.guard with
  | some true => bif quietB o.op then (match evalOpC tab tm hp o with
    | some (t, σ) => match putT nt o.dst t σ with
      | some σ' => some (r, σ')
      | none => none
    | none => none) else none
  | some false => match putT nt o.dst (.t (.v undef)) ⟨tm, hp⟩ with
    | some σ' => some (r, σ')
    | none => none
  | none => match evP tab nt all hp 64 kb (o :: r) tm with
    | some (r', tm') => some (r', ⟨tm', hp⟩)
    | none => none
end Go.Pv
namespace Go.Pv
open Go.RowKit
theorem isIn_cons {k d : Nat} {l : List Nat} : isIn k (d :: l) = false ↔ d ≠ k ∧ isIn k l = false := by
  simp only [isIn]
  cases hb : Nat.beq d k
  · simp only [cond_false]
    exact ⟨fun h => ⟨fun e => by subst e; simp at hb, h⟩, fun h => h.2⟩
  · simp only [cond_true]
    have := Nat.eq_of_beq_eq_true hb
    simp [this]
theorem look_cons {α : Type} {d k : Nat} {x : α} {l : List (Nat × α)} (h : d ≠ k) : look ((d, x) :: l) k = look l k := by simp [look, beq_ne h]
theorem look_rmv : ∀ {tm : List (Nat × T)} {ds : List Nat} {k : Nat}, isIn k ds = false → look (rmv ds tm) k = look tm k
  | [], ds, k, _ => rfl
  | (j, x) :: r, ds, k, h => by
    unfold rmv
    by_cases hjk : j = k
    · subst hjk; rw [h]; simp [look]
    · cases hj : isIn j ds <;> simp only [cond_true, cond_false]
      · rw [look_cons hjk, look_cons hjk, look_rmv (isIn_cons.2 ⟨hjk, h⟩)]
      · rw [look_rmv h, look_cons hjk]
theorem rmv_none : ∀ {tm : List (Nat × T)} {ds : List Nat} {k : Nat}, isIn k ds = true → look (rmv ds tm) k = none
  | [], _, _, _ => rfl
  | (j, x) :: r, ds, k, h => by
    unfold rmv
    cases hj : isIn j ds <;> simp only [cond_true, cond_false]
    · have hjk : j ≠ k := fun e => by subst e; rw [h] at hj; cases hj
      rw [look_cons hjk]
      exact rmv_none (by simp [isIn, h])
    · exact rmv_none h
theorem isIn_rmv {ds : List Nat} {tm : List (Nat × T)} {k : Nat} {t : T} (h : look (rmv ds tm) k = some t) : isIn k ds = false ∧ look tm k = some t := by
  cases hk : isIn k ds
  · exact ⟨rfl, by rwa [look_rmv hk] at h⟩
  · rw [rmv_none hk] at h; cases h
theorem Sim.more {w0 : World} {L : Lim} {nt : Nat} {tm tm' : List (Nat × T)} {hp : List (Nat × Blk)} {a : Act} {w : World} (hm : more tm' tm) (h : Sim w0 L nt ⟨tm, hp⟩ a w) : Sim w0 L nt ⟨tm', hp⟩ a w := by
  obtain ⟨S, E, hk⟩ := h
  exact ⟨S, E, { hk with tm := fun k t ht => hk.tm k t (hm k t ht) }⟩
section
variable {ρ : Type} {X : Cx} {ks : List K} {m : Option ρ} {Q : ρ → Exit → St → Prop} {all : Array Oper} {tm tm' : List (Nat × T)} {hp : List (Nat × Blk)} {ops : List Oper}
theorem TieO.more (hm : more tm' tm) (h : TieO X all ops ks ⟨tm', hp⟩ m Q) : TieO X all ops ks ⟨tm, hp⟩ m Q := fun r hr a w hw => h r hr a w (hw.more hm)
theorem isIn_app {k : Nat} : ∀ {l l' : List Nat}, isIn k (l ++ l') = false ↔ isIn k l = false ∧ isIn k l' = false
  | [], l' => by simp [isIn]
  | x :: l, l' => by
    rw [List.cons_append, isIn_cons, isIn_cons, isIn_app]
    exact and_assoc.symm
theorem dstsO_app : ∀ {l l' : List Oper}, dstsO (l ++ l') = dstsO l ++ dstsO l'
  | [], _ => rfl
  | o :: l, l' => by
    simp only [List.cons_append, dstsO]
    split <;> simp [dstsO_app]
theorem evalOp_pure {tab : Tab} {tm : List (Nat × T)} {hp : List (Nat × Blk)} {o : Oper} {t : T} {σ' : St} (hi : isPure o.op = true) (he : evalOp tab ⟨tm, hp⟩ o = some (t, σ')) : σ' = ⟨tm, hp⟩ := by
  rw [evalOp_eq] at he
  obtain ⟨dst, op, type, pos, aft, guard⟩ := o
  cases op <;> simp only [isPure, reduceCtorEq] at hi <;> simp only [evalOp0] at he <;>
  first
    | exact (map_inv he).2
    | (repeat' split at he) <;> first
        | (cases he; done)
        | exact (map_inv he).2
        | (simp only [Option.some.injEq, Prod.mk.injEq] at he; exact he.2.symm)
        | (simp only [Option.map_eq_some_iff, Prod.mk.injEq] at he; obtain ⟨_, _, _, h⟩ := he; exact h.symm)
        | (rename Nat => i; revert he; cases Nat.blt _ _ <;> intro he <;> simp only [cond_true, cond_false, reduceCtorEq, Option.some.injEq, Prod.mk.injEq] at he <;> first | exact he.2.symm | exact (map_inv he).2)
theorem cut_dst {d : Nat} : ∀ {l g r : List Oper} {q : Nat} {op : Op}, cut d l = some (g, q, op, r) → isIn q (dstsO g) = true
  | [], _, _, _, _, h => by cases h
  | o :: l, g, r, q, op, h => by
    unfold cut at h
    split at h
    · rename_i hd
      simp only [Option.some.injEq, Prod.mk.injEq] at h
      obtain ⟨rfl, rfl, _, rfl⟩ := h
      simp [dstsO, hd, isIn]
    · split at h <;> try (cases h; done)
      rename_i hc
      simp only [Option.some.injEq, Prod.mk.injEq] at h
      obtain ⟨rfl, rfl, rfl, rfl⟩ := h
      have := cut_dst hc
      unfold dstsO
      split
      · simp only [isIn]; cases Nat.beq _ _ <;> simp [this]
      · exact this
theorem Sim.lit {w0 : World} {L : Lim} {nt : Nat} {tm : List (Nat × T)} {hp : List (Nat × Blk)} {a : Act} {w : World} {d : Nat} {x : T} (hd : look tm d = some x) (h : Sim w0 L nt ⟨tm, hp⟩ a w) : Sim w0 L nt ⟨(d, x) :: tm, hp⟩ a w :=
  h.more fun k t hk => by
    by_cases hdk : d = k
    · subst hdk; simp only [look, Nat.beq_refl, cond_true, Option.some.injEq] at hk; subst hk; exact hd
    · rwa [look_cons hdk] at hk
theorem ev_ok : ∀ (f : Nat),
    (∀ (kb : List Nat) (ops : List Oper) (tm tm1 : List (Nat × T)), evG X.tab X.nt all.toList hp f kb ops tm = some tm1 → (∀ k, isIn k (dstsO ops) = false → look tm1 k = look tm k) ∧ ∀ (rest : List Oper), TieO X all rest ks ⟨tm1, hp⟩ m Q → TieO X all (ops ++ rest) ks ⟨tm, hp⟩ m Q) ∧
    (∀ (kb : List Nat) (ops r : List Oper) (tm tm1 : List (Nat × T)), evP X.tab X.nt all.toList hp f kb ops tm = some (r, tm1) → (∀ k, isIn k (dstsO ops) = false → isIn k (dstsO r) = false ∧ look tm1 k = look tm k) ∧ ∀ (rest : List Oper), TieO X all (r ++ rest) ks ⟨tm1, hp⟩ m Q → TieO X all (ops ++ rest) ks ⟨tm, hp⟩ m Q)
  | 0 => ⟨fun kb ops tm tm1 h => by simp [evG] at h, fun kb ops r tm tm1 h => by simp [evP] at h⟩
  | f + 1 => by
    obtain ⟨ih1, ih2⟩ := ev_ok f
    refine ⟨fun kb ops tm tm1 h => ?_, fun kb ops r tm tm1 h => ?_⟩
    · cases ops with
      | nil =>
        simp only [evG, Option.some.injEq] at h
        subst h
        exact ⟨fun _ _ => rfl, fun rest h => h⟩
      | cons o r =>
        unfold evG at h
        split at h
        · rename_i hg
          cases hp' : isPq o.op <;> simp only [hp', cond_true, cond_false, reduceCtorEq] at h
          have hp' := isPq_pure hp'
          split at h <;> try (cases h; done)
          rename_i t σ' d he hd
          cases hb : Nat.blt d X.nt <;> simp only [hb, cond_true, cond_false, reduceCtorEq] at h
          obtain ⟨h1, h2⟩ := ih1 _ _ _ _ h
          refine ⟨fun k hk => ?_, fun rest hr => ?_⟩
          · simp only [dstsO, hd, isIn_cons] at hk
            rw [h1 k hk.2, look_cons hk.1]
          · have hσ : σ' = ⟨tm, hp⟩ := evalOp_pure hp' he
            subst hσ
            exact .step (gk_ok hg) he (by rw [hd]; simp only [putT, hb, cond_true]) (h2 rest hr)
        · rename_i hg
          split at h <;> try (cases h; done)
          rename_i d hd
          cases hb : Nat.blt d X.nt <;> simp only [hb, cond_true, cond_false, reduceCtorEq] at h
          obtain ⟨h1, h2⟩ := ih1 _ _ _ _ h
          refine ⟨fun k hk => ?_, fun rest hr => ?_⟩
          · simp only [dstsO, hd, isIn_cons] at hk
            rw [h1 k hk.2, look_cons hk.1]
          · exact .pass (gk_ok hg) (by rw [hd]; simp only [putT, hb, cond_true]) (h2 rest hr)
        · split at h <;> try (cases h; done)
          rename_i r' tm' he
          obtain ⟨h1, h2⟩ := ih2 _ _ _ _ _ he
          obtain ⟨h3, h4⟩ := ih1 _ _ _ _ h
          exact ⟨fun k hk => by rw [h3 k (h1 k hk).1, (h1 k hk).2], fun rest hr => h2 rest (h4 rest hr)⟩
    · unfold evP at h
      split at h <;> try (cases h; done)
      rename_i o r0
      split at h <;> try (cases h; done)
      split at h <;> try (cases h; done)
      split at h <;> try (cases h; done)
      rename_i d _
      split at h <;> try (cases h; done)
      rename_i b g q op r1 hl hc
      split at h <;> try (cases h; done)
      rename_i t1 t2 e1 e2
      split at h <;> try (cases h; done)
      rename_i v w hv hw
      split at h <;> try (cases h; done)
      rename_i c hcb
      simp only [Option.some.injEq, Prod.mk.injEq] at h
      obtain ⟨rfl, rfl⟩ := h
      have hcut := cut_ok hc
      have hcomb := comb_ok hcb
      obtain ⟨g1, g2⟩ := ih1 _ _ _ _ e1
      obtain ⟨g3, g4⟩ := ih1 _ _ _ _ e2
      have hq : isIn q (dstsO g) = true := cut_dst hc
      refine ⟨fun k hk => ?_, fun rest hr => ?_⟩
      · rw [hcut, dstsO_app, isIn_app] at hk
        refine ⟨hk.2, ?_⟩
        have hqk : q ≠ k := fun e => by subst e; rw [hq] at hk; exact absurd hk.1 (by simp)
        rw [look_cons hqk, look_rmv hk.1]
      · rw [hcut, List.append_assoc]
        intro r' hr' a' w' hw'
        cases b
        · refine g4 (r1 ++ rest) (TieO.more (fun k t hk => ?_) hr) r' hr' a' w' (Sim.lit hl hw')
          simp only [look] at hk
          by_cases hqk : q = k
          · subst hqk
            simp only [Nat.beq_refl, cond_true, Option.some.injEq] at hk
            subst hk; rw [hw, hcomb]; rfl
          · simp only [beq_ne hqk, cond_false] at hk
            obtain ⟨h5, h6⟩ := isIn_rmv hk
            rw [g3 k h5]
            by_cases hdk : d = k
            · subst hdk; rw [hl] at h6; simpa [look] using h6
            · rw [look_cons hdk]; exact h6
        · refine g2 (r1 ++ rest) (TieO.more (fun k t hk => ?_) hr) r' hr' a' w' (Sim.lit hl hw')
          simp only [look] at hk
          by_cases hqk : q = k
          · subst hqk
            simp only [Nat.beq_refl, cond_true, Option.some.injEq] at hk
            subst hk; rw [hv, hcomb]; rfl
          · simp only [beq_ne hqk, cond_false] at hk
            obtain ⟨h5, h6⟩ := isIn_rmv hk
            rw [g1 k h5]
            by_cases hdk : d = k
            · subst hdk; rw [hl] at h6; simpa [look] using h6
            · rw [look_cons hdk]; exact h6
theorem stO_ok {kb : List Nat} {o : Oper} {r r' : List Oper} {σ' : St} (h : stO X.tab X.nt all.toList kb o r tm hp = some (r', σ')) (k : TieO X all r' ks σ' m Q) : TieO X all (o :: r) ks ⟨tm, hp⟩ m Q := by
  unfold stO at h
  split at h
  · rename_i hg
    cases hq : quietB o.op <;> rw [hq] at h <;> simp only [cond_true, cond_false, reduceCtorEq] at h
    split at h <;> try (cases h; done)
    rename_i he
    split at h <;> try (cases h; done)
    rename_i hpt
    simp only [Option.some.injEq, Prod.mk.injEq] at h
    obtain ⟨rfl, rfl⟩ := h
    exact .step (gk_ok hg) he hpt k
  · rename_i hg
    split at h <;> try (cases h; done)
    rename_i hpt
    simp only [Option.some.injEq, Prod.mk.injEq] at h
    obtain ⟨rfl, rfl⟩ := h
    exact .pass (gk_ok hg) hpt k
  · split at h <;> try (cases h; done)
    rename_i he
    simp only [Option.some.injEq, Prod.mk.injEq] at h
    obtain ⟨rfl, rfl⟩ := h
    have := ((ev_ok (X := X) (ks := ks) (m := m) (Q := Q) (all := all) (hp := hp) 64).2 _ _ _ _ _ he).2 [] (by simpa using k)
    simpa using this
theorem TieS.out {id : Nat} {σ : St} (hp : popTo id ks = none) (h : TieX X [] (.exit id) σ m Q) : TieS X (.c (.exit id) :: ks) σ m Q := fun r hr a w hw =>
  wp_exit (after_exit_none hp (h r hr a w hw))
end
end Go.Pv
namespace Go.Pv
open Go.RowKit
/-- A function of the program with its model. e: the model with loops cut off, which can be reckoned. -/
structure C (P : Program) (τ : Type) where
  n : Nat
  args : List T
  m : Option τ
  e : Nat → Option τ
  res : τ → T
  d : Bool
  ok : TieF P n args m res d
  le : ∀ k r, e k = some r → m = some r
/-- The same for a function that is lent blocks. nw: the names of those that it makes and hands back. -/
structure CG (P : Program) (τ : Type) where
  n : Nat
  args : List T
  hp : List (Nat × Blk)
  m : Option τ
  e : Nat → Option τ
  res : τ → T
  hp' : τ → List (Nat × Blk)
  nw : List Nat
  d : Bool
  ok : TieG P n args hp m res hp' d
  le : ∀ k r, e k = some r → m = some r
/-- A function value. -/
structure Cl (P : Program) (α β : Type) (A : α → List T) (R : β → T) where
  n : Nat
  cs : List (List Tree)
  f : α → Option β
  e : Nat → α → Option β
  ok : ∀ x, TieF P n (A x ++ cs.map T.el) (f x) R
  le : ∀ k x r, e k x = some r → f x = some r
def Cl.at {P : Program} {α β : Type} {A : α → List T} {R : β → T} (c : Cl P α β A R) (x : α) : C P β := ⟨c.n, A x ++ c.cs.map T.el, c.f x, fun k => c.e k x, R, true, c.ok x, fun k => c.le k x⟩
/-- A function that hands blocks back, called where they stay as they are. -/
def CG.f {P : Program} {τ : Type} (c : CG P τ) (h0 : c.hp = []) (h : ∀ r, frzT (c.hp' r) (c.res r) = some ((frzT (c.hp' r) (c.res r)).getD .any)) : C P τ :=
  ⟨c.n, c.args, c.m, c.e, fun r => (frzT (c.hp' r) (c.res r)).getD .any, c.d, TieG.toF (h0 ▸ c.ok) h, c.le⟩
/-- A function that is handed on. -/
def Cl.of {P : Program} {α β : Type} {A : α → List T} {R : β → T} (c : α → C P β) (n : Nat) (cs : List (List Tree)) (hn : ∀ x, (c x).n = n) (ha : ∀ x, (c x).args = A x ++ cs.map T.el) (hr : ∀ x, (c x).res = R) (hd : ∀ x, (c x).d = true := by intro _; rfl) : Cl P α β A R :=
  ⟨n, cs, fun x => (c x).m, fun k x => (c x).e k, fun x => hn x ▸ ha x ▸ hr x ▸ hd x ▸ (c x).ok, fun k x => (c x).le k⟩
def loopN {S B : Type} (mb : S → Option (S ⊕ B)) : Nat → S → Option B
  | 0, _ => none
  | n + 1, s => match mb s with
    | some (.inl s') => loopN mb n s'
    | some (.inr b) => some b
    | none => none
theorem loopN_le {S B : Type} {mb mb' : S → Option (S ⊕ B)} (h : ∀ s f, mb' s = some f → mb s = some f) : ∀ {n : Nat} {s : S} {b : B}, loopN mb' n s = some b → Loops mb s b
  | 0, _, _, hl => by cases hl
  | n + 1, s, b, hl => by
    unfold loopN at hl
    split at hl
    · rename_i hm; exact .next (h _ _ hm) (loopN_le h hl)
    · rename_i hm; cases hl; exact .out (h _ _ hm)
    · cases hl
abbrev tq {α : Type} (a b : α) : Tr := .eq (.mk a) (.mk b)
/-- An element that is known. -/
structure GF : Type 1 where
  {α : Type}
  enc : α → List Tree
  l : List α
  i : Int
  y : α
def GF.ok (f : GF) : Prop := getI f.l f.i = some f.y
/-- Equality of structs. -/
structure EqV (P : Program) where
  f : Nat → List T → List T → Option Bool
  ok : ∀ ty xs ys b, f ty xs ys = some b → ∃ vs us, xs = tvs vs ∧ ys = tvs us ∧ EqOk P ty vs us b
  dr : Bool := true
/-- The cells of an array. -/
def cat {α : Type} (enc : α → List Tree) : List α → List Tree
  | [] => []
  | y :: r => enc y ++ cat enc r
/-- Operations that give a value and turn nothing: what they ask. -/
inductive L1 : Type → Type 1 where
  | ix {α : Type} (enc : α → List Tree) (l : List α) (i : Int) : L1 α
  | quo (k : IntKind) (x y : Int) : L1 Int
  | rem (x y : Int) : L1 Int
  | shl (k : IntKind) (x y : Int) : L1 Int
  | shr (k : IntKind) (x y : Int) : L1 Int
  | str (s : ByteArray) (i : Int) : L1 Int
  | arr {α : Type} (res : α → T) (ys : List α) (i : Int) : L1 α
  | ax {α : Type} (enc : α → List Tree) (ys : List α) (i : Int) : L1 α
  | scat (s t : ByteArray) : L1 ByteArray
  | sseq (b : Bool) (s t : ByteArray) : L1 Bool
  | b2s (l : List Int) : L1 ByteArray
def catM (s t : ByteArray) : Option ByteArray := if s.size + t.size ≤ 9223372036854775807 then some (s ++ t) else none
def strM (s : ByteArray) (i : Int) : Option Int := (if 0 ≤ i then s[i.toNat]? else none).map fun b => (b.toNat : Int)
def L1.m : {τ : Type} → L1 τ → Option τ
  | _, .ix _ l i => getI l i
  | _, .quo k x y => quoM k x y
  | _, .rem x y => remM x y
  | _, .shl k x y => shlM k x y
  | _, .shr k x y => shrM k x y
  | _, .str s i => strM s i
  | _, .arr _ ys i => getI ys i
  | _, .ax _ ys i => getI ys i
  | _, .scat s t => catM s t
  | _, .b2s l => some (l.foldl (fun r n => r.push (UInt8.ofNat n.toNat)) ByteArray.empty)
  | _, .sseq b s t => some (bif b then s.data.toList == t.data.toList else !(s.data.toList == t.data.toList))
/-- What is known behind such an operation. -/
def L1.k : {τ : Type} → L1 τ → τ → List GF → List GF
  | _, .ix enc l i, y, Γ => ⟨enc, l, i, y⟩ :: Γ
  | _, _, _, Γ => Γ
/-- The parts of an array. -/
def arrTr {α : Type} (a : Bool) (sz : Nat) (l : List T) (res : α → T) : List α → Nat → Tr
  | [], _ => .ok
  | y :: r, j => .and (tq (takeT a sz l (j * sz)) (some (res y))) (arrTr a sz l res r (j + 1))
/-- What operation o is to be, for l to be what it asks; and what its value reads as. -/
def L1.q (tab : Tab) (tm : List (Nat × T)) (hp : List (Nat × Blk)) (o : Op) : {τ : Type} → L1 τ → Option (Tr × (τ → T))
  | _, .ix enc l i => match o with
    | .indexAddr ty x ii => match val tm x, val tm ii, look tab ty with
      | some X, some (.t (.v (.int _ j))), some ⟨_, .slice e, _⟩ => match look tab e with
        | some te => match X with
          | .own id => match look hp id with
            | some (.rows _ sz n rs) => bif Nat.beq te.size sz then some (.and (tq (n, rs) (l.length, l.map enc)) (tq j i), fun _ => .pe id i.toNat sz 0) else none
            | _ => none
          | X => some (.and (tq X (.t (tS enc l))) (.and (tq j i) (tq (α := _ → Nat) (fun y => (enc y).length) (fun _ => te.size))), fun y => .el (enc y))
        | none => none
      | _, _, _ => none
    | _ => none
  | _, .quo k x y => match o with
    | .binOp .quo _ a b _ => match val tm a, val tm b with
      | some (.t (.v (.int k1 x1))), some (.t (.v (.int k2 y1))) => some (tq (k1, x1, k2, y1) (k, x, k, y), fun q => .t (.v (.int k q)))
      | _, _ => none
    | _ => none
  | _, .rem x y => match o with
    | .binOp .rem _ a b _ => match val tm a, val tm b with
      | some (.t (.v (.int k1 x1))), some (.t (.v (.int k2 y1))) => some (tq (x1, k2, y1) (x, k1, y), fun q => .t (.v (.int k1 q)))
      | _, _ => none
    | _ => none
  | _, .shl k x y => match o with
    | .binOp .shl _ a b _ => match val tm a, val tm b with
      | some (.t (.v (.int k1 x1))), some (.t (.v (.int _ y1))) => some (tq (k1, x1, y1) (k, x, y), fun q => .t (.v (.int k q)))
      | _, _ => none
    | _ => none
  | _, .shr k x y => match o with
    | .binOp .shr _ a b _ => match val tm a, val tm b with
      | some (.t (.v (.int k1 x1))), some (.t (.v (.int _ y1))) => some (tq (k1, x1, y1) (k, x, y), fun q => .t (.v (.int k q)))
      | _, _ => none
    | _ => none
  | _, .str s i => match o with
    | .index ty x ii => match val tm x, val tm ii, look tab ty with
      | some (.t (.v (.string s'))), some (.t (.v (.int _ j))), some ⟨_, .string, _⟩ => some (tq (s', j) (s, i), fun y => .t (.v (.int .u8 y)))
      | _, _, _ => none
    | _ => none
  | _, .scat s t => match o with
    | .binOp .add _ a b _ => match val tm a, val tm b with
      | some (.t (.v (.string x))), some (.t (.v (.string y))) => some (tq (x, y) (s, t), fun r => .t (.v (.string r)))
      | _, _ => none
    | _ => none
  | _, .b2s l => match o with
    | .convert s d x => match look tab s, look tab d, val tm x with
      | some ⟨_, .slice e, _⟩, some ⟨_, .string, _⟩, some (.t (.sl n rs)) => match look tab e with
        | some ⟨_, .int .u8, _⟩ => some (tq (n, rs) (l.length, l.map fun b => [.v (.int .u8 b)]), fun r => .t (.v (.string r)))
        | _ => none
      | _, _, _ => none
    | _ => none
  | _, .sseq b s t => match o with
    | .binOp op _ x y _ => match val tm x, val tm y, op, b with
      | some (.t (.v (.string s'))), some (.t (.v (.string t'))), .eql, true => some (tq (s', t') (s, t), fun r => .t (.v (.bool r)))
      | some (.t (.v (.string s'))), some (.t (.v (.string t'))), .neq, false => some (tq (s', t') (s, t), fun r => .t (.v (.bool r)))
      | _, _, _, _ => none
    | _ => none
  | _, .arr res ys i => match o with
    | .index ty x ii => match val tm x, val tm ii, look tab ty with
      | some (.agg l), some (.t (.v (.int _ j))), some ⟨_, .array n e, _⟩ => match look tab e with
        | some te => bif Nat.beq ys.length n then some (.and (tq j i) (arrTr te.desc.isAgg te.size l res ys 0), res) else none
        | none => none
      | _, _, _ => none
    | _ => none
  | _, .ax enc ys i => match o with
    | .indexAddr ty x ii => match val tm x, val tm ii, look tab ty with
      | some (.el cs), some (.t (.v (.int _ j))), some ⟨_, .array n e, _⟩ => match look tab e with
        | some te => bif Nat.beq ys.length n then some (.and (tq j i) (.and (tq cs (cat enc ys)) (tq (α := _ → Nat) (fun y => (enc y).length) (fun _ => te.size))), fun y => .el (enc y)) else none
        | none => none
      | _, _, _ => none
    | _ => none
/-- Operations that give a value that is known: hx: an element that is known; ly: a load out of such an element; eq: structs; cn, sn: cap and slice of nil. -/
inductive W1 where
  | hx (n : Nat)
  | ly (n : Nat)
  | eq
  | cn
  | sn
def W1.q {P : Program} (Ev : EqV P) (tab : Tab) (Γ : List GF) (tm : List (Nat × T)) (hp : List (Nat × Blk)) (o : Op) : W1 → Option (Tr × T)
  | .hx n => match Γ[n]? with
    | some f => match (L1.ix f.enc f.l f.i).q tab tm hp o with
      | some (t, res) => some (t, res f.y)
      | none => none
    | none => none
  | .ly n => match Γ[n]?, o with
    | some f, .load t p => match val tm p, look tab t with
      | some (.pe id i sz off), some ti => match look hp id, takeT ti.desc.isAgg ti.size ((f.enc f.y).map .t) off with
        | some (.rows _ sz' n rs), some r => bif Nat.beq sz sz' then some (tq (i, n, rs) (f.i.toNat, f.l.length, f.l.map f.enc), r) else none
        | _, _ => none
      | _, _ => none
    | _, _ => none
  | .eq => match o with
    | .binOp op ty x y _ => match val tm x, val tm y with
      | some (.agg xs), some (.agg ys) => match Ev.f ty xs ys with
        | some b => match op with
          | .eql => some (.ok, .t (.v (.bool b)))
          | .neq => some (.ok, .t (.v (.bool (!b))))
          | _ => none
        | none => none
      | _, _ => none
    | _ => none
  | .cn => match o with
    | .call ⟨.builtin .cap, a, b⟩ => match a.toList, b.toList with
      | [x], [t] => match val tm x, look tab t with
        | some (.t (.v (.slice none 0 0))), some ⟨_, .slice _, _⟩ => some (.ok, .t (.v (.int .i64 0)))
        | _, _ => none
      | _, _ => none
    | _ => none
  | .sn => match o with
    | .slice t x none (some hi) none => match val tm x, val tm hi, look tab t with
      | some (.t (.v (.slice none 0 0))), some (.t (.v (.int _ 0))), some ⟨_, .slice e, _⟩ => match look tab e with
        | some _ => some (.ok, .t (.v (.slice none 0 0)))
        | none => none
      | _, _, _ => none
    | _ => none
/-- A call as it stands: the function's number, its arguments (the second way: they may be slices of the call's own), the slot. -/
def callY (tm : List (Nat × T)) (o : Oper) : Option (Nat × List T × List (List Tree)) :=
  match o.op with
  | .call ⟨.value f, args, _⟩ => match val tm f, vals tm args.toList with
    | some (.fz n caps), some l => some (n, l, caps)
    | some (.clo n cs), some l => match els cs with
      | some caps => some (n, l, caps)
      | none => none
    | _, _ => none
  | _ => none
def callQ (tm : List (Nat × T)) (hp : List (Nat × Blk)) (o : Oper) : Option (Nat × List T × Bool × Nat) := match callY tm o, o.dst with
  | some (n, targs, caps), some d => match frzL [] targs with
    | some l => some (n, l ++ caps.map T.el, false, d)
    | none => match frzL hp targs with
      | some l => some (n, l ++ caps.map T.el, true, d)
      | none => none
  | _, _ => none
end Go.Pv

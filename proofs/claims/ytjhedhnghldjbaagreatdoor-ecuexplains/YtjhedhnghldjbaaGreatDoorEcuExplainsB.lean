/- This file joins: The value machine, part N: a region that draws its order: operations that only read (and calls that only make memory) in any order; behind them, in their order, those that wait for all. The value machine, part O: whatever order a region draws. The value machine, part P: what is the call's own becomes what stays; appends; names. -/
import Derived.Test.YtjhedhnghldjbaaGreatDoorEcuExplainsA
import Derived.Orders
set_option linter.unusedSimpArgs false
set_option linter.unusedVariables false
namespace Go.Pv
open Go.RowKit
def more (tm tm' : List (Nat × T)) : Prop := ∀ k t, look tm k = some t → look tm' k = some t
theorem val_more {tm tm' : List (Nat × T)} (h : more tm tm') {x : Operand} {t : T} (hx : val tm x = some t) : val tm' x = some t := by
  cases x with
  | tmp k => exact h k t hx
  | const v => exact hx
  | func f => exact hx
  | global g => exact hx
theorem vals_more {tm tm' : List (Nat × T)} (h : more tm tm') : ∀ {l : List Operand} {r : List T}, vals tm l = some r → vals tm' l = some r
  | [], r, hx => hx
  | o :: l, r, hx => by
    unfold vals at hx ⊢
    split at hx <;> try (cases hx; done)
    rename_i y m hy hm
    rw [val_more h hy, vals_more h hm]
    exact hx
theorem foldT_more {f : Int → Int → Int} {tm tm' : List (Nat × T)} (h : more tm tm') : ∀ {l : List Operand} {X : Option T} {r : T}, foldT f tm X l = some r → foldT f tm' X l = some r
  | [], X, r, hx => by cases X <;> exact hx
  | o :: l, X, r, hx => by
    unfold foldT at hx ⊢
    split at hx
    · rename_i heq; cases heq
    · rename_i k i o' l' heq
      cases heq
      split at hx
      · rename_i k' j hv
        simp only [val_more h hv]
        exact foldT_more h hx
      · cases hx
    · cases hx
theorem foldT_none {f : Int → Int → Int} {tm : List (Nat × T)} {l : List Operand} {r : T} (h : foldT f tm none l = some r) : False := by
  cases l <;> simp [foldT] at h
theorem fillT_more {hp : List (Nat × Blk)} {tm tm' : List (Nat × T)} (h : more tm tm') {place : Nat → Option (Nat × Nat)} : ∀ {l : List (Nat × Operand)} {cs r : List T}, fillT hp tm place cs l = some r → fillT hp tm' place cs l = some r
  | [], cs, r, hx => hx
  | (i, x) :: l, cs, r, hx => by
    unfold fillT at hx ⊢
    cases hv : val tm x with
    | none => simp [hv] at hx
    | some t =>
      rw [val_more h hv]
      rw [hv] at hx
      split at hx <;> try (cases hx; done)
      rename_i o n m h1 h2
      cases hb : (Nat.beq m.length n && Nat.ble (o + m.length) cs.length) <;> simp only [hb, cond_true, cond_false] at hx ⊢
      · cases hx
      · exact fillT_more h hx
theorem pickT_more {c : Bool} {X Y X' Y' : Option T} {t : T} (hX : ∀ t, X = some t → X' = some t) (hY : ∀ t, Y = some t → Y' = some t) (h : pickT c X Y = some t) : pickT c X' Y' = some t := by
  unfold pickT at h
  split at h
  · rw [hX _ rfl, hY _ rfl]; exact h
  · cases c
    · rw [hY t h]
      unfold pickT
      split
      · rename_i heq
        simp only [Option.some.injEq] at heq
        subst heq
        rfl
      · rfl
    · rw [hX t h]
      unfold pickT
      split
      · rename_i heq
        simp only [Option.some.injEq] at heq
        subst heq
        rfl
      · rfl
def isPure : Op → Bool
  | .move _ | .assign _ | .pick .. | .load .. | .fieldAddr .. | .nilCheck _ | .binOp .. | .unOp .. | .convert .. | .extract .. | .build .. | .call _ | .indexAddr .. | .index .. => true
  | _ => false
theorem evalOp_more {tab : Tab} {tm tm' : List (Nat × T)} {hp : List (Nat × Blk)} {o : Oper} {t : T} (h : more tm tm') (hi : isPure o.op = true) (he : evalOp tab ⟨tm, hp⟩ o = some (t, ⟨tm, hp⟩)) :
    evalOp tab ⟨tm', hp⟩ o = some (t, ⟨tm', hp⟩) := by
  rw [evalOp_eq] at he ⊢
  obtain ⟨dst, op, type, pos, aft, guard⟩ := o
  have mp : ∀ {x : Option T}, x = some t → x.map (·, (⟨tm', hp⟩ : St)) = some (t, ⟨tm', hp⟩) := fun hx => by rw [hx]; rfl
  cases op <;> simp only [isPure, reduceCtorEq] at hi <;> simp only [evalOp0] at he ⊢
  case move x => exact mp (val_more h (map_inv he).1)
  case assign x => exact mp (val_more h (map_inv he).1)
  case pick c x y =>
    split at he <;> try (cases he; done)
    rename_i b hc
    rw [val_more h hc]
    exact mp (pickT_more (fun t ht => val_more h ht) (fun t ht => val_more h ht) (map_inv he).1)
  case load ty x =>
    split at he <;> try (cases he; done)
    · rename_i id off ti hx hti
      rw [val_more h hx, hti]
      split at he <;> try (cases he; done)
      rename_i ts hb
      simp only [hb]
      exact mp (map_inv he).1
    · rename_i cells ti hx hti
      rw [val_more h hx, hti]
      exact mp (map_inv he).1
  case nilCheck x =>
    split at he <;> try (cases he; done)
    · rename_i id off hx; rw [val_more h hx]; simp only [Option.some.injEq, Prod.mk.injEq] at he; rw [← he.1]
    · rename_i cells hx; rw [val_more h hx]; simp only [Option.some.injEq, Prod.mk.injEq] at he; rw [← he.1]
    · rename_i hx; rw [val_more h hx]; simp only [Option.some.injEq, Prod.mk.injEq] at he; rw [← he.1]
  case fieldAddr s x f =>
    split at he <;> try (cases he; done)
    all_goals
      rename_i hx hti
      rw [val_more h hx, hti]
      split at he <;> try (cases he; done)
      rename_i hf
      simp only [hf]
      simp only [Option.some.injEq, Prod.mk.injEq] at he
      rw [← he.1]
  case binOp op ty x y yt =>
    have hb := (map_inv he).1
    refine mp ?_
    unfold binT at hb ⊢
    split at hb <;> try (cases hb; done)
    · rename_i hx hy; rw [val_more h hx, val_more h hy]; exact hb
    · rename_i hx hy; rw [val_more h hx, val_more h hy]; exact hb
  case unOp op ty x =>
    have hb := (map_inv he).1
    refine mp ?_
    unfold unT at hb ⊢
    split at hb <;> try (cases hb; done)
    · rename_i hx; rw [val_more h hx]; exact hb
    · rename_i hx; rw [val_more h hx]; exact hb
  case convert s d x =>
    split at he <;> try (cases he; done)
    rename_i ti hs
    have hb := (map_inv he).1
    refine mp ?_
    unfold convT at hb ⊢
    split at hb <;> try (cases hb; done)
    rename_i hx; rw [val_more h hx]; exact hb
  case extract x k =>
    split at he <;> try (cases he; done)
    rename_i l hx
    rw [val_more h hx]
    exact mp (map_inv he).1
  case build ty parts =>
    split at he <;> try (cases he; done)
    · rename_i sz fs z hti
      cases hf : fillT hp tm (fs[·]?) (z.map fun x => .t (.v x)) parts.toList with
      | none => simp [hf] at he
      | some l =>
        rw [fillT_more h hf]
        simp only [hf, Option.map_some, Option.some.injEq, Prod.mk.injEq] at he
        simp only [Option.map_some, he.1]
    · rename_i sz n e z hti
      split at he <;> try (cases he; done)
      rename_i te hte
      try simp only [hte]
      cases hf : fillT hp tm (fun i => some (i * te.size, te.size)) (z.map fun x => .t (.v x)) parts.toList with
      | none => simp [hf] at he
      | some l =>
        rw [fillT_more h hf]
        simp only [hf, Option.map_some, Option.some.injEq, Prod.mk.injEq] at he
        simp only [Option.map_some, he.1]
  case indexAddr ty x ix =>
    split at he <;> try (cases he; done)
    all_goals
      rename_i hx hti hix
      split at he <;> try (cases he; done)
      rename_i te hte
    · rename_i id off sz n e z ik i _
      rw [val_more h hx, hti, val_more h hix]
      try simp only [hte]
      cases hb : Nat.blt i n <;> simp only [hb, cond_true, cond_false, reduceCtorEq, Option.some.injEq, Prod.mk.injEq] at he ⊢
      exact ⟨he.1, trivial⟩
    · rename_i cells sz n e z ik i _
      rw [val_more h hx, hti, val_more h hix]
      try simp only [hte]
      cases hb : Nat.blt i n <;> simp only [hb, cond_true, cond_false, reduceCtorEq, Option.some.injEq, Prod.mk.injEq] at he ⊢
      exact ⟨he.1, trivial⟩
    · rename_i id k sz' off sz n e z ik i _
      rw [val_more h hx, hti, val_more h hix]
      try simp only [hte]
      cases hb : Nat.blt i n <;> simp only [hb, cond_true, cond_false, reduceCtorEq, Option.some.injEq, Prod.mk.injEq] at he ⊢
      exact ⟨he.1, trivial⟩
  case index ty x ix =>
    split at he <;> try (cases he; done)
    rename_i l sz n e z ik i hx hti hix
    split at he <;> try (cases he; done)
    rename_i te hte
    rw [val_more h hx, hti, val_more h hix]
    try simp only [hte]
    cases hb : Nat.blt i n <;> simp only [hb, cond_true, cond_false, reduceCtorEq] at he ⊢
    exact mp (map_inv he).1
  case call c =>
    have hb := (map_inv he).1
    refine mp ?_
    unfold callT at hb ⊢
    split at hb <;> try (cases hb; done)
    · rename_i x ty h1 h2 h3
      cases hv : val tm x with
      | none => rw [show val (⟨tm, hp⟩ : St).tm x = none from hv] at hb; unfold lenT at hb; split at hb <;> simp at hb
      | some y =>
        rw [show val (⟨tm, hp⟩ : St).tm x = some y from hv] at hb
        show lenT tab hp ty (val tm' x) = some t
        rw [val_more h hv]; exact hb
    · rename_i x rest h1 h2
      cases hv : val tm x with
      | none => rw [show val (⟨tm, hp⟩ : St).tm x = none from hv] at hb; exact (foldT_none hb).elim
      | some y =>
        rw [show val (⟨tm, hp⟩ : St).tm x = some y from hv] at hb
        show foldT minI tm' (val tm' x) rest = some t
        rw [val_more h hv]; exact foldT_more h hb
    · rename_i x rest h1 h2
      cases hv : val tm x with
      | none => rw [show val (⟨tm, hp⟩ : St).tm x = none from hv] at hb; exact (foldT_none hb).elim
      | some y =>
        rw [show val (⟨tm, hp⟩ : St).tm x = some y from hv] at hb
        show foldT maxI tm' (val tm' x) rest = some t
        rw [val_more h hv]; exact foldT_more h hb
/-- One operation of a region that draws: wherever its slots stand as in tmMin, it gives V and turns nothing. -/
def StepQ (X : Cx) (all : Array Oper) (o : Oper) (tmMin : List (Nat × T)) (hp : List (Nat × Blk)) (V : T) : Prop :=
  ∀ tm, more tmMin tm → ∀ a w S E, Ok X.w0 X.L X.nt ⟨tm, hp⟩ S E a w → ∀ (K : Act → World → Prop) (Q' : Exit → Act → World → Prop),
    (∀ v w' S' E', Ok X.w0 X.L X.nt ⟨tm, hp⟩ S' E' a w' → RV w' S' E' v V → K (a.put o.dst v) w') →
    if Region.wanted o (yielded all a.tmps) then o.wp X.P a w K Q' else K (a.put o.dst undef) w
section
variable {ρ τ α : Type} {X : Cx} {ks : List K} {tmMin : List (Nat × T)} {hp : List (Nat × Blk)} {all : Array Oper} {o : Oper} {V : T}
theorem guardT_more {tm tm' : List (Nat × T)} {l : List Oper} {g : Option (Nat × Bool)} {b : Bool} (h : more tm tm') (hg : guardT l tm g = some b) : guardT l tm' g = some b := by
  cases g with
  | none => exact hg
  | some p =>
    obtain ⟨j, want⟩ := p
    simp only [guardT] at hg ⊢
    split at hg <;> try (cases hg; done)
    rename_i o ho
    split at hg <;> try (cases hg; done)
    rename_i d hd
    cases hl : look tm d with
    | none => simp [hl] at hg
    | some t => simp only [hl] at hg; simp only [h d t hl]; exact hg
theorem StepQ.quiet (hg : guardT all.toList tmMin o.guard = some true) (hi : isPure o.op = true) (he : evalOp X.tab ⟨tmMin, hp⟩ o = some (V, ⟨tmMin, hp⟩)) : StepQ X all o tmMin hp V := by
  intro tm hm a w S E hk K Q' hK
  obtain ⟨v, w', E', hd, hk', hv⟩ := evalOp_ok X.htab hk (evalOp_more hm hi he)
  rw [guardT_ok hk (guardT_more hm hg), if_pos rfl]
  unfold Oper.wp
  rcases hd with hd | ⟨hd, rfl⟩ <;> rw [hd]
  · exact hK _ _ _ _ hk' hv
  · exact hK _ _ _ _ hk' hv
theorem StepQ.skip (hg : guardT all.toList tmMin o.guard = some false) : StepQ X all o tmMin hp (.t (.v undef)) := by
  intro tm hm a w S E hk K Q' hK
  rw [guardT_ok hk (guardT_more hm hg), if_neg (by simp)]
  exact hK _ _ _ _ hk (.t (.v _))
theorem StepQ.index {ty e n s0 : Nat} {x ix : Operand} {ik : IntKind} {i : Int} {z0 : List Value} {te : TI} {l : List α} {enc : α → List Tree} {y : α}
    (hy : getI l i = some y) (ho : o.op = .indexAddr ty x ix) (hg : guardT all.toList tmMin o.guard = some true) (hx : val tmMin x = some (.t (.sl n (l.map enc)))) (hi : val tmMin ix = some (.t (.v (.int ik i))))
    (hty : look X.tab ty = some ⟨s0, .slice e, z0⟩) (hte : look X.tab e = some te) (henc : ∀ y, (enc y).length = te.size) : StepQ X all o tmMin hp (.el (enc y)) := by
  intro tm hm a w S E hk K Q' hK
  obtain ⟨v, h1, h2⟩ := index_run hk hy ho (val_more hm hx) (val_more hm hi) hty hte henc
  rw [guardT_ok hk (guardT_more hm hg), if_pos rfl]
  unfold Oper.wp
  rw [h1]
  exact hK _ _ _ _ hk h2
theorem callZ_more {tm tm' : List (Nat × T)} {r : Nat × List T × List (List Tree)} (h : more tm tm') (hc : callZ tm o = some r) : callZ tm' o = some r := by
  unfold callZ at hc ⊢
  split at hc <;> try (cases hc; done)
  rename_i f args tys hop
  split at hc <;> try (cases hc; done)
  rename_i n caps l hf hl
  rw [val_more h hf, vals_more h hl]
  exact hc
theorem StepQ.call {d1 : Bool} {n : Nat} {targs cargs : List T} {caps : List (List Tree)} {m₁ : Option τ} {res : τ → T} {t : τ} (ht : m₁ = some t)
    (hg : guardT all.toList tmMin o.guard = some true) (ho : callZ tmMin o = some (n, targs, caps)) (hf : frzL [] targs = some cargs) (hc : TieF X.P n (cargs ++ caps.map T.el) m₁ res d1) (hd0 : X.L.dr = true → d1 = true := by intro _; rfl) : StepQ X all o tmMin hp (res t) := by
  intro tm hm a w S E hk K Q' hK
  obtain ⟨vs, ps, hrun, hv, hps⟩ := callZ_ok hk (callZ_more hm ho) hc.1
  have hcall := hc.2 t ht w S E (vs ++ ps) (X.glF hk) hk.stab ((RV.closed hk hv hf E).append (hps E))
  rw [guardT_ok hk (guardT_more hm hg), if_pos rfl]
  unfold Oper.wp
  rw [hrun, Oper.upon_enter]
  refine hcall.mono fun e w' ⟨v, S', he, hv', hkeep, hs1, hs2⟩ => ?_
  subst he
  refine hK v w' (fun b => S b ∨ S' b) E ((hk.grow (hkeep.weak hd0)).more hs1 (fun b hb => ?_) (fun id blk β hb hβ hS => ?_)) (hv'.mono (fun _ x => .inr x) (fun _ _ => rfl) (fun _ _ => rfl))
  · rcases hs2 b hb with h1 | h1
    · exact hk.base b h1
    · exact .inr (.inr (Nat.le_trans hk.keep.size h1))
  · have := hk.own id blk β hb hβ
    rcases hs2 β hS with h1 | h1
    · exact this.1 h1
    · exact absurd this.2.1 (Nat.not_lt.2 h1)
theorem StepQ.quo {ty yt : Nat} {x y : Operand} {ik : IntKind} {i j q : Int} (hq : quoM ik i j = some q) (ho : o.op = .binOp .quo ty x y yt) (hg : guardT all.toList tmMin o.guard = some true)
    (hx : val tmMin x = some (.t (.v (.int ik i)))) (hy : val tmMin y = some (.t (.v (.int ik j)))) : StepQ X all o tmMin hp (.t (.v (.int ik q))) := by
  intro tm hm a w S E hk K Q' hK
  rw [guardT_ok hk (guardT_more hm hg), if_pos rfl]
  unfold Oper.wp
  have hrun : (execOp a.eval o).run X.P w = .ok (.value (.int ik q)) w := by
    unfold quoM at hq
    split at hq
    · cases hq
    · rename_i hj
      cases hq
      simp only [execOp, ho, Sem.run_bind, (hk.val (val_more hm hx)).tv, (hk.val (val_more hm hy)).tv, eqGuard_run .quo ty x y (.int ik i) (.int ik j) (by simp) (by simp), Result.andThen_ok]
      simp [binOp, Op.intDiv, hj]
  rw [hrun]
  exact hK _ _ _ _ hk (.t (.v _))
end
end Go.Pv
namespace Go.Pv
open Go.RowKit
def deps (o : Oper) : List Nat := (o.after.toList.filter (Region.binds .any)).map (·.on)
def waits (ops : List Oper) : Nat → Nat → Nat → Bool
  | 0, _, _ => false
  | f + 1, j, i => match ops[j]? with
    | some o => (deps o).any (fun k => Nat.beq k i) || (deps o).any (fun k => waits ops f k i)
    | none => false
/-- From h on each operation waits for all before it; none waits for what comes later. -/
def tailOk (ops : List Oper) (h : Nat) : Bool :=
  (List.range ops.length).all fun j => (match ops[j]? with | some o => (deps o).all (fun k => Nat.blt k j) | none => true) && (Nat.blt j h || (List.range j).all (fun i => waits ops ops.length j i))
def headOk (nt : Nat) (tm0 : List (Nat × T)) : List Oper → Bool
  | [] => true
  | o :: r => (match o.dst with | some d => (look tm0 d).isNone && Nat.blt d nt && r.all (fun o' => match o'.dst with | some d' => !Nat.beq d d' | none => true) | none => true) && headOk nt tm0 r
/-- The slots that operation o may count on: those of the operations that it waits for, and what was there. -/
def minOf (ops : List Oper) (Vs : List T) (tm0 : List (Nat × T)) : List Nat → List (Nat × T)
  | [] => tm0
  | j :: r => match ops[j]?, Vs[j]? with
    | some o, some V => match o.dst with
      | some d => (d, V) :: minOf ops Vs tm0 r
      | none => minOf ops Vs tm0 r
    | _, _ => minOf ops Vs tm0 r
inductive StepsQ (X : Cx) (all : Array Oper) (Vs : List T) (tm0 : List (Nat × T)) (hp : List (Nat × Blk)) : List Oper → List T → Prop
  | nil {ops : List Oper} : StepsQ X all Vs tm0 hp ops []
  | cons {o : Oper} {ops : List Oper} {V : T} {l : List T} (h : StepQ X all o (minOf all.toList Vs tm0 (deps o)) hp V) (r : StepsQ X all Vs tm0 hp ops l) : StepsQ X all Vs tm0 hp (o :: ops) (V :: l)
def fullOf : List Oper → List T → List (Nat × T) → List (Nat × T)
  | o :: r, V :: l, tm0 => match o.dst with
    | some d => (d, V) :: fullOf r l tm0
    | none => fullOf r l tm0
  | _, _, tm0 => tm0
section
variable {X : Cx} {all : Array Oper} {Vs : List T} {tm0 : List (Nat × T)} {hp : List (Nat × Blk)}
theorem StepsQ.get : ∀ {ops : List Oper} {l : List T}, StepsQ X all Vs tm0 hp ops l → ∀ (i : Nat) (V : T), l[i]? = some V → ∃ o, ops[i]? = some o ∧ StepQ X all o (minOf all.toList Vs tm0 (deps o)) hp V
  | _, [], _, i, V, h => by simp at h
  | o :: ops, V' :: l, .cons h r, i, V, hi => by
    cases i with
    | zero => simp only [List.getElem?_cons_zero, Option.some.injEq] at hi; subst hi; exact ⟨o, rfl, h⟩
    | succ i => simpa using r.get i V (by simpa using hi)
theorem minOf_look {ops : List Oper} {tm : List (Nat × T)} (h0 : more tm0 tm) : ∀ (l : List Nat), (∀ j o V d, j ∈ l → ops[j]? = some o → Vs[j]? = some V → o.dst = some d → look tm d = some V) → more (minOf ops Vs tm0 l) tm
  | [], _ => h0
  | j :: r, h => by
    have ih := minOf_look h0 r (fun j' o V d hj => h j' o V d (List.mem_cons_of_mem _ hj))
    unfold minOf
    split
    · rename_i o V ho hV
      split
      · rename_i d hd
        intro k t hk
        simp only [look] at hk
        by_cases hdk : d = k
        · subst hdk; simp only [Nat.beq_refl, cond_true, Option.some.injEq] at hk; subst hk; exact h j o V d (List.mem_cons_self ..) ho hV hd
        · simp only [beq_ne hdk, cond_false] at hk; exact ih k t hk
      · exact ih
    · exact ih
theorem fullOf_look {tm : List (Nat × T)} (h0 : more tm0 tm) : ∀ (ops : List Oper) (l : List T), (∀ (j : Nat) (o : Oper) (V : T) (d : Nat), ops[j]? = some o → l[j]? = some V → o.dst = some d → look tm d = some V) → more (fullOf ops l tm0) tm
  | [], _, _ => by cases ‹List T› <;> exact h0
  | o :: ops, [], _ => h0
  | o :: ops, V :: l, h => by
    have ih := fullOf_look h0 ops l (fun j o V d ho hV => h (j + 1) o V d (by simpa using ho) (by simpa using hV))
    unfold fullOf
    split
    · rename_i d hd
      intro k t hk
      simp only [look] at hk
      by_cases hdk : d = k
      · subst hdk; simp only [Nat.beq_refl, cond_true, Option.some.injEq] at hk; subst hk; exact h 0 o V d rfl rfl hd
      · simp only [beq_ne hdk, cond_false] at hk; exact ih k t hk
    · exact ih
theorem headOk_get {nt : Nat} : ∀ {l : List Oper}, headOk nt tm0 l = true → ∀ (i j : Nat) (o o' : Oper) (d d' : Nat), l[i]? = some o → l[j]? = some o' → o.dst = some d → o'.dst = some d' → (look tm0 d = none ∧ d < nt) ∧ (i ≠ j → d ≠ d')
  | [], _, i, j, o, o', d, d', hi, _, _, _ => by simp at hi
  | x :: r, h, i, j, o, o', d, d', hi, hj, hd, hd' => by
    simp only [headOk, Bool.and_eq_true] at h
    have one : ∀ (k : Nat) (y : Oper) (c c' : Nat), x.dst = some c → r[k]? = some y → y.dst = some c' → c ≠ c' := by
      intro k y c c' hx hk hy
      have hm : y ∈ r := List.mem_of_getElem? hk
      have h1 := h.1
      rw [hx] at h1
      simp only [Bool.and_eq_true, List.all_eq_true] at h1
      have := h1.2 y hm
      rw [hy] at this
      intro e
      subst e
      simp at this
    cases i with
    | zero =>
      simp only [List.getElem?_cons_zero, Option.some.injEq] at hi
      subst hi
      refine ⟨?_, fun hne => ?_⟩
      · have h1 := h.1
        rw [hd] at h1
        simp only [Bool.and_eq_true, Option.isNone_iff_eq_none] at h1
        exact ⟨h1.1.1, Nat.le_of_ble_eq_true h1.1.2⟩
      · cases j with
        | zero => exact absurd rfl hne
        | succ j => exact one j o' d d' hd (by simpa using hj) hd'
    | succ i =>
      have hi' : r[i]? = some o := by simpa using hi
      cases j with
      | zero =>
        simp only [List.getElem?_cons_zero, Option.some.injEq] at hj
        subst hj
        exact ⟨(headOk_get h.2 i i o o d d hi' hi' hd hd).1, fun _ e => one i o d' d hd' hi' hd e.symm⟩
      | succ j =>
        have := headOk_get h.2 i j o o' d d' hi' (by simpa using hj) hd hd'
        exact ⟨this.1, fun hne => this.2 (fun e => hne (by rw [e]))⟩
theorem waits_listed {ops : List Oper} {listed : Array Bool} (hcl : ∀ j o, ops[j]? = some o → listed.getD j false = true → ∀ k ∈ deps o, listed.getD k false = true) :
    ∀ (f j i : Nat), waits ops f j i = true → (∀ o, ops[j]? = some o → ∀ k ∈ deps o, listed.getD k false = true) → listed.getD i false = true
  | 0, _, _, h, _ => by simp [waits] at h
  | f + 1, j, i, h, hd => by
    unfold waits at h
    split at h
    · rename_i o ho
      simp only [Bool.or_eq_true, List.any_eq_true] at h
      rcases h with ⟨k, hk, he⟩ | ⟨k, hk, he⟩
      · have := Nat.eq_of_beq_eq_true he
        subst this
        exact hd o ho k hk
      · exact waits_listed hcl f k i he (fun o' ho' => hcl k o' ho' (hd o ho k hk))
    · cases h
def unl (n : Nat) (listed : Array Bool) : Nat := ((List.range n).filter fun i => !listed.getD i false).length
theorem unl_set {n i : Nat} {listed : Array Bool} (hi : i < n) (hs : listed.size = n) (h : listed.getD i false = false) : unl n listed = unl n (listed.setIfInBounds i true) + 1 := by
  unfold unl
  have key : ∀ m, ((List.range m).filter fun j => !listed.getD j false).length = ((List.range m).filter fun j => !(listed.setIfInBounds i true).getD j false).length + (if i < m then 1 else 0) := by
    intro m
    induction m with
    | zero => simp
    | succ m ih =>
      rw [List.range_succ, List.filter_append, List.filter_append, List.length_append, List.length_append, ih]
      by_cases c1 : i = m
      · subst c1
        have e : (listed.setIfInBounds i true).getD i false = true := by simp [hs, hi]
        simp only [List.filter_cons, List.filter_nil, h, e]
        simp
      · have e : (listed.setIfInBounds i true).getD m false = listed.getD m false := getD_set_ne false c1
        simp only [List.filter_cons, List.filter_nil, e]
        by_cases c2 : i < m
        · simp only [c2, if_true, show i < m + 1 by omega]; split <;> simp <;> omega
        · simp only [c2, if_false, show ¬ i < m + 1 by omega]; split <;> simp
  have := key n
  rw [if_pos hi] at this
  exact this
theorem unl_zero {n : Nat} {listed : Array Bool} (h : unl n listed = 0) : ∀ i, i < n → listed.getD i false = true := by
  intro i hi
  unfold unl at h
  have := List.eq_nil_of_length_eq_zero h
  rw [List.filter_eq_nil_iff] at this
  have := this i (List.mem_range.2 hi)
  simpa using this
theorem deps_binds {o : Oper} {listed : Array Bool} (h : ∀ e ∈ o.after, Region.binds .any e = true → listed.getD e.on false = true) : ∀ k ∈ deps o, listed.getD k false = true := by
  intro k hk
  simp only [deps, List.mem_map, List.mem_filter] at hk
  obtain ⟨e, ⟨he, hb⟩, rfl⟩ := hk
  exact h e (by simpa using he) hb
/-- The operations that come in order: the first m are done. -/
theorem any_tail {P : Program} {Q : Exit → Act → World → Prop} {h : Nat} (ht : tailOk all.toList h = true) : ∀ (fuel m : Nat) (listed : Array Bool) (a : Act) (w : World), h ≤ m → m + fuel = all.size → listed.size = all.size →
    (∀ j, j < all.size → listed.getD j false = decide (j < m)) → wpList P all Q (all.toList.drop m) a w → wpAny P .any all Q fuel listed a w := by
  intro fuel
  induction fuel with
  | zero =>
    intro m listed a w hm hf hs hl hw
    have hnil : all.toList.drop m = [] := List.drop_eq_nil_of_le (by simp; omega)
    rw [hnil] at hw
    refine ⟨?_, hw⟩
    apply List.eq_nil_iff_forall_not_mem.2
    intro j hj
    obtain ⟨h1, o, ho, _⟩ := mem_ready.1 hj
    have hjn : j < all.size := (Array.getElem?_eq_some_iff.1 ho).1
    have := hl j hjn
    have h2 : listed.getD j true = listed.getD j false := by simp [hs, hjn]
    rw [h2, this] at h1
    simp at h1
    omega
  | succ fuel ih =>
    intro m listed a w hm hf hs hl hw
    have hmn : m < all.size := by omega
    have hmo : all[m]? = some all[m] := Array.getElem?_eq_getElem hmn
    have hcl : ∀ j o, all.toList[j]? = some o → listed.getD j false = true → ∀ k ∈ deps o, listed.getD k false = true := by
      intro j o ho hj k hk
      have hjn : j < all.size := by have := (List.getElem?_eq_some_iff.1 ho).1; simpa using this
      have h1 := List.all_eq_true.1 ht j (List.mem_range.2 (by simpa using hjn))
      rw [ho] at h1
      simp only [Bool.and_eq_true, List.all_eq_true] at h1
      have hkj : k < j := Nat.le_of_ble_eq_true (h1.1 k hk)
      rw [hl j hjn] at hj
      rw [hl k (by omega)]
      simp at hj ⊢; omega
    have only : ∀ j ∈ Region.ready .any all listed, j = m := by
      intro j hj
      obtain ⟨h1, o, ho, hd⟩ := mem_ready.1 hj
      have hjn : j < all.size := (Array.getElem?_eq_some_iff.1 ho).1
      have h2 : listed.getD j true = listed.getD j false := by simp [hs, hjn]
      rw [h2, hl j hjn] at h1
      simp at h1
      have h3 := List.all_eq_true.1 ht j (List.mem_range.2 (by simpa using hjn))
      simp only [Bool.and_eq_true, Bool.or_eq_true, List.all_eq_true] at h3
      rcases Nat.lt_or_ge m j with hlt | hge
      · exfalso
        have hw := (h3.2.resolve_left (fun hb => by have := Nat.le_of_ble_eq_true hb; omega)) m (List.mem_range.2 hlt)
        have := waits_listed hcl _ j m hw (fun o' ho' k hk => by
          have : o' = o := by rw [← Array.getElem?_toList] at ho; rw [ho] at ho'; exact (Option.some.inj ho').symm
          subst this
          exact deps_binds hd k hk)
        rw [hl m hmn] at this
        simp at this
      · omega
    have hin : m ∈ Region.ready .any all listed := by
      have h2 : listed.getD m true = false := by
        have h2 : listed.getD m true = listed.getD m false := by simp [hs, hmn]
        rw [h2, hl m hmn]; simp
      refine mem_ready.2 ⟨h2, all[m], hmo, fun e he hb => ?_⟩
      have h3 := List.all_eq_true.1 ht m (List.mem_range.2 (by simpa using hmn))
      have hmo' : all.toList[m]? = some all[m] := by simp
      rw [hmo'] at h3
      simp only [Bool.and_eq_true, List.all_eq_true] at h3
      have hk : e.on ∈ deps all[m] := by
        simp only [deps, List.mem_map, List.mem_filter]
        exact ⟨e, ⟨by simpa using he, hb⟩, rfl⟩
      have hlt : e.on < m := Nat.le_of_ble_eq_true (h3.1 e.on hk)
      rw [hl e.on (by omega)]
      simpa using hlt
    refine ⟨fun h0 => (by rw [h0] at hin; cases hin), fun i hi => ?_⟩
    have := only i hi
    subst this
    have hdrop : all.toList.drop i = all[i] :: all.toList.drop (i + 1) := by
      rw [List.drop_eq_getElem_cons (by simpa using hmn)]; simp
    rw [hdrop] at hw
    unfold wpList at hw
    unfold wpOp
    simp only [hmo]
    have next : ∀ a w, wpList P all Q (all.toList.drop (i + 1)) a w → wpAny P .any all Q fuel (listed.setIfInBounds i true) a w := fun a w hw =>
      ih (i + 1) _ a w (by omega) (by omega) (by simp [hs]) (fun j hj => by
        by_cases c : i = j
        · subst c; simp [hs, hmn]
        · rw [getD_set_ne false c, hl j hj]; simp; omega) hw
    split at hw
    · rename_i hg
      rw [if_pos hg]
      exact hw.imp (Oper.wp_mono next) id
    · rename_i hg
      rw [if_neg hg]
      exact next _ _ hw
/-- The operations that only read, in any order. -/
theorem any_head {Q : Exit → Act → World → Prop} {h : Nat} (hv : Vs.length = h) (hle : h ≤ all.size) (ht : tailOk all.toList h = true) (hh : headOk X.nt tm0 (all.toList.take h) = true)
    (steps : StepsQ X all Vs tm0 hp all.toList Vs)
    (rest : ∀ a w, Sim X.w0 X.L X.nt ⟨fullOf all.toList Vs tm0, hp⟩ a w → wpList X.P all Q (all.toList.drop h) a w) :
    ∀ (fuel : Nat) (listed : Array Bool) (tm : List (Nat × T)) (a : Act) (w : World) (S : Nat → Prop) (E : Nat → Value), Ok X.w0 X.L X.nt ⟨tm, hp⟩ S E a w → more tm0 tm → listed.size = all.size → unl all.size listed = fuel →
      (∀ j, h ≤ j → j < all.size → listed.getD j false = false) → (∀ j o, all.toList[j]? = some o → listed.getD j false = true → ∀ k ∈ deps o, listed.getD k false = true) →
      (∀ i o V d, listed.getD i false = true → all.toList[i]? = some o → Vs[i]? = some V → o.dst = some d → look tm d = some V) → wpAny X.P .any all Q fuel listed a w := by
  have getH : ∀ i, i < h → ∃ o V, all.toList[i]? = some o ∧ Vs[i]? = some V ∧ StepQ X all o (minOf all.toList Vs tm0 (deps o)) hp V := by
    intro i hi
    have hV : Vs[i]? = some (Vs[i]'(by omega)) := List.getElem?_eq_getElem (by omega)
    obtain ⟨o, ho, hq⟩ := steps.get i _ hV
    exact ⟨o, _, ho, hV, hq⟩
  intro fuel
  induction fuel with
  | zero =>
    intro listed tm a w S E hk hm hs hu htl hcl hsl
    have hall := unl_zero hu
    have hh0 : h = all.size := by
      rcases Nat.lt_or_ge h all.size with h1 | h1
      · have := htl h (Nat.le_refl _) h1; rw [hall h h1] at this; cases this
      · omega
    refine any_tail ht 0 h listed a w (Nat.le_refl _) (by omega) hs (fun j hj => by rw [hall j hj]; simp; omega) (rest a w ⟨S, E, { hk with tm := fun k t hkt => hk.tm k t (fullOf_look hm _ _ (fun j o V d ho hV hd => hsl j o V d (hall j (by have := (List.getElem?_eq_some_iff.1 ho).1; simpa using this)) ho hV hd) k t hkt) }⟩)
  | succ fuel ih =>
    intro listed tm a w S E hk hm hs hu htl hcl hsl
    by_cases hdone : ∀ j, j < h → listed.getD j false = true
    · have hl : ∀ j, j < all.size → listed.getD j false = decide (j < h) := fun j hj => by
        by_cases c : j < h
        · rw [hdone j c]; simp [c]
        · rw [htl j (by omega) hj]; simp [c]
      have hcount : h + (fuel + 1) = all.size := by
        have key : ∀ m, m ≤ all.size → ((List.range m).filter fun j => !listed.getD j false).length = m - h := by
          intro m
          induction m with
          | zero => intro _; simp
          | succ m ihm =>
            intro hm'
            rw [List.range_succ, List.filter_append, List.length_append, ihm (by omega)]
            have := hl m (by omega)
            by_cases c : m < h
            · simp only [List.filter_cons, this, c, decide_true, Bool.not_true, Bool.false_eq_true, if_false, List.filter_nil, List.length_nil]; omega
            · simp only [List.filter_cons, this, c, decide_false, Bool.not_false, if_true, List.filter_nil, List.length_cons, List.length_nil]; omega
        have := key all.size (Nat.le_refl _)
        unfold unl at hu
        omega
      exact any_tail ht (fuel + 1) h listed a w (Nat.le_refl _) hcount hs hl (rest a w ⟨S, E, { hk with tm := fun k t hkt => hk.tm k t (fullOf_look hm _ _ (fun j o V d ho hV hd => hsl j o V d (by
        have hjh : j < h := by have := (List.getElem?_eq_some_iff.1 hV).1; omega
        exact hdone j hjh) ho hV hd) k t hkt) }⟩)
    · have hex : ∃ j, j < h ∧ listed.getD j false = false := by
        refine Classical.byContradiction fun hn => hdone fun j hj => ?_
        cases hb : listed.getD j false
        · exact absurd ⟨j, hj, hb⟩ hn
        · rfl
      obtain ⟨j0, hj0, hl0⟩ := hex
      have readyHead : ∀ i ∈ Region.ready .any all listed, i < h ∧ i < all.size ∧ listed.getD i false = false ∧ ∃ o, all[i]? = some o ∧ ∀ k ∈ deps o, listed.getD k false = true := by
        intro i hi
        obtain ⟨h1, o, ho, hd⟩ := mem_ready.1 hi
        have hin : i < all.size := (Array.getElem?_eq_some_iff.1 ho).1
        have h2 : listed.getD i true = listed.getD i false := by simp [hs, hin]
        rw [h2] at h1
        refine ⟨?_, hin, h1, o, ho, deps_binds hd⟩
        refine Classical.byContradiction fun hnh => ?_
        have h3 := List.all_eq_true.1 ht i (List.mem_range.2 (by simpa using hin))
        simp only [Bool.and_eq_true, Bool.or_eq_true, List.all_eq_true] at h3
        have hw := (h3.2.resolve_left (fun hb => by have := Nat.le_of_ble_eq_true hb; omega)) j0 (List.mem_range.2 (by omega))
        have := waits_listed hcl _ i j0 hw (fun o' ho' => by
          have : o' = o := by rw [← Array.getElem?_toList] at ho; rw [ho] at ho'; exact (Option.some.inj ho').symm
          subst this
          exact deps_binds hd)
        rw [hl0] at this
        cases this
      have notEmpty : Region.ready .any all listed ≠ [] := by
        -- the first that is not listed is ready
        have hmin : ∃ j, j < all.size ∧ listed.getD j false = false ∧ ∀ k, k < j → listed.getD k false = true := by
          have : ∀ n, (∃ j, j < n ∧ listed.getD j false = false) → ∃ j, j < n ∧ listed.getD j false = false ∧ ∀ k, k < j → listed.getD k false = true := by
            intro n
            induction n with
            | zero => rintro ⟨j, hj, _⟩; omega
            | succ n ihn =>
              rintro ⟨j, hj, hb⟩
              by_cases hx : ∃ j, j < n ∧ listed.getD j false = false
              · obtain ⟨j', h1, h2, h3⟩ := ihn hx
                exact ⟨j', by omega, h2, h3⟩
              · have : j = n := by
                  rcases Nat.lt_or_ge j n with c | c
                  · exact absurd ⟨j, c, hb⟩ hx
                  · omega
                subst this
                refine ⟨j, hj, hb, fun k hk => ?_⟩
                cases hc : listed.getD k false
                · exact absurd ⟨k, hk, hc⟩ hx
                · rfl
          obtain ⟨j, h1, h2, h3⟩ := this h ⟨j0, hj0, hl0⟩
          exact ⟨j, by omega, h2, h3⟩
        obtain ⟨j, hj, hb, hk⟩ := hmin
        have hin : j ∈ Region.ready .any all listed := by
          have hjo : all[j]? = some all[j] := Array.getElem?_eq_getElem hj
          have h2 : listed.getD j true = false := by rw [← hb]; simp [hs, hj]
          refine mem_ready.2 ⟨h2, all[j], hjo, fun e he hbd => ?_⟩
          have h3 := List.all_eq_true.1 ht j (List.mem_range.2 (by simpa using hj))
          have hjo' : all.toList[j]? = some all[j] := by simp
          rw [hjo'] at h3
          simp only [Bool.and_eq_true, List.all_eq_true] at h3
          have hke : e.on ∈ deps all[j] := by
            simp only [deps, List.mem_map, List.mem_filter]
            exact ⟨e, ⟨by simpa using he, hbd⟩, rfl⟩
          exact hk e.on (Nat.le_of_ble_eq_true (h3.1 e.on hke))
        intro h0
        rw [h0] at hin
        cases hin
      refine ⟨fun h0 => absurd h0 notEmpty, fun i hi => ?_⟩
      obtain ⟨hih, hin, hli, o, ho, hd⟩ := readyHead i hi
      obtain ⟨o', V, ho', hV, hq⟩ := getH i hih
      have : o' = o := by rw [← Array.getElem?_toList] at ho; rw [ho] at ho'; exact (Option.some.inj ho').symm
      subst this
      unfold wpOp
      simp only [ho]
      have hmin : more (minOf all.toList Vs tm0 (deps o')) tm := minOf_look hm _ fun j oj Vj dj hj hoj hVj hdj => hsl j oj Vj dj (hd j hj) hoj hVj hdj
      have hstep := hq tm hmin a w S E hk (wpAny X.P .any all Q fuel (listed.setIfInBounds i true)) Q (fun v w' S' E' hk' hv' => by
        have hsz : (listed.setIfInBounds i true).size = all.size := by simp [hs]
        have hun : unl all.size (listed.setIfInBounds i true) = fuel := by have := unl_set (listed := listed) hin hs hli; omega
        have htl' : ∀ j, h ≤ j → j < all.size → (listed.setIfInBounds i true).getD j false = false := fun j h1 h2 => by rw [getD_set_ne false (by omega)]; exact htl j h1 h2
        have hcl' : ∀ j o, all.toList[j]? = some o → (listed.setIfInBounds i true).getD j false = true → ∀ k ∈ deps o, (listed.setIfInBounds i true).getD k false = true := fun j oj hoj hlj k hk => by
          by_cases c : i = j
          · subst c
            have : oj = o' := by rw [ho'] at hoj; exact (Option.some.inj hoj).symm
            subst this
            exact getD_set_true (hd k hk)
          · rw [getD_set_ne false c] at hlj
            exact getD_set_true (hcl j oj hoj hlj k hk)
        cases hdst : o'.dst with
        | none =>
          refine ih _ tm _ w' S' E' hk' hm hsz hun htl' hcl' fun j oj Vj dj hlj hoj hVj hdj => ?_
          by_cases c : i = j
          · subst c
            have : oj = o' := by rw [ho'] at hoj; exact (Option.some.inj hoj).symm
            subst this
            rw [hdst] at hdj; cases hdj
          · rw [getD_set_ne false c] at hlj
            exact hsl j oj Vj dj hlj hoj hVj hdj
        | some d =>
          have hti : (all.toList.take h)[i]? = some o' := by rw [List.getElem?_take, if_pos hih]; exact ho'
          have h1 := (headOk_get hh i i o' o' d d hti hti hdst hdst).1
          refine ih _ ((d, V) :: tm) _ w' S' E' (hk'.put h1.2 hv') (fun k t hkt => ?_) hsz hun htl' hcl' fun j oj Vj dj hlj hoj hVj hdj => ?_
          · have hne : d ≠ k := by intro e; subst e; rw [h1.1] at hkt; cases hkt
            simp only [look, beq_ne hne, cond_false]
            exact hm k t hkt
          · by_cases c : i = j
            · subst c
              have : oj = o' := by rw [ho'] at hoj; exact (Option.some.inj hoj).symm
              subst this
              rw [hdst] at hdj; cases hdj
              rw [hV] at hVj; cases hVj
              simp [look]
            · rw [getD_set_ne false c] at hlj
              have hjh : j < h := by
                refine Classical.byContradiction fun hn => ?_
                have hjn : j < all.size := by have := (List.getElem?_eq_some_iff.1 hoj).1; simpa using this
                rw [htl j (by omega) hjn] at hlj; cases hlj
              have htj : (all.toList.take h)[j]? = some oj := by rw [List.getElem?_take, if_pos hjh]; exact hoj
              have hne := (headOk_get hh i j o' oj d dj hti htj hdst hdj).2 c
              simp only [look, beq_ne hne, cond_false]
              exact hsl j oj Vj dj hlj hoj hVj hdj)
      split at hstep
      · rename_i hg
        rw [if_pos hg]
        exact .inl hstep
      · rename_i hg
        rw [if_neg hg]
        exact hstep
theorem repl_get (n j : Nat) : (Array.replicate n false).getD j false = false := by
  simp only [Array.getD_eq_getD_getElem?, Array.getElem?_replicate]
  split <;> rfl
/-- A region that draws its order: the first h operations only read (or call what only makes memory). -/
theorem TieS.draw {ρ : Type} {ks : List K} {σ : St} {m : Option ρ} {Q : ρ → Exit → St → Prop} {id : Nat} (h : Nat) (Vs : List T) (tm0 : List (Nat × T)) (hp : List (Nat × Blk))
    (hmx : X.P.follows .mixedOrders = true) (hs : Sub ⟨tm0, hp⟩ σ) (hv : Vs.length = h) (hle : Nat.ble h all.size = true) (ht : tailOk all.toList h = true) (hh : headOk X.nt tm0 (all.toList.take h) = true)
    (steps : StepsQ X all Vs tm0 hp all.toList Vs) (rest : TieO X all (all.toList.drop h) ks ⟨fullOf all.toList Vs tm0, hp⟩ m Q) : TieS X (.c (.region id all true) :: ks) σ m Q := fun r hr a w hw => by
  obtain ⟨S, E, hk⟩ := hw.sub hs
  have hkeep : Keep X.L.dr (fun _ => False) w { w with drawn := w.drawn + 1 } := ⟨rfl, rfl, rfl, Nat.le_refl _, fun _ _ _ => rfl, fun _ => Nat.le_succ _⟩
  refine wp_region_any hmx (any_head hv (Nat.le_of_ble_eq_true hle) ht hh steps (fun a w hs => rest r hr a w hs) _ _ tm0 a _ S E (hk.grow hkeep) (fun _ _ h => h) (by simp) ?_ ?_ ?_ ?_)
  · unfold unl
    have : ((List.range all.size).filter fun i => !(Array.replicate all.size false).getD i false) = List.range all.size := by
      rw [List.filter_eq_self]
      intro i hi
      rw [repl_get]; rfl
    rw [this]; simp
  · intro j _ _; exact repl_get _ _
  · intro j o ho hl
    rw [repl_get] at hl; cases hl
  · intro j o V d hl
    rw [repl_get] at hl; cases hl
end
end Go.Pv
namespace Go.Pv
open Go.RowKit
theorem tab_step {P : Program} {t : Nat} {ti : TI} {t0 : Nat} {ti0 : TI} {r : Tab} (h : look ((t0, ti0) :: r) t = some ti) (h0 : TIok P t0 ti0) (k : look r t = some ti → TIok P t ti) : TIok P t ti := by
  simp only [look] at h
  by_cases ht : t0 = t
  · subst ht; simp only [Nat.beq_refl, cond_true, Option.some.injEq] at h; subst h; exact h0
  · simp only [beq_ne ht, cond_false] at h; exact k h
mutual
/-- The call's own slice id, where it stands, is u. -/
def subT1 (id : Nat) (u : T) : T → T
  | .own i => bif Nat.beq i id then u else .own i
  | .agg l => .agg (subTL id u l)
  | .tup l => .tup (subTL id u l)
  | .clo f l => .clo f (subTL id u l)
  | x => x
def subTL (id : Nat) (u : T) : List T → List T
  | [] => []
  | x :: r => subT1 id u x :: subTL id u r
end
def subTm (id : Nat) (u : T) : List (Nat × T) → List (Nat × T)
  | [] => []
  | (k, x) :: r => (k, subT1 id u x) :: subTm id u r
def subHp (id : Nat) (u : T) : List (Nat × Blk) → List (Nat × Blk)
  | [] => []
  | (k, .box l) :: r => bif Nat.beq k id then subHp id u r else (k, .box (subTL id u l)) :: subHp id u r
  | (k, x) :: r => bif Nat.beq k id then subHp id u r else (k, x) :: subHp id u r
section
variable {w : World} {S S' : Nat → Prop} {E : Nat → Value} {id : Nat} {u : T}
mutual
theorem subT1_ok (hS : ∀ b, S b → S' b) (hu : RV w S' E (E id) u) : ∀ {t : T} {v : Value}, RV w S E v t → RV w S' E v (subT1 id u t)
  | .t x, v, h => by simp only [subT1]; exact h.mono hS (fun _ _ => rfl) (fun _ _ => rfl)
  | .el c, v, h => by simp only [subT1]; exact h.mono hS (fun _ _ => rfl) (fun _ _ => rfl)
  | .ptr i o, v, h => by simp only [subT1]; exact h.mono hS (fun _ _ => rfl) (fun _ _ => rfl)
  | .pe i a b c, v, h => by simp only [subT1]; exact h.mono hS (fun _ _ => rfl) (fun _ _ => rfl)
  | .vw i a b c, v, h => by simp only [subT1]; exact h.mono hS (fun _ _ => rfl) (fun _ _ => rfl)
  | .own i, v, h => by
    simp only [subT1]
    by_cases hi : i = id
    · subst hi
      simp only [Nat.beq_refl, cond_true]
      cases h with | own _ _ hE => rw [← hE]; exact hu
    · simp only [beq_ne hi, cond_false]; exact h.mono hS (fun _ _ => rfl) (fun _ _ => rfl)
  | .agg l, v, h => by
    simp only [subT1]
    cases h with | agg vs _ hl hr => have := subTL_ok hS hu (l := l) (vs := vs) ⟨hl, hr⟩; exact .agg vs _ this.1 this.2
  | .tup l, v, h => by
    simp only [subT1]
    cases h with | tup vs _ hl hr => have := subTL_ok hS hu (l := l) (vs := vs) ⟨hl, hr⟩; exact .tup vs _ this.1 this.2
  | .clo f l, v, h => by
    simp only [subT1]
    cases h with | clo _ vs _ hl hr => have := subTL_ok hS hu (l := l) (vs := vs) ⟨hl, hr⟩; exact .clo f vs _ this.1 this.2
  | .fz n c, v, h => by simp only [subT1]; exact h.mono hS (fun _ _ => rfl) (fun _ _ => rfl)
  | .any, v, h => by simp only [subT1]; exact .any v
theorem subTL_ok (hS : ∀ b, S b → S' b) (hu : RV w S' E (E id) u) : ∀ {l : List T} {vs : List Value}, RVL w S E vs l → RVL w S' E vs (subTL id u l)
  | [], vs, h => ⟨h.1, fun j _ h2 => by simp [subTL] at h2⟩
  | x :: l, vs, h => by
    cases vs with
    | nil => have := h.1; simp at this
    | cons v vs =>
      have h1 := subT1_ok hS hu (t := x) (h.2 0 (by simp) (by simp))
      have h2 := subTL_ok hS hu (l := l) (vs := vs) ⟨by simpa using h.1, fun j a b => h.2 (j + 1) (by simpa using a) (by simpa using b)⟩
      refine ⟨by simp [subTL, h2.1], fun j a b => ?_⟩
      cases j with
      | zero => exact h1
      | succ j => exact h2.2 j (by simpa using a) (by simpa [subTL] using b)
end
end
theorem subTm_look (id : Nat) (u : T) : ∀ (l : List (Nat × T)) (k : Nat), look (subTm id u l) k = (look l k).map (subT1 id u)
  | [], k => rfl
  | (j, x) :: r, k => by
    simp only [subTm, look]
    by_cases hj : j = k
    · subst hj; simp
    · simp [beq_ne hj, subTm_look id u r k]
theorem subHp_look (id : Nat) (u : T) : ∀ (l : List (Nat × Blk)) (k : Nat) (b : Blk), look (subHp id u l) k = some b → k ≠ id ∧ ∃ b0, look l k = some b0 ∧ (match b0 with | .box ts => b = .box (subTL id u ts) | x => b = x)
  | [], k, b, h => by simp [subHp, look] at h
  | (j, .box ts) :: r, k, b, h => by
    simp only [subHp] at h
    by_cases hj : j = id
    · subst hj
      simp only [Nat.beq_refl, cond_true] at h
      obtain ⟨h1, b0, h2, h3⟩ := subHp_look j u r k b h
      exact ⟨h1, b0, by simp only [look, beq_ne (Ne.symm h1), cond_false]; exact h2, h3⟩
    · simp only [beq_ne hj, cond_false, look] at h
      by_cases hk : j = k
      · subst hk
        simp only [Nat.beq_refl, cond_true, Option.some.injEq] at h
        exact ⟨hj, .box ts, by simp [look], h.symm⟩
      · simp only [beq_ne hk, cond_false] at h
        obtain ⟨h1, b0, h2, h3⟩ := subHp_look id u r k b h
        exact ⟨h1, b0, by simp only [look, beq_ne hk, cond_false]; exact h2, h3⟩
  | (j, .rows e sz n rs) :: r, k, b, h => by
    simp only [subHp] at h
    by_cases hj : j = id
    · subst hj
      simp only [Nat.beq_refl, cond_true] at h
      obtain ⟨h1, b0, h2, h3⟩ := subHp_look j u r k b h
      exact ⟨h1, b0, by simp only [look, beq_ne (Ne.symm h1), cond_false]; exact h2, h3⟩
    · simp only [beq_ne hj, cond_false, look] at h
      by_cases hk : j = k
      · subst hk
        simp only [Nat.beq_refl, cond_true, Option.some.injEq] at h
        exact ⟨hj, .rows e sz n rs, by simp [look], h.symm⟩
      · simp only [beq_ne hk, cond_false] at h
        obtain ⟨h1, b0, h2, h3⟩ := subHp_look id u r k b h
        exact ⟨h1, b0, by simp only [look, beq_ne hk, cond_false]; exact h2, h3⟩
  | (j, .mp es) :: r, k, b, h => by
    simp only [subHp] at h
    by_cases hj : j = id
    · subst hj
      simp only [Nat.beq_refl, cond_true] at h
      obtain ⟨h1, b0, h2, h3⟩ := subHp_look j u r k b h
      exact ⟨h1, b0, by simp only [look, beq_ne (Ne.symm h1), cond_false]; exact h2, h3⟩
    · simp only [beq_ne hj, cond_false, look] at h
      by_cases hk : j = k
      · subst hk
        simp only [Nat.beq_refl, cond_true, Option.some.injEq] at h
        exact ⟨hj, .mp es, by simp [look], h.symm⟩
      · simp only [beq_ne hk, cond_false] at h
        obtain ⟨h1, b0, h2, h3⟩ := subHp_look id u r k b h
        exact ⟨h1, b0, by simp only [look, beq_ne hk, cond_false]; exact h2, h3⟩
  | (j, .rv y e sz n rs) :: r, k, b, h => by
    simp only [subHp] at h
    by_cases hj : j = id
    · subst hj
      simp only [Nat.beq_refl, cond_true] at h
      obtain ⟨h1, b0, h2, h3⟩ := subHp_look j u r k b h
      exact ⟨h1, b0, by simp only [look, beq_ne (Ne.symm h1), cond_false]; exact h2, h3⟩
    · simp only [beq_ne hj, cond_false, look] at h
      by_cases hk : j = k
      · subst hk
        simp only [Nat.beq_refl, cond_true, Option.some.injEq] at h
        exact ⟨hj, .rv y e sz n rs, by simp [look], h.symm⟩
      · simp only [beq_ne hk, cond_false] at h
        obtain ⟨h1, b0, h2, h3⟩ := subHp_look id u r k b h
        exact ⟨h1, b0, by simp only [look, beq_ne hk, cond_false]; exact h2, h3⟩
section
variable {ρ τ α : Type} {X : Cx} {ks : List K} {tm : List (Nat × T)} {hp : List (Nat × Blk)} {m : Option ρ} {Q : ρ → Exit → St → Prop} {all : Array Oper} {o : Oper} {rest : List Oper}
/-- A slice of the call's own, as one that stays. -/
theorem Sim.frz {w0 : World} {L : Lim} {nt : Nat} {a : Act} {w : World} (id : Nat) {e sz n : Nat} {rs : List (List Tree)} (hb : look hp id = some (.rows e sz n rs)) (h : Sim w0 L nt ⟨tm, hp⟩ a w) :
    Sim w0 L nt ⟨subTm id (.t (.sl n rs)) tm, subHp id (.t (.sl n rs)) hp⟩ a w := by
  obtain ⟨S, E, hk⟩ := h
  let S' : Nat → Prop := fun b => S b ∨ blkOf (E id) = some b
  have hS : ∀ b, S b → S' b := fun b hb => .inl hb
  have hu : RV w S' E (E id) (.t (.sl n rs)) := by
    have hk1 : Ok w0 L nt ⟨tm, [(id, .rows e sz n rs)]⟩ S E a w :=
      { hk with
        hp := fun i b hb' => by
          simp only [look] at hb'
          by_cases hi : id = i
          · subst hi; simp only [Nat.beq_refl, cond_true, Option.some.injEq] at hb'; subst hb'; exact hk.hp id _ hb
          · simp [beq_ne hi] at hb'
        own := fun i b β hb' hβ => by
          simp only [look] at hb'
          by_cases hi : id = i
          · subst hi; simp only [Nat.beq_refl, cond_true, Option.some.injEq] at hb'; subst hb'; exact hk.own id _ β hb hβ
          · simp [beq_ne hi] at hb'
        dist := fun i i' b b' β h1 h2 _ _ => by
          simp only [look] at h1 h2
          by_cases hi : id = i <;> by_cases hi' : id = i'
          · exact hi.symm.trans hi'
          · simp [beq_ne hi'] at h2
          · simp [beq_ne hi] at h1
          · simp [beq_ne hi] at h1 }
    refine .t (rows_tree hk1 (id := id) (e := e) (sz := sz) (by simp [look]) S' hS fun b hb' => ?_)
    obtain ⟨i, _, hl, hβ⟩ := hb'
    simp only [look] at hl
    by_cases hi : id = i
    · subst hi; exact .inr hβ
    · simp [beq_ne hi] at hl
  refine ⟨S', E, { keep := hk.keep, size := hk.size, defers := hk.defers, stab := fun b hb' => ?_, base := fun b hb' => ?_, tm := fun k t ht => ?_, hp := fun i b hi => ?_, own := fun i b β hi hβ => ?_, dist := fun i i' b b' β h1 h2 hβ hβ' => ?_, pin := hk.pin }⟩
  · rcases hb' with h1 | h1
    · exact hk.stab b h1
    · exact (hk.own id _ b hb h1).2.1
  · rcases hb' with h1 | h1
    · exact hk.base b h1
    · rcases (hk.own id _ b hb h1).2.2 with h2 | h2
      · exact .inr (.inr h2)
      · exact .inr (.inl h2)
  · rw [subTm_look] at ht
    cases hl : look tm k with
    | none => simp [hl] at ht
    | some t0 => simp only [hl, Option.map_some, Option.some.injEq] at ht; subst ht; exact subT1_ok hS hu (hk.tm k t0 hl)
  · obtain ⟨hne, b0, hb0, hm⟩ := subHp_look _ _ _ _ _ hi
    have hk0 := hk.hp i b0 hb0
    cases b0 with
    | box ts =>
      simp only at hm
      subst hm
      obtain ⟨β, vs, elem, h1, h2, h3, h4, h5⟩ := hk0
      have := subTL_ok hS hu (l := ts) (vs := vs) ⟨h3, h4⟩
      exact ⟨β, vs, elem, h1, h2, this.1, this.2, h5⟩
    | rows e' sz' n' rs' =>
      simp only at hm
      subst hm
      exact hk0.mono hS (fun _ _ => rfl) (fun _ _ => rfl) (fun _ _ => rfl)
    | mp es =>
      simp only at hm
      subst hm
      exact hk0.mono hS (fun _ _ => rfl) (fun _ _ => rfl) (fun _ _ => rfl)
    | rv y e sz n rs =>
      simp only at hm
      subst hm
      exact hk0.mono hS (fun _ _ => rfl) (fun _ _ => rfl) (fun _ _ => rfl)
  · obtain ⟨hne, b0, hb0, _⟩ := subHp_look _ _ _ _ _ hi
    have := hk.own i b0 β hb0 hβ
    exact ⟨fun hx => hx.elim this.1 (fun hx => hne (hk.dist i id b0 _ β hb0 hb hβ hx)), this.2⟩
  · obtain ⟨_, c, hc, _⟩ := subHp_look _ _ _ _ _ h1
    obtain ⟨_, c', hc', _⟩ := subHp_look _ _ _ _ _ h2
    exact hk.dist i i' c c' β hc hc' hβ hβ'
theorem TieO.frz {ops : List Oper} (id : Nat) {e sz n : Nat} {rs : List (List Tree)} (hb : look hp id = some (.rows e sz n rs)) (h : TieO X all ops ks ⟨subTm id (.t (.sl n rs)) tm, subHp id (.t (.sl n rs)) hp⟩ m Q) : TieO X all ops ks ⟨tm, hp⟩ m Q :=
  fun r hr a w hw => h r hr a w (hw.frz id hb)
theorem TieX.frz {e' : Exit} (id : Nat) {e sz n : Nat} {rs : List (List Tree)} (hb : look hp id = some (.rows e sz n rs)) (h : TieX X ks e' ⟨subTm id (.t (.sl n rs)) tm, subHp id (.t (.sl n rs)) hp⟩ m Q) : TieX X ks e' ⟨tm, hp⟩ m Q :=
  fun r hr a w hw => h r hr a w (hw.frz id hb)
end
end Go.Pv

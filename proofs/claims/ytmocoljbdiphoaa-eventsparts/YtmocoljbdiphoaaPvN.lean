/- The value machine, part N: a region that draws its order: operations that only read (and calls that only make memory) in any order; behind them, in their order, those that wait for all. -/
import Derived.Test.YtmocoljbdiphoaaPvM
import Derived.Orders
namespace Go.Pv
open Go.RowKit

def more (tm tm' : List (Nat × T)) : Prop := ∀ k t, look tm k = some t → look tm' k = some t

theorem val_more {tm tm' : List (Nat × T)} (h : more tm tm') {x : Operand} {t : T} (hx : val tm x = some t) : val tm' x = some t := by
  cases x with
  | tmp k => exact h k t hx
  | const v => exact hx
  | func f => exact hx
  | global g => exact hx

theorem vals_more {tm tm' : List (Nat × T)} (h : more tm tm') : ∀ {l : List Operand} {r : List T}, vals tm l = some r → vals tm' l = some r
  | [], r, hx => hx
  | o :: l, r, hx => by
    unfold vals at hx ⊢
    split at hx <;> try (cases hx; done)
    rename_i y m hy hm
    rw [val_more h hy, vals_more h hm]
    exact hx

theorem foldT_more {f : Int → Int → Int} {tm tm' : List (Nat × T)} (h : more tm tm') : ∀ {l : List Operand} {X : Option T} {r : T}, foldT f tm X l = some r → foldT f tm' X l = some r
  | [], X, r, hx => by cases X <;> exact hx
  | o :: l, X, r, hx => by
    unfold foldT at hx ⊢
    split at hx
    · rename_i heq; cases heq
    · rename_i k i o' l' heq
      cases heq
      split at hx
      · rename_i k' j hv
        simp only [val_more h hv]
        exact foldT_more h hx
      · cases hx
    · cases hx

theorem foldT_none {f : Int → Int → Int} {tm : List (Nat × T)} {l : List Operand} {r : T} (h : foldT f tm none l = some r) : False := by
  cases l <;> simp [foldT] at h

theorem fillT_more {hp : List (Nat × Blk)} {tm tm' : List (Nat × T)} (h : more tm tm') {place : Nat → Option (Nat × Nat)} : ∀ {l : List (Nat × Operand)} {cs r : List T}, fillT hp tm place cs l = some r → fillT hp tm' place cs l = some r
  | [], cs, r, hx => hx
  | (i, x) :: l, cs, r, hx => by
    unfold fillT at hx ⊢
    cases hv : val tm x with
    | none => simp [hv] at hx
    | some t =>
      rw [val_more h hv]
      rw [hv] at hx
      split at hx <;> try (cases hx; done)
      rename_i o n m h1 h2
      cases hb : (Nat.beq m.length n && Nat.ble (o + m.length) cs.length) <;> simp only [hb, cond_true, cond_false] at hx ⊢
      · cases hx
      · exact fillT_more h hx

theorem pickT_more {c : Bool} {X Y X' Y' : Option T} {t : T} (hX : ∀ t, X = some t → X' = some t) (hY : ∀ t, Y = some t → Y' = some t) (h : pickT c X Y = some t) : pickT c X' Y' = some t := by
  unfold pickT at h
  split at h
  · rw [hX _ rfl, hY _ rfl]; exact h
  · cases c
    · rw [hY t h]
      unfold pickT
      split
      · rename_i heq
        simp only [Option.some.injEq] at heq
        subst heq
        rfl
      · rfl
    · rw [hX t h]
      unfold pickT
      split
      · rename_i heq
        simp only [Option.some.injEq] at heq
        subst heq
        rfl
      · rfl

def isPure : Op → Bool
  | .move _ | .assign _ | .pick .. | .load .. | .fieldAddr .. | .nilCheck _ | .binOp .. | .unOp .. | .convert .. | .extract .. | .build .. | .call _ | .indexAddr .. | .index .. => true
  | _ => false

theorem evalOp_more {tab : Tab} {tm tm' : List (Nat × T)} {hp : List (Nat × Blk)} {o : Oper} {t : T} (h : more tm tm') (hi : isPure o.op = true) (he : evalOp tab ⟨tm, hp⟩ o = some (t, ⟨tm, hp⟩)) :
    evalOp tab ⟨tm', hp⟩ o = some (t, ⟨tm', hp⟩) := by
  rw [evalOp_eq] at he ⊢
  obtain ⟨dst, op, type, pos, aft, guard⟩ := o
  have mp : ∀ {x : Option T}, x = some t → x.map (·, (⟨tm', hp⟩ : St)) = some (t, ⟨tm', hp⟩) := fun hx => by rw [hx]; rfl
  cases op <;> simp only [isPure, reduceCtorEq] at hi <;> simp only [evalOp0] at he ⊢
  case move x => exact mp (val_more h (map_inv he).1)
  case assign x => exact mp (val_more h (map_inv he).1)
  case pick c x y =>
    split at he <;> try (cases he; done)
    rename_i b hc
    rw [val_more h hc]
    exact mp (pickT_more (fun t ht => val_more h ht) (fun t ht => val_more h ht) (map_inv he).1)
  case load ty x =>
    split at he <;> try (cases he; done)
    · rename_i id off ti hx hti
      rw [val_more h hx, hti]
      split at he <;> try (cases he; done)
      rename_i ts hb
      simp only [hb]
      exact mp (map_inv he).1
    · rename_i cells ti hx hti
      rw [val_more h hx, hti]
      exact mp (map_inv he).1
  case nilCheck x =>
    split at he <;> try (cases he; done)
    · rename_i id off hx; rw [val_more h hx]; simp only [Option.some.injEq, Prod.mk.injEq] at he; rw [← he.1]
    · rename_i cells hx; rw [val_more h hx]; simp only [Option.some.injEq, Prod.mk.injEq] at he; rw [← he.1]
  case fieldAddr s x f =>
    split at he <;> try (cases he; done)
    all_goals
      rename_i hx hti
      rw [val_more h hx, hti]
      split at he <;> try (cases he; done)
      rename_i hf
      simp only [hf]
      simp only [Option.some.injEq, Prod.mk.injEq] at he
      rw [← he.1]
  case binOp op ty x y yt =>
    have hb := (map_inv he).1
    refine mp ?_
    unfold binT at hb ⊢
    split at hb <;> try (cases hb; done)
    · rename_i hx hy; rw [val_more h hx, val_more h hy]; exact hb
    · rename_i hx hy; rw [val_more h hx, val_more h hy]; exact hb
  case unOp op ty x =>
    have hb := (map_inv he).1
    refine mp ?_
    unfold unT at hb ⊢
    split at hb <;> try (cases hb; done)
    · rename_i hx; rw [val_more h hx]; exact hb
    · rename_i hx; rw [val_more h hx]; exact hb
  case convert s d x =>
    split at he <;> try (cases he; done)
    rename_i ti hs
    have hb := (map_inv he).1
    refine mp ?_
    unfold convT at hb ⊢
    split at hb <;> try (cases hb; done)
    rename_i hx; rw [val_more h hx]; exact hb
  case extract x k =>
    split at he <;> try (cases he; done)
    rename_i l hx
    rw [val_more h hx]
    exact mp (map_inv he).1
  case build ty parts =>
    split at he <;> try (cases he; done)
    · rename_i sz fs z hti
      cases hf : fillT hp tm (fs[·]?) (z.map fun x => .t (.v x)) parts.toList with
      | none => simp [hf] at he
      | some l =>
        rw [fillT_more h hf]
        simp only [hf, Option.map_some, Option.some.injEq, Prod.mk.injEq] at he
        simp only [Option.map_some, he.1]
    · rename_i sz n e z hti
      split at he <;> try (cases he; done)
      rename_i te hte
      try simp only [hte]
      cases hf : fillT hp tm (fun i => some (i * te.size, te.size)) (z.map fun x => .t (.v x)) parts.toList with
      | none => simp [hf] at he
      | some l =>
        rw [fillT_more h hf]
        simp only [hf, Option.map_some, Option.some.injEq, Prod.mk.injEq] at he
        simp only [Option.map_some, he.1]
  case indexAddr ty x ix =>
    split at he <;> try (cases he; done)
    all_goals
      rename_i hx hti hix
      split at he <;> try (cases he; done)
      rename_i te hte
    · rename_i id off sz n e z ik i _
      rw [val_more h hx, hti, val_more h hix]
      try simp only [hte]
      cases hb : Nat.blt i n <;> simp only [hb, cond_true, cond_false, reduceCtorEq, Option.some.injEq, Prod.mk.injEq] at he ⊢
      exact ⟨he.1, trivial⟩
    · rename_i cells sz n e z ik i _
      rw [val_more h hx, hti, val_more h hix]
      try simp only [hte]
      cases hb : Nat.blt i n <;> simp only [hb, cond_true, cond_false, reduceCtorEq, Option.some.injEq, Prod.mk.injEq] at he ⊢
      exact ⟨he.1, trivial⟩
    · rename_i id k sz' off sz n e z ik i _
      rw [val_more h hx, hti, val_more h hix]
      try simp only [hte]
      cases hb : Nat.blt i n <;> simp only [hb, cond_true, cond_false, reduceCtorEq, Option.some.injEq, Prod.mk.injEq] at he ⊢
      exact ⟨he.1, trivial⟩
  case index ty x ix =>
    split at he <;> try (cases he; done)
    rename_i l sz n e z ik i hx hti hix
    split at he <;> try (cases he; done)
    rename_i te hte
    rw [val_more h hx, hti, val_more h hix]
    try simp only [hte]
    cases hb : Nat.blt i n <;> simp only [hb, cond_true, cond_false, reduceCtorEq] at he ⊢
    exact mp (map_inv he).1
  case call c =>
    have hb := (map_inv he).1
    refine mp ?_
    unfold callT at hb ⊢
    split at hb <;> try (cases hb; done)
    · rename_i x ty h1 h2 h3
      cases hv : val tm x with
      | none => rw [show val (⟨tm, hp⟩ : St).tm x = none from hv] at hb; unfold lenT at hb; split at hb <;> simp at hb
      | some y =>
        rw [show val (⟨tm, hp⟩ : St).tm x = some y from hv] at hb
        show lenT tab hp ty (val tm' x) = some t
        rw [val_more h hv]; exact hb
    · rename_i x rest h1 h2
      cases hv : val tm x with
      | none => rw [show val (⟨tm, hp⟩ : St).tm x = none from hv] at hb; exact (foldT_none hb).elim
      | some y =>
        rw [show val (⟨tm, hp⟩ : St).tm x = some y from hv] at hb
        show foldT minI tm' (val tm' x) rest = some t
        rw [val_more h hv]; exact foldT_more h hb
    · rename_i x rest h1 h2
      cases hv : val tm x with
      | none => rw [show val (⟨tm, hp⟩ : St).tm x = none from hv] at hb; exact (foldT_none hb).elim
      | some y =>
        rw [show val (⟨tm, hp⟩ : St).tm x = some y from hv] at hb
        show foldT maxI tm' (val tm' x) rest = some t
        rw [val_more h hv]; exact foldT_more h hb

/-- One operation of a region that draws: wherever its slots stand as in tmMin, it gives V and turns nothing. -/
def StepQ (X : Cx) (all : Array Oper) (o : Oper) (tmMin : List (Nat × T)) (hp : List (Nat × Blk)) (V : T) : Prop :=
  ∀ tm, more tmMin tm → ∀ a w S E, Ok X.w0 X.L X.nt ⟨tm, hp⟩ S E a w → ∀ (K : Act → World → Prop) (Q' : Exit → Act → World → Prop),
    (∀ v w' S' E', Ok X.w0 X.L X.nt ⟨tm, hp⟩ S' E' a w' → RV w' S' E' v V → K (a.put o.dst v) w') →
    if Region.wanted o (yielded all a.tmps) then o.wp X.P a w K Q' else K (a.put o.dst undef) w

section
variable {ρ τ α : Type} {X : Cx} {ks : List K} {tmMin : List (Nat × T)} {hp : List (Nat × Blk)} {all : Array Oper} {o : Oper} {V : T}

theorem guardT_more {tm tm' : List (Nat × T)} {l : List Oper} {g : Option (Nat × Bool)} {b : Bool} (h : more tm tm') (hg : guardT l tm g = some b) : guardT l tm' g = some b := by
  cases g with
  | none => exact hg
  | some p =>
    obtain ⟨j, want⟩ := p
    simp only [guardT] at hg ⊢
    split at hg <;> try (cases hg; done)
    rename_i o ho
    split at hg <;> try (cases hg; done)
    rename_i d hd
    cases hl : look tm d with
    | none => simp [hl] at hg
    | some t => simp only [hl] at hg; simp only [h d t hl]; exact hg

theorem StepQ.quiet (hg : guardT all.toList tmMin o.guard = some true) (hi : isPure o.op = true) (he : evalOp X.tab ⟨tmMin, hp⟩ o = some (V, ⟨tmMin, hp⟩)) : StepQ X all o tmMin hp V := by
  intro tm hm a w S E hk K Q' hK
  obtain ⟨v, w', E', hd, hk', hv⟩ := evalOp_ok X.htab hk (evalOp_more hm hi he)
  rw [guardT_ok hk (guardT_more hm hg), if_pos rfl]
  unfold Oper.wp
  rcases hd with hd | ⟨hd, rfl⟩ <;> rw [hd]
  · exact hK _ _ _ _ hk' hv
  · exact hK _ _ _ _ hk' hv

theorem StepQ.cast {V' : T} (h : V = V') (k : StepQ X all o tmMin hp V) : StepQ X all o tmMin hp V' := h ▸ k

theorem StepQ.skip (hg : guardT all.toList tmMin o.guard = some false) : StepQ X all o tmMin hp (.t (.v undef)) := by
  intro tm hm a w S E hk K Q' hK
  rw [guardT_ok hk (guardT_more hm hg), if_neg (by simp)]
  exact hK _ _ _ _ hk (.t (.v _))

theorem StepQ.index {ty e n s0 : Nat} {x ix : Operand} {ik : IntKind} {i : Int} {z0 : List Value} {te : TI} {l : List α} {enc : α → List Tree} {y : α}
    (hy : getI l i = some y) (ho : o.op = .indexAddr ty x ix) (hg : guardT all.toList tmMin o.guard = some true) (hx : val tmMin x = some (.t (.sl n (l.map enc)))) (hi : val tmMin ix = some (.t (.v (.int ik i))))
    (hty : look X.tab ty = some ⟨s0, .slice e, z0⟩) (hte : look X.tab e = some te) (henc : ∀ y, (enc y).length = te.size) : StepQ X all o tmMin hp (.el (enc y)) := by
  intro tm hm a w S E hk K Q' hK
  obtain ⟨v, h1, h2⟩ := index_run hk hy ho (val_more hm hx) (val_more hm hi) hty hte henc
  rw [guardT_ok hk (guardT_more hm hg), if_pos rfl]
  unfold Oper.wp
  rw [h1]
  exact hK _ _ _ _ hk h2

theorem callZ_more {tm tm' : List (Nat × T)} {r : Nat × List T × List (List Tree)} (h : more tm tm') (hc : callZ tm o = some r) : callZ tm' o = some r := by
  unfold callZ at hc ⊢
  split at hc <;> try (cases hc; done)
  rename_i f args tys hop
  split at hc <;> try (cases hc; done)
  rename_i n caps l hf hl
  rw [val_more h hf, vals_more h hl]
  exact hc

theorem StepQ.call {n : Nat} {targs cargs : List T} {caps : List (List Tree)} {m₁ : Option τ} {res : τ → T} {t : τ} (ht : m₁ = some t)
    (hg : guardT all.toList tmMin o.guard = some true) (ho : callZ tmMin o = some (n, targs, caps)) (hf : frzL [] targs = some cargs) (hc : TieF X.P n (cargs ++ caps.map T.el) m₁ res) : StepQ X all o tmMin hp (res t) := by
  intro tm hm a w S E hk K Q' hK
  obtain ⟨vs, ps, hrun, hv, hps⟩ := callZ_ok hk (callZ_more hm ho) hc.1
  have hcall := hc.2 t ht w S E (vs ++ ps) hk.stab ((RV.closed hk hv hf E).append (hps E))
  rw [guardT_ok hk (guardT_more hm hg), if_pos rfl]
  unfold Oper.wp
  rw [hrun, Oper.upon_enter]
  refine hcall.mono fun e w' ⟨v, S', he, hv', hkeep, hs1, hs2⟩ => ?_
  subst he
  refine hK v w' (fun b => S b ∨ S' b) E ((hk.grow hkeep).more hs1 (fun b hb => ?_) (fun id blk β hb hβ hS => ?_)) (hv'.mono (fun _ x => .inr x) (fun _ _ => rfl) (fun _ _ => rfl))
  · rcases hs2 b hb with h1 | h1
    · exact hk.base b h1
    · exact .inr (.inr (Nat.le_trans hk.keep.size h1))
  · have := hk.own id blk β hb hβ
    rcases hs2 β hS with h1 | h1
    · exact this.1 h1
    · exact absurd this.2.1 (Nat.not_lt.2 h1)

theorem StepQ.callV {n : Nat} {targs cargs : List T} {caps : List (List Tree)} {m₁ : Option τ} {res : τ → T} {t : τ} (hc : TieF X.P n (cargs ++ caps.map T.el) m₁ res) (ht : m₁ = some t)
    (hg : guardT all.toList tmMin o.guard = some true) (ho : callZ tmMin o = some (n, targs, caps)) (hf : frzL [] targs = some cargs) (hV : res t = V) : StepQ X all o tmMin hp V :=
  hV ▸ StepQ.call ht hg ho hf hc

theorem StepQ.quo {ty yt : Nat} {x y : Operand} {ik : IntKind} {i j q : Int} (hq : quoM ik i j = some q) (ho : o.op = .binOp .quo ty x y yt) (hg : guardT all.toList tmMin o.guard = some true)
    (hx : val tmMin x = some (.t (.v (.int ik i)))) (hy : val tmMin y = some (.t (.v (.int ik j)))) : StepQ X all o tmMin hp (.t (.v (.int ik q))) := by
  intro tm hm a w S E hk K Q' hK
  rw [guardT_ok hk (guardT_more hm hg), if_pos rfl]
  unfold Oper.wp
  have hrun : (execOp a.eval o).run X.P w = .ok (.value (.int ik q)) w := by
    unfold quoM at hq
    split at hq
    · cases hq
    · rename_i hj
      cases hq
      simp only [execOp, ho, Sem.run_bind, (hk.val (val_more hm hx)).tv, (hk.val (val_more hm hy)).tv, eqGuard_run .quo ty x y (.int ik i) (.int ik j) (by simp) (by simp), Result.andThen_ok]
      simp [binOp, Op.intDiv, hj]
  rw [hrun]
  exact hK _ _ _ _ hk (.t (.v _))
end
end Go.Pv

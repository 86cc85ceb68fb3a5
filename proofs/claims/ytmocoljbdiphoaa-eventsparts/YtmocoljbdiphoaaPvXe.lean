/- The value machine, part Xe: names and nil slices in the midst of operations; what is known ahead; regions that draw their order and change rows on the way. -/
import Derived.Test.YtmocoljbdiphoaaPvXd
import Derived.Orders
namespace Go.Pv
open Go.RowKit Go.WideShapes Go.ChangeShapes

section
variable {ρ τ : Type} {X : Cx} {ks : List K} {tm tm' : List (Nat × T)} {hp hp' : List (Nat × Blk)} {m : Option ρ} {Q : ρ → Exit → St → Prop} {all : Array Oper} {ops : List Oper}

/-- What holds of every state that says no more holds here: the rules between statements, in the midst of operations. -/
theorem TieO.via {σ σ' : St} (h : ∀ {ρ : Type} {m : Option ρ} {Q : ρ → Exit → St → Prop} {e : Exit}, TieX X [] e σ' m Q → TieX X [] e σ m Q) (k : TieO X all ops ks σ' m Q) : TieO X all ops ks σ m Q := fun r hr a w hw => by
  have := h (ρ := Unit) (m := some ()) (e := .normal) (Q := fun _ _ σ'' => σ'' = σ') (fun r _ a w hw => ⟨σ', hw, rfl⟩) () rfl a w hw
  obtain ⟨σ'', hs, rfl⟩ := this
  exact k r hr a w hs

theorem TieO.nilP (k id e sz : Nat) (path : List Nat) {t u : T} (hk : look tm k = some t) (hu : setNil id path t = some u) (hbig : Nat.blt id big = true) (hft : freshT id tm = true) (hfb : freshB id hp = true)
    (h : TieO X all ops ks ⟨(k, u) :: tm, (id, .rows e sz 0 []) :: hp⟩ m Q) : TieO X all ops ks ⟨tm, hp⟩ m Q := TieO.via (fun x => TieX.nilP k id e sz path hk hu hbig hft hfb x) h
theorem TieO.nilB (b id e sz : Nat) (path : List Nat) {ts us : List T} (hk : look hp b = some (.box ts)) (hu : setNil id path (.agg ts) = some (.agg us)) (hbig : Nat.blt id big = true) (hft : freshT id tm = true) (hfb : freshB id hp = true)
    (h : TieO X all ops ks ⟨tm, (id, .rows e sz 0 []) :: hput hp b (.box us)⟩ m Q) : TieO X all ops ks ⟨tm, hp⟩ m Q := TieO.via (fun x => TieX.nilB b id e sz path hk hu hbig hft hfb x) h
theorem TieO.ren (h : List (Nat × Nat)) (ho : renOk h = true) (ht : renTm h tm = some tm') (hh : renHp h hp = some hp') (k : TieO X all ops ks ⟨tm', hp'⟩ m Q) : TieO X all ops ks ⟨tm, hp⟩ m Q := TieO.via (fun x => TieX.ren h ho ht hh x) k

theorem TieO.pre {σ : St} {m₁ : Option τ} {k : τ → Option ρ} (h : ∀ y, m₁ = some y → TieO X all ops ks σ (k y) Q) : TieO X all ops ks σ (m₁.bind k) Q := fun r hr a w hw => by
  cases hm : m₁ with
  | none => simp [hm] at hr
  | some y => exact h y hm r (by simpa [hm] using hr) a w hw

open Classical in
/-- What is known to be there need not be asked for. -/
theorem TieO.withH {σ : St} {m₁ : Option τ} {t : τ} (hm : m₁ = some t) (h : TieO X all ops ks σ (m₁.bind fun t' => if t' = t then m else none) Q) : TieO X all ops ks σ m Q := by
  subst hm; simpa using h
open Classical in
theorem TieO.ifH {σ₂ : τ → St} {t : τ} (h : TieO X all ops ks (σ₂ t) m Q) : ∀ t', TieO X all ops ks (σ₂ t') (if t' = t then m else none) Q := fun t' => by
  by_cases e : t' = t
  · subst e; simpa using h
  · simp only [e, if_false]; exact TieO.fail
open Classical in
theorem TieO.ifG {σ₂ : τ → St} {t : τ} {m₁ : Option τ} (h : TieO X all ops ks (σ₂ t) m Q) : ∀ t', m₁ = some t' → TieO X all ops ks (σ₂ t') (if t' = t then m else none) Q := fun t' _ => TieO.ifH h t'
end

theorem run_equalIn_nil {P : Program} (w : World) (d : Nat) (t e : TypeId) (a : Option Addr) (l c : Nat) (h : P.underlying t = some (.slice e)) : (Op.equalIn (d + 1) t (.slice a l c) (.slice none 0 0)).run P w = .ok a.isNone w := by
  cases a <;> simp [Op.equalIn, run_underlying h]
theorem run_equal_nil {P : Program} (w : World) (t e : TypeId) (a : Option Addr) (l c : Nat) (h : P.underlying t = some (.slice e)) : (Op.equal t (.slice a l c) (.slice none 0 0)).run P w = .ok a.isNone w := run_equalIn_nil w _ t e a l c h
theorem run_eql_nil {P : Program} (w : World) (t e : TypeId) (a : Option Addr) (l c : Nat) (h : P.underlying t = some (.slice e)) : (binOp .eql t (.slice a l c) (.slice none 0 0)).run P w = .ok (.bool a.isNone) w := by
  simp [binOp, run_equal_nil w t e a l c h]
theorem run_guard_nil {P : Program} (w : World) (t : TypeId) (x y : Operand) (a : Option Addr) (l c : Nat) : (eqGuard .eql t x y (.slice a l c) (.slice none 0 0)).run P w = .ok () w := rfl

section
variable {ρ τ : Type} {X : Cx} {ks : List K} {σ : St} {tm : List (Nat × T)} {hp : List (Nat × Blk)} {m m' : Option ρ} {Q : ρ → Exit → St → Prop} {all : Array Oper} {rest : List Oper} {o : Oper}

theorem TieX.model {e : Exit} (h : m = m') (k : TieX X ks e σ m' Q) : TieX X ks e σ m Q := h ▸ k

theorem TieS.condB {c : Operand} {x y : Code} {b : Bool} (hc : val σ.tm c = some (.t (.v (.bool b)))) (h₁ : b = true → TieS X (.c x :: ks) σ m Q) (h₂ : b = false → TieS X (.c y :: ks) σ m Q) :
    TieS X (.c (.cond c x y) :: ks) σ m Q := fun r hr a w ⟨S, E, hk⟩ => by
  have hv := (hk.val hc).tv
  cases hb : b <;> rw [hb] at hv
  · exact wp_cond_false hv (h₂ hb r hr a w ⟨S, E, hk⟩)
  · exact wp_cond_true hv (h₁ hb r hr a w ⟨S, E, hk⟩)

/-- x == nil, of a slice that stays: only what is nil has no rows. -/
theorem TieO.isNil {t e yt d n s0 : Nat} {z0 : List Value} {x : Operand} {α : Type} {enc : α → List Tree} {l : List α} (ho : o.op = .binOp .eql t x (.const (.slice none 0 0)) yt) (hd : o.dst = some d) (hdn : Nat.blt d X.nt = true) (hg : guardT all.toList tm o.guard = some true)
    (hty : look X.tab t = some ⟨s0, .slice e, z0⟩) (hx : val tm x = some (.t (.sl n (l.map enc))))
    (h : ∀ b : Bool, (b = true → l = []) → TieO X all rest ks ⟨(d, .t (.v (.bool b))) :: tm, hp⟩ m Q) : TieO X all (o :: rest) ks ⟨tm, hp⟩ m Q := fun r hr a w ⟨S, E, hk⟩ => by
  obtain ⟨dd, hu, ho2⟩ : ∃ d, X.P.underlying t = some d ∧ TD.ok X.P (.slice e) d := by
    obtain ⟨i, d, _, _, hu, hdd, _⟩ := X.htab t _ hty
    exact ⟨d, hu, hdd⟩
  simp only [TD.ok] at ho2
  subst ho2
  have hv := hk.val hx
  have hs : ∃ ad c k, a.eval x = .slice ad k c ∧ (ad = none → l = []) := by
    generalize a.eval x = v at hv
    cases hv with
    | t hv =>
      generalize hq : l.map enc = q at hv
      cases hv with
      | slE a c => exact ⟨_, _, _, rfl, fun _ => by simpa using hq⟩
      | sl => exact ⟨_, _, _, rfl, fun h => by cases h⟩
  obtain ⟨ad, c, k, hx', hl⟩ := hs
  refine wpList_step fun K hK => ?_
  rw [guardT_ok hk hg, if_pos rfl]
  unfold Oper.wp
  have hexec : (execOp a.eval o).run X.P w = .ok (.value (.bool ad.isNone)) w := by
    have h1 : a.eval (.const (.slice none 0 0)) = .slice none 0 0 := rfl
    unfold execOp
    simp only [ho, hx', h1, Sem.run_bind, run_guard_nil, run_eql_nil w t e ad k c hu, Result.andThen_ok, Sem.run_pure]
  rw [hexec]
  refine hK _ _ (h ad.isNone (fun hb => hl (by simpa using hb)) r hr _ _ ⟨S, E, ?_⟩)
  rw [hd]
  exact hk.put (Nat.le_of_ble_eq_true hdn) (.t (.v _))
end

section
variable {τ α : Type} {X : Cx} {tmMin : List (Nat × T)} {hp : List (Nat × Blk)} {all : Array Oper} {o : Oper}

theorem StepQ.indexO {ty e sz el n s0 : Nat} {x ix : Operand} {ik : IntKind} {i : Int} {z0 : List Value} {te : TI} {id : Nat} {l : List α} {enc : α → List Tree} {y : α} (hy : getI l i = some y)
    (ho : o.op = .indexAddr ty x ix) (hg : guardT all.toList tmMin o.guard = some true) (hx : val tmMin x = some (.own id)) (hb : look hp id = some (.rows el sz n (l.map enc))) (hi : val tmMin ix = some (.t (.v (.int ik i))))
    (hty : look X.tab ty = some ⟨s0, .slice e, z0⟩) (hte : look X.tab e = some te) (hsz : te.size = sz) : StepQ X all o tmMin hp (.pe id i.toNat sz 0) := by
  intro tm hm a w S E hk K Q' hK
  obtain ⟨h0, hl, hlt⟩ := getI_some hy
  have hiv := (hk.val (val_more hm hi)).tv
  obtain ⟨dd, hdd, ho2⟩ := (X.htab ty _ hty).run_under w
  simp only [TD.ok] at ho2
  subst ho2
  have hs := (X.htab e _ hte).run_size w
  have hll : i.toNat < l.length := by omega
  have hxv := hk.val (val_more hm hx)
  generalize hxe : a.eval x = xv at hxv
  cases hxv with
  | own _ _ hE =>
    obtain ⟨hn, ⟨hE', hr⟩ | ⟨β, cap, vs, _, hE', hh, _⟩⟩ := hk.hp id _ hb
    · simp at hr; subst hr; simp at hll
    · subst hsz
      have hpe := RV.pe (w := w) (S := S) (E := E) id i.toNat te.size 0 β (l.map enc).length cap hE'
      rw [hE'] at hE
      subst hE
      have hrun : (execOp a.eval o).run X.P w = .ok (.value (.pointer (some ⟨β, i.toNat * te.size + 0, none⟩))) w := by
        simp only [execOp, ho, Instr.indexAt, hiv, asIntOf, Sem.run_bind, Sem.run_pure, Result.andThen_ok, hdd, hxe]
        have c1 : 0 ≤ i ∧ i < ((l.map enc).length : Int) := ⟨h0, by simpa using hlt⟩
        simp only [Sem.run_bind, Result.andThen_ok, Sem.run_pure, c1, and_self, if_true, hs, addr_add, Nat.zero_add, Nat.add_zero]
      rw [guardT_ok hk (guardT_more hm hg), if_pos rfl]
      unfold Oper.wp
      rw [hrun]
      exact hK _ _ _ _ hk hpe

theorem StepQ.loadY {t id sz off e n : Nat} {i : Int} {ti : TI} {p : Operand} {l : List α} {enc : α → List Tree} {y : α} {r : T} (hy : getI l i = some y)
    (ho : o.op = .load t p) (hg : guardT all.toList tmMin o.guard = some true) (hp1 : val tmMin p = some (.pe id i.toNat sz off)) (hb : look hp id = some (.rows e sz n (l.map enc)))
    (hti : look X.tab t = some ti) (hr : takeT ti.desc.isAgg ti.size ((enc y).map .t) off = some r) : StepQ X all o tmMin hp r := by
  intro tm hm a w S E hk K Q' hK
  obtain ⟨v, h1, h2⟩ := load_own (P := X.P) hk (X.htab t _ hti) hb (hk.val (val_more hm hp1)) (by rw [List.getElem?_map, (getI_some hy).2.1]; rfl) hr
  rw [guardT_ok hk (guardT_more hm hg), if_pos rfl]
  unfold Oper.wp
  have hexec : (execOp a.eval o).run X.P w = .ok (.value v) w := by
    unfold execOp
    simp only [ho, Sem.run_bind, h1, Result.andThen_ok, Sem.run_pure]
  rw [hexec]
  exact hK _ _ _ _ hk h2

theorem StepQ.callSV {n : Nat} {targs cargs : List T} {caps : List (List Tree)} {m₁ : Option τ} {res : τ → T} {t : τ} {V : T} (hc : TieF X.P n (cargs ++ caps.map T.el) m₁ res) (ht : m₁ = some t)
    (hg : guardT all.toList tmMin o.guard = some true) (ho : callZ tmMin o = some (n, targs, caps)) (hf : frzL hp targs = some cargs) (hsc : scalar (res t) = true) (hV : res t = V) : StepQ X all o tmMin hp V := by
  subst hV
  intro tm hm a w S E hk K Q' hK
  obtain ⟨vs, ps, hrun, hv, hps⟩ := callZ_ok hk (callZ_more hm ho) hc.1
  have hcall := hc.2 t ht w (fun b => S b ∨ ownRows hp E b) E (vs ++ ps) (fun b hb => hb.elim (hk.stab b) (fun ⟨id, _, sz, n, rs, hl, hβ⟩ => (hk.own id _ b hl hβ).2.1))
    ((frzL_ok hk (fun _ x => .inl x) (fun _ x => .inr x) hv hf E).append ((hps E).mono' (fun _ x => .inl x) (fun _ _ => rfl)))
  rw [guardT_ok hk (guardT_more hm hg), if_pos rfl]
  unfold Oper.wp
  rw [hrun, Oper.upon_enter]
  refine hcall.mono fun e w' ⟨v, S', he, hv', hkeep, _, _⟩ => ?_
  subst he
  exact hK v w' S E (hk.grow hkeep) (hv'.scalar hsc)
end

/-- As elem_of, the place being named. -/
theorem elem_at {P : Program} {H : Type} {e : TypeId × Value → H} {w : World} {m n el : Nat} {cs : List Value} {xs : List (DataW H × List MemPlace)} (hlen : xs.length = n)
    (hf : ∀ (i : Nat), i < n → DataW.trod e P w 0 (fun _ => true) true m el ((cs.drop (i * P.cellsOf el)).take (P.cellsOf el)) = xs[i]?) (i o : Nat) (hi : i < n) (ho : i * P.cellsOf el = o)
    {α : Type} {enc : α → List Tree} {wf : α → Prop} (hr : Reads P el enc wf) : ∃ y : α, wf y ∧ RTL w (old w) ((cs.drop o).take (P.cellsOf el)) (enc y) := ho ▸ elem_of hlen hf i hi hr

/-- From here on, whatever order the rest of the region draws, it comes to σ' with what le lists. l: what has come up. -/
def TieA (X : Cx) (ops : Array Oper) (fe : Nat) (le : List Bool) (fuel : Nat) (l : List Bool) (σ σ' : St) : Prop :=
  ∀ (Q : Exit → Act → World → Prop), (∀ c a w, ¬ Q (.panic c) a w) → (∀ a w, Sim X.w0 X.L X.nt σ' a w → wpAny X.P .any ops Q fe le.toArray a w) → ∀ a w, Sim X.w0 X.L X.nt σ a w → wpAny X.P .any ops Q fuel l.toArray a w

/-- Each of these operations may come next. -/
def AllA (X : Cx) (ops : Array Oper) (fe : Nat) (le : List Bool) (fuel : Nat) (l : List Bool) (σ σ' : St) (rs : List Nat) : Prop :=
  ∀ i ∈ rs, ∀ (Q : Exit → Act → World → Prop), (∀ c a w, ¬ Q (.panic c) a w) → (∀ a w, Sim X.w0 X.L X.nt σ' a w → wpAny X.P .any ops Q fe le.toArray a w) → ∀ a w, Sim X.w0 X.L X.nt σ a w → wpOp X.P ops Q i (wpAny X.P .any ops Q fuel (l.toArray.setIfInBounds i true)) a w

section
variable {ρ : Type} {X : Cx} {ks : List K} {ops : Array Oper} {fe fuel : Nat} {le l l' : List Bool} {σ σ₁ σ' : St} {m : Option ρ} {Q : ρ → Exit → St → Prop} {o : Oper}

theorem TieA.have_ {fuel₁ : Nat} {l₁ : List Bool} (h : TieA X ops fe le fuel₁ l₁ σ₁ σ') (k : TieA X ops fe le fuel₁ l₁ σ₁ σ' → TieA X ops fe le fuel l σ σ') : TieA X ops fe le fuel l σ σ' := k h

theorem TieA.done (hs : Sub σ' σ) : TieA X ops fe le fe le σ σ' := fun _ _ hQ a w hw => hQ a w (hw.sub hs)

theorem TieA.all (rs : List Nat) (hr : Region.ready .any ops l.toArray = rs) (hne : rs.isEmpty = false) (h : AllA X ops fe le fuel l σ σ' rs) : TieA X ops fe le (fuel + 1) l σ σ' := fun Q hp hQ a w hw =>
  wpAny_all hr (by rintro rfl; cases hne) fun i hi => h i hi Q hp hQ a w hw

theorem AllA.nil : AllA X ops fe le fuel l σ σ' [] := fun _ h => by cases h

theorem AllA.cons {i : Nat} {rs : List Nat} (l' : List Bool) (ho : ops[i]? = some o) (hl : l.set i true = l') (h₁ : TieO X ops [o] [] σ (some ()) (fun _ e σ'' => e = .normal ∧ Sub σ₁ σ'')) (h₂ : TieA X ops fe le fuel l' σ₁ σ') (h₃ : AllA X ops fe le fuel l σ σ' rs) : AllA X ops fe le fuel l σ σ' (i :: rs) := fun j hj Q hp hQ a w hw => by
  rcases List.mem_cons.1 hj with rfl | hj
  · have h := h₁ () rfl a w hw
    unfold wpOp
    simp only [ho]
    have next : ∀ a w, wpList X.P ops (after X.P [] (X.post fun e σ'' => e = .normal ∧ Sub σ₁ σ'')) [] a w → wpAny X.P .any ops Q fuel (l.toArray.setIfInBounds j true) a w := fun a w ⟨σ'', hs, _, e⟩ => by
      rw [List.setIfInBounds_toArray, hl]
      exact h₂ Q hp hQ a w (hs.sub e)
    unfold wpList at h
    split at h
    · rename_i hg
      rw [if_pos hg]
      rcases h with h | ⟨h1, h2⟩
      · refine .inl ?_
        revert h
        unfold Oper.wp
        generalize (execOp a.eval o).run X.P w = r
        intro h
        cases r with
        | ok n w' =>
          cases n <;> simp only [Oper.upon] at h ⊢
          all_goals first
            | exact next _ _ h
            | exact Calls.mono h (fun e w'' he => by cases e <;> first | exact next _ _ he | (obtain ⟨_, _, _, _, he, _⟩ := he; cases he) | (obtain ⟨_, _, he, _⟩ := he; cases he))
            | exact Rows.mono h (fun _ _ he => next _ _ he)
            | (obtain ⟨_, _, he, _⟩ := h; cases he)
            | exact h
        | halt x w' => cases x <;> simp only [Oper.upon] at h ⊢ <;> first | exact h | (obtain ⟨_, _, he, _⟩ := h; cases he)
      · obtain ⟨_, _, _, _, he, _⟩ := h2; cases he
    · rename_i hg
      rw [if_neg hg]
      exact next _ _ h
  · exact h₃ j hj Q hp hQ a w hw

theorem TieA.move {d : Nat} {x : Operand} {t : T} {tm : List (Nat × T)} {hp : List (Nat × Blk)} (i : Nat) (l' : List Bool) (ho : ops[i]? = some o) (hl : l.set i true = l') (hop : o.op = .move x ∨ o.op = .assign x) (hd : o.dst = some d) (hdn : Nat.blt d X.nt = true) (hg : o.guard = none)
    (hs : Region.noSelect ops = true) (hf : Region.free .any ops l.toArray i = true) (hr : (Region.ready .any ops l.toArray).contains i = true) (hx : val tm x = some t) (h : TieA X ops fe le fuel l' ⟨(d, t) :: tm, hp⟩ σ') :
    TieA X ops fe le (fuel + 1) l ⟨tm, hp⟩ σ' := fun Q hpn hQ a w ⟨S, E, hk⟩ => by
  have hv := hk.val hx
  refine wpAny_take ho hs hf hr (fun c a w hc => absurd hc (hpn _ _ _)) (v := a.eval x) (.inl ⟨?_, fun w' => ?_⟩) ?_
  · unfold Region.wanted; rw [hg]
  · rcases hop with hop | hop <;> (unfold execOp; rw [hop]; rfl)
  · rw [List.setIfInBounds_toArray, hl]
    exact h Q hpn hQ _ _ ⟨S, E, by rw [hd]; exact hk.put (Nat.le_of_ble_eq_true hdn) hv⟩

theorem TieA.take1 {d : Nat} {V : T} {tm : List (Nat × T)} {hp : List (Nat × Blk)} (i : Nat) (l' : List Bool) (ho : ops[i]? = some o) (hl : l.set i true = l') (hd : o.dst = some d) (hdn : Nat.blt d X.nt = true) (hg : o.guard = none)
    (hs : Region.noSelect ops = true) (hf : Region.free .any ops l.toArray i = true) (hr : (Region.ready .any ops l.toArray).contains i = true)
    (hx : ∀ S E a w, Ok X.w0 X.L X.nt ⟨tm, hp⟩ S E a w → ∃ v, (∀ w', (execOp a.eval o).run X.P w' = .ok (.value v) w') ∧ RV w S E v V) (h : TieA X ops fe le fuel l' ⟨(d, V) :: tm, hp⟩ σ') :
    TieA X ops fe le (fuel + 1) l ⟨tm, hp⟩ σ' := fun Q hpn hQ a w ⟨S, E, hk⟩ => by
  obtain ⟨v, hv, hr'⟩ := hx S E a w hk
  refine wpAny_take ho hs hf hr (fun c a w hc => absurd hc (hpn _ _ _)) (v := v) (.inl ⟨?_, hv⟩) ?_
  · unfold Region.wanted; rw [hg]
  · rw [List.setIfInBounds_toArray, hl]
    exact h Q hpn hQ _ _ ⟨S, E, by rw [hd]; exact hk.put (Nat.le_of_ble_eq_true hdn) hr'⟩

theorem TieA.fieldP {d s f sz p n id off : Nat} {fs : List (Nat × Nat)} {z : List Value} {x : Operand} {tm : List (Nat × T)} {hp : List (Nat × Blk)} (i : Nat) (l' : List Bool) (ho : ops[i]? = some o) (hl : l.set i true = l') (hop : o.op = .fieldAddr s x f) (hd : o.dst = some d) (hdn : Nat.blt d X.nt = true) (hg : o.guard = none)
    (hs : Region.noSelect ops = true) (hf : Region.free .any ops l.toArray i = true) (hr : (Region.ready .any ops l.toArray).contains i = true) (hx : val tm x = some (.ptr id off)) (hti : look X.tab s = some ⟨sz, .struct fs, z⟩) (hfs : fs[f]? = some (p, .succ n)) (h : TieA X ops fe le fuel l' ⟨(d, .ptr id (off + p)) :: tm, hp⟩ σ') :
    TieA X ops fe le (fuel + 1) l ⟨tm, hp⟩ σ' := TieA.take1 i l' ho hl hd hdn hg hs hf hr (fun S E a w hk => by
  obtain ⟨β, hpv, hE⟩ := (hk.val hx).ptr_inv
  exact ⟨_, fun w' => by simp [execOp, hop, hpv, fieldAddr_ok (X.htab s _ hti) hfs β off rfl], .ptr id _ β hE⟩) h

theorem TieA.fieldE {d s f sz p n : Nat} {cells : List Tree} {fs : List (Nat × Nat)} {z : List Value} {x : Operand} {tm : List (Nat × T)} {hp : List (Nat × Blk)} (i : Nat) (l' : List Bool) (ho : ops[i]? = some o) (hl : l.set i true = l') (hop : o.op = .fieldAddr s x f) (hd : o.dst = some d) (hdn : Nat.blt d X.nt = true) (hg : o.guard = none)
    (hs : Region.noSelect ops = true) (hf : Region.free .any ops l.toArray i = true) (hr : (Region.ready .any ops l.toArray).contains i = true) (hx : val tm x = some (.el cells)) (hti : look X.tab s = some ⟨sz, .struct fs, z⟩) (hfs : fs[f]? = some (p, .succ n)) (h : TieA X ops fe le fuel l' ⟨(d, .el (cells.drop p)) :: tm, hp⟩ σ') :
    TieA X ops fe le (fuel + 1) l ⟨tm, hp⟩ σ' := TieA.take1 i l' ho hl hd hdn hg hs hf hr (fun S E a w hk => by
  have hv := hk.val hx
  obtain ⟨b, o', hpv⟩ := hv.el_inv
  rw [hpv] at hv
  exact ⟨_, fun w' => by simp [execOp, hop, hpv, fieldAddr_ok (X.htab s _ hti) hfs b o' rfl], hv.el_drop p⟩) h

theorem TieA.fieldI {d s f sz p n id k sz' off : Nat} {fs : List (Nat × Nat)} {z : List Value} {x : Operand} {tm : List (Nat × T)} {hp : List (Nat × Blk)} (i : Nat) (l' : List Bool) (ho : ops[i]? = some o) (hl : l.set i true = l') (hop : o.op = .fieldAddr s x f) (hd : o.dst = some d) (hdn : Nat.blt d X.nt = true) (hg : o.guard = none)
    (hs : Region.noSelect ops = true) (hf : Region.free .any ops l.toArray i = true) (hr : (Region.ready .any ops l.toArray).contains i = true) (hx : val tm x = some (.pe id k sz' off)) (hti : look X.tab s = some ⟨sz, .struct fs, z⟩) (hfs : fs[f]? = some (p, .succ n)) (h : TieA X ops fe le fuel l' ⟨(d, .pe id k sz' (off + p)) :: tm, hp⟩ σ') :
    TieA X ops fe le (fuel + 1) l ⟨tm, hp⟩ σ' := TieA.take1 i l' ho hl hd hdn hg hs hf hr (fun S E a w hk => by
  have hv := hk.val hx
  generalize hpv : a.eval x = pv at hv
  cases hv with
  | pe _ _ _ _ β n' cap hE =>
    exact ⟨.pointer (some ⟨β, k * sz' + off + p, none⟩), fun w' => by simp [execOp, hop, hpv, fieldAddr_ok (X.htab s _ hti) hfs β _ rfl], by rw [Nat.add_assoc]; exact .pe id k sz' (off + p) β n' cap hE⟩) h

/-- A region that draws its order: its first operations come in any order, the rest (from h on) as they stand. -/
theorem TieS.draws {id : Nat} (h : Nat) (l lh : List Bool) (σ₁ : St) (hmx : X.P.follows .mixedOrders = true) (hQ : ∀ r c σ, ¬ Q r (.panic c) σ) (hl : (Array.replicate ops.size false).toList = l) (hle : Nat.ble h ops.size = true)
    (hlh : (List.range ops.size).map (fun j => Nat.blt j h) = lh) (ht : tailOk ops.toList h = true) (h₁ : TieA X ops (ops.size - h) lh ops.size l σ σ₁) (h₂ : TieO X ops (ops.toList.drop h) [] σ₁ m Q) : TieS X [.c (.region id ops true)] σ m Q := fun r hr a w ⟨S, E, hk⟩ => by
  have hle := Nat.le_of_ble_eq_true hle
  have hkeep : Keep (fun _ => False) w { w with drawn := w.drawn + 1 } := ⟨rfl, rfl, rfl, Nat.le_refl _, fun _ _ _ => rfl, Nat.le_succ _⟩
  have h3 := h₁ (X.post (Q r)) (fun c a w ⟨σ, _, hq⟩ => hQ r c σ hq) (fun a w hw => by
    refine any_tail ht (ops.size - h) h lh.toArray a w (Nat.le_refl _) (by omega) (by rw [← hlh]; simp) (fun j hj => ?_) (h₂ r hr a w hw)
    rw [← hlh, Array.getD_eq_getD_getElem?]
    simp only [List.getElem?_toArray, List.getElem?_map]
    rw [List.getElem?_range hj]
    simp only [Option.map_some, Option.getD_some]
    rw [Bool.eq_iff_iff, decide_eq_true_iff]
    exact ⟨fun c => Nat.le_of_ble_eq_true c, fun c => Nat.ble_eq_true_of_le c⟩) a _ ⟨S, E, hk.grow hkeep⟩
  rw [← hl, Array.toArray_toList] at h3
  exact wp_region_any (id := id) hmx h3
end
def ltM {α : Type} (g : α → α → Option Int) (x y : α) : Bool := decide ((g x y).getD 0 < 0)

/-- What is asked of a comparison on the elements of l: it answers; less is a strict weak order; it parts whatever two are not one. -/
structure SortOk {α : Type} (g : α → α → Option Int) (l : List α) : Prop where
  len : l.length < 4611686018427387904
  ans : ∀ x ∈ l, ∀ y ∈ l, ∃ c, g x y = some c
  irrefl : ∀ x ∈ l, ltM g x x = false
  trans : ∀ x ∈ l, ∀ y ∈ l, ∀ z ∈ l, ltM g x y = true → ltM g y z = true → ltM g x z = true
  ntrans : ∀ x ∈ l, ∀ y ∈ l, ∀ z ∈ l, ltM g x y = false → ltM g y z = false → ltM g x z = false
  tot : ∀ x ∈ l, ∀ y ∈ l, ltM g x y = false → ltM g y x = false → x = y

open Classical in
/-- slices.SortFunc(l, g): what l holds then. -/
noncomputable def sortM {α : Type} (g : α → α → Option Int) (l : List α) : Option (List α) := if SortOk g l then some (l.mergeSort fun x y => !ltM g y x) else none

theorem sortM_ok {α : Type} {g : α → α → Option Int} {l : List α} (h : SortOk g l) : sortM g l = some (l.mergeSort fun x y => !ltM g y x) := by
  unfold sortM; rw [if_pos h]
end Go.Pv

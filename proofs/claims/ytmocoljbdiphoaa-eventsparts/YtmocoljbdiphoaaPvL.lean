/- The value machine, part L: indexes, elements of the call's own slices, divisions, appends, tests within regions. -/
import Derived.Test.YtmocoljbdiphoaaPvK
namespace Go.Pv
open Go.RowKit

def getI {α : Type} (l : List α) (i : Int) : Option α := if 0 ≤ i then l[i.toNat]? else none

theorem getI_some {α : Type} {l : List α} {i : Int} {y : α} (h : getI l i = some y) : 0 ≤ i ∧ l[i.toNat]? = some y ∧ i < l.length := by
  unfold getI at h
  split at h
  · rename_i h0
    have := (List.getElem?_eq_some_iff.1 h).1
    exact ⟨h0, h, by omega⟩
  · cases h

def quoM (k : IntKind) (x y : Int) : Option Int := if y = 0 then none else some (k.wrap (x.tdiv y))
def remM (x y : Int) : Option Int := if y = 0 then none else some (x.tmod y)
def appendM {α : Type} (l m : List α) : Option (List α) := if l.length + m.length ≤ 1073741824 then some (l ++ m) else none

section
variable {ρ τ α : Type} {X : Cx} {ks : List K} {tm : List (Nat × T)} {hp : List (Nat × Blk)} {m : Option ρ} {Q : ρ → Exit → St → Prop} {all : Array Oper} {o : Oper} {rest : List Oper}

/-- One operation that gives a value without turning the world. -/
theorem TieO.one {d : Nat} {k : τ → Option ρ} {m₁ : Option τ} (hd : o.dst = some d) (hdn : Nat.blt d X.nt = true) (hg : guardT all.toList tm o.guard = some true) (res : τ → T)
    (hrun : ∀ y S E a w, m₁ = some y → Ok X.w0 X.L X.nt ⟨tm, hp⟩ S E a w → ∃ v, (execOp a.eval o).run X.P w = .ok (.value v) w ∧ RV w S E v (res y))
    (h : ∀ y, m₁ = some y → TieO X all rest ks ⟨(d, res y) :: tm, hp⟩ (k y) Q) : TieO X all (o :: rest) ks ⟨tm, hp⟩ (m₁.bind k) Q := fun r hr a w ⟨S, E, hk⟩ => by
  cases hm : m₁ with
  | none => simp [hm] at hr
  | some y =>
    simp only [hm, Option.bind_some] at hr
    obtain ⟨v, h1, h2⟩ := hrun y S E a w hm hk
    refine wpList_step fun K hK => ?_
    rw [guardT_ok hk hg, if_pos rfl]
    unfold Oper.wp
    rw [h1]
    refine hK _ _ (h y hm r hr _ _ ⟨S, E, ?_⟩)
    rw [hd]
    exact hk.put (Nat.le_of_ble_eq_true hdn) h2

theorem index_run {ty e n s0 : Nat} {x ix : Operand} {ik : IntKind} {i : Int} {z0 : List Value} {te : TI} {l : List α} {enc : α → List Tree} {y : α} {S : Nat → Prop} {E : Nat → Value} {a : Act} {w : World}
    (hk : Ok X.w0 X.L X.nt ⟨tm, hp⟩ S E a w) (hm : getI l i = some y)
    (ho : o.op = .indexAddr ty x ix) (hx : val tm x = some (.t (.sl n (l.map enc)))) (hi : val tm ix = some (.t (.v (.int ik i))))
    (hty : look X.tab ty = some ⟨s0, .slice e, z0⟩) (hte : look X.tab e = some te) (henc : ∀ y, (enc y).length = te.size) :
    ∃ v, (execOp a.eval o).run X.P w = .ok (.value v) w ∧ RV w S E v (.el (enc y)) := by
  obtain ⟨h0, hl, hlt⟩ := getI_some hm
  have hxv := hk.val hx
  have hiv := (hk.val hi).tv
  obtain ⟨dd, hdd, ho2⟩ := (X.htab ty _ hty).run_under w
  simp only [TD.ok] at ho2
  subst ho2
  have hs := (X.htab e _ hte).run_size w
  have hll : i.toNat < l.length := by omega
  generalize hxe : a.eval x = xv at hxv
  cases hxv with
  | t hxt =>
    generalize hrows : l.map enc = rows at hxt
    cases hxt with
    | slE a' c => simp at hrows; subst hrows; simp at hll
    | sl b off cap sz rows' vs _ hS hsz hc hr =>
      subst hrows
      have hlen : (l.map enc).length = l.length := by simp
      have hyl : l[i.toNat] = y := by rw [List.getElem?_eq_getElem hll] at hl; exact Option.some.inj hl
      have hsz' : sz = te.size := by
        rw [← henc y]
        exact (hsz (enc y) (List.mem_map.2 ⟨y, hyl ▸ List.getElem_mem hll, rfl⟩)).symm
      subst hsz'
      refine ⟨.pointer (some ⟨b, off + i.toNat * te.size, none⟩), ?_, .el b _ (enc y) (fun j => vs i.toNat j) hS (fun j hj => ?_) (fun j hj => ?_)⟩
      · simp only [execOp, ho, Instr.indexAt, hiv, asIntOf, Sem.run_bind, Sem.run_pure, Result.andThen_ok, hdd, hxe]
        have c1 : 0 ≤ i ∧ i < ((l.map enc).length : Int) := ⟨h0, by rw [hlen]; exact hlt⟩
        simp only [Sem.run_bind, Result.andThen_ok, Sem.run_pure, c1, and_self, if_true, hs, addr_add]
      · rw [henc] at hj
        exact hc i.toNat j (by rw [hlen]; exact hll) hj
      · have := hr i.toNat j (by rw [hlen]; exact hll) (by simp only [List.getElem_map]; rw [hyl]; exact hj)
        simpa only [List.getElem_map, hyl] using this

theorem TieO.index {ty e n s0 : Nat} {x ix : Operand} {ik : IntKind} {i : Int} {z0 : List Value} {te : TI} {d : Nat} {l : List α} {enc : α → List Tree} {k : α → Option ρ}
    (ho : o.op = .indexAddr ty x ix) (hd : o.dst = some d) (hdn : Nat.blt d X.nt = true) (hg : guardT all.toList tm o.guard = some true) (hx : val tm x = some (.t (.sl n (l.map enc)))) (hi : val tm ix = some (.t (.v (.int ik i))))
    (hty : look X.tab ty = some ⟨s0, .slice e, z0⟩) (hte : look X.tab e = some te) (henc : ∀ y, (enc y).length = te.size)
    (h : ∀ y, getI l i = some y → TieO X all rest ks ⟨(d, .el (enc y)) :: tm, hp⟩ (k y) Q) : TieO X all (o :: rest) ks ⟨tm, hp⟩ ((getI l i).bind k) Q :=
  TieO.one hd hdn hg (fun y => .el (enc y)) (fun _ _ _ _ _ hm hk => index_run hk hm ho hx hi hty hte henc) h

/-- An index whose element is known. -/
theorem TieO.indexH {ty e n s0 : Nat} {x ix : Operand} {ik : IntKind} {i : Int} {z0 : List Value} {te : TI} {d : Nat} {l : List α} {enc : α → List Tree} {y : α} (hy : getI l i = some y)
    (ho : o.op = .indexAddr ty x ix) (hd : o.dst = some d) (hdn : Nat.blt d X.nt = true) (hg : guardT all.toList tm o.guard = some true) (hx : val tm x = some (.t (.sl n (l.map enc)))) (hi : val tm ix = some (.t (.v (.int ik i))))
    (hty : look X.tab ty = some ⟨s0, .slice e, z0⟩) (hte : look X.tab e = some te) (henc : ∀ y, (enc y).length = te.size)
    (h : TieO X all rest ks ⟨(d, .el (enc y)) :: tm, hp⟩ m Q) : TieO X all (o :: rest) ks ⟨tm, hp⟩ m Q := by
  have := TieO.index (k := fun _ => m) (rest := rest) (ks := ks) (Q := Q) ho hd hdn hg hx hi hty hte henc (fun y' hy' => by rw [hy] at hy'; cases hy'; exact h)
  rwa [hy] at this

theorem TieO.indexO {ty e sz el n s0 : Nat} {x ix : Operand} {ik : IntKind} {i : Int} {z0 : List Value} {te : TI} {d id : Nat} {l : List α} {enc : α → List Tree} {k : α → Option ρ}
    (ho : o.op = .indexAddr ty x ix) (hd : o.dst = some d) (hdn : Nat.blt d X.nt = true) (hg : guardT all.toList tm o.guard = some true) (hx : val tm x = some (.own id)) (hb : look hp id = some (.rows el sz n (l.map enc))) (hi : val tm ix = some (.t (.v (.int ik i))))
    (hty : look X.tab ty = some ⟨s0, .slice e, z0⟩) (hte : look X.tab e = some te) (hsz : te.size = sz)
    (h : ∀ y, getI l i = some y → TieO X all rest ks ⟨(d, .pe id i.toNat sz 0) :: tm, hp⟩ (k y) Q) : TieO X all (o :: rest) ks ⟨tm, hp⟩ ((getI l i).bind k) Q :=
  TieO.one hd hdn hg (fun _ => .pe id i.toNat sz 0) (fun y S E a w hm hk => by
    obtain ⟨h0, hl, hlt⟩ := getI_some hm
    have hiv := (hk.val hi).tv
    obtain ⟨dd, hdd, ho2⟩ := (X.htab ty _ hty).run_under w
    simp only [TD.ok] at ho2
    subst ho2
    have hs := (X.htab e _ hte).run_size w
    have hll : i.toNat < l.length := by omega
    have hxv := hk.val hx
    generalize hxe : a.eval x = xv at hxv
    cases hxv with
    | own _ _ hE =>
      obtain ⟨hn, ⟨hE', hr⟩ | ⟨β, cap, vs, _, hE', hh, _⟩⟩ := hk.hp id _ hb
      · simp at hr; subst hr; simp at hll
      · subst hsz
        have hpe := RV.pe (w := w) (S := S) (E := E) id i.toNat te.size 0 β (l.map enc).length cap hE'
        refine ⟨_, ?_, hpe⟩
        rw [hE'] at hE
        subst hE
        simp only [execOp, ho, Instr.indexAt, hiv, asIntOf, Sem.run_bind, Sem.run_pure, Result.andThen_ok, hdd, hxe]
        have c1 : 0 ≤ i ∧ i < ((l.map enc).length : Int) := ⟨h0, by simpa using hlt⟩
        simp only [Sem.run_bind, Result.andThen_ok, Sem.run_pure, c1, and_self, if_true, hs, addr_add, Nat.zero_add, Nat.add_zero]) h

theorem TieO.quo {ty yt d : Nat} {x y : Operand} {ik : IntKind} {i j : Int} {k : Int → Option ρ} (ho : o.op = .binOp .quo ty x y yt) (hd : o.dst = some d) (hdn : Nat.blt d X.nt = true) (hg : guardT all.toList tm o.guard = some true)
    (hx : val tm x = some (.t (.v (.int ik i)))) (hy : val tm y = some (.t (.v (.int ik j)))) (h : ∀ q, TieO X all rest ks ⟨(d, .t (.v (.int ik q))) :: tm, hp⟩ (k q) Q) :
    TieO X all (o :: rest) ks ⟨tm, hp⟩ ((quoM ik i j).bind k) Q :=
  TieO.one hd hdn hg (fun q => .t (.v (.int ik q))) (fun q S E a w hm hk => by
    unfold quoM at hm
    split at hm
    · cases hm
    · rename_i hj
      cases hm
      refine ⟨_, ?_, .t (.v _)⟩
      simp only [execOp, ho, Sem.run_bind, (hk.val hx).tv, (hk.val hy).tv, eqGuard_run .quo ty x y (.int ik i) (.int ik j) (by simp) (by simp), Result.andThen_ok]
      simp [binOp, Op.intDiv, hj]) (fun q _ => h q)

theorem TieO.rem {ty yt d : Nat} {x y : Operand} {ik : IntKind} {i j : Int} {k : Int → Option ρ} (ho : o.op = .binOp .rem ty x y yt) (hd : o.dst = some d) (hdn : Nat.blt d X.nt = true) (hg : guardT all.toList tm o.guard = some true)
    (hx : val tm x = some (.t (.v (.int ik i)))) (hy : val tm y = some (.t (.v (.int ik j)))) (h : ∀ q, TieO X all rest ks ⟨(d, .t (.v (.int ik q))) :: tm, hp⟩ (k q) Q) :
    TieO X all (o :: rest) ks ⟨tm, hp⟩ ((remM i j).bind k) Q :=
  TieO.one hd hdn hg (fun q => .t (.v (.int ik q))) (fun q S E a w hm hk => by
    unfold remM at hm
    split at hm
    · cases hm
    · rename_i hj
      cases hm
      refine ⟨_, ?_, .t (.v _)⟩
      simp only [execOp, ho, Sem.run_bind, (hk.val hx).tv, (hk.val hy).tv, eqGuard_run .rem ty x y (.int ik i) (.int ik j) (by simp) (by simp), Result.andThen_ok]
      simp [binOp, Op.intDiv, hj]) (fun q _ => h q)

/-- A test within a region whose two ways give one truth value each. -/
theorem TieO.sel {ops : List Oper} {g v v' b : Bool} (n d : Nat) (σ₁ : Bool → St) (hb : b = bif g then v else v') (hd : look tm d = some (.t (.v (.bool g))))
    (h₁ : TieO X all (ops.take n) [] ⟨(d, .t (.v (.bool true))) :: tm, hp⟩ (some ()) (fun _ e σ' => e = .normal ∧ Sub (σ₁ v) σ'))
    (h₂ : TieO X all (ops.take n) [] ⟨(d, .t (.v (.bool false))) :: tm, hp⟩ (some ()) (fun _ e σ' => e = .normal ∧ Sub (σ₁ v') σ'))
    (h : TieO X all (ops.drop n) ks (σ₁ b) m Q) : TieO X all ops ks ⟨tm, hp⟩ m Q := by
  have hm : m = (some b).bind (fun _ => m) := rfl
  rw [hm]
  refine TieO.bind n σ₁ ?_ (fun t ht => by cases ht; exact h) (m₁ := some b)
  have := TieO.split (X := X) (ks := []) (tm := tm) (hp := hp) (all := all) (ops := ops.take n) (m₁ := some v) (m₂ := some v') (Q := fun t e σ' => e = .normal ∧ Sub (σ₁ t) σ') d hd
    (fun r hr a w hw => by cases hr; exact h₁ () rfl a w hw) (fun r hr a w hw => by cases hr; exact h₂ () rfl a w hw)
  subst hb
  have e : (bif g then some v else some v') = some (bif g then v else v') := by cases g <;> rfl
  rw [e] at this
  exact this

theorem TieO.selAnd {ops : List Oper} {g v : Bool} (n d : Nat) (σ₁ : Bool → St) (hd : look tm d = some (.t (.v (.bool g))))
    (h₁ : TieO X all (ops.take n) [] ⟨(d, .t (.v (.bool true))) :: tm, hp⟩ (some ()) (fun _ e σ' => e = .normal ∧ Sub (σ₁ v) σ'))
    (h₂ : TieO X all (ops.take n) [] ⟨(d, .t (.v (.bool false))) :: tm, hp⟩ (some ()) (fun _ e σ' => e = .normal ∧ Sub (σ₁ false) σ'))
    (h : TieO X all (ops.drop n) ks (σ₁ (g && v)) m Q) : TieO X all ops ks ⟨tm, hp⟩ m Q :=
  TieO.sel n d σ₁ (b := g && v) (by cases g <;> rfl) hd h₁ h₂ h

theorem TieO.selOr {ops : List Oper} {g v : Bool} (n d : Nat) (σ₁ : Bool → St) (hd : look tm d = some (.t (.v (.bool g))))
    (h₁ : TieO X all (ops.take n) [] ⟨(d, .t (.v (.bool true))) :: tm, hp⟩ (some ()) (fun _ e σ' => e = .normal ∧ Sub (σ₁ true) σ'))
    (h₂ : TieO X all (ops.take n) [] ⟨(d, .t (.v (.bool false))) :: tm, hp⟩ (some ()) (fun _ e σ' => e = .normal ∧ Sub (σ₁ v) σ'))
    (h : TieO X all (ops.drop n) ks (σ₁ (g || v)) m Q) : TieO X all ops ks ⟨tm, hp⟩ m Q :=
  TieO.sel n d σ₁ (b := g || v) (by cases g <;> rfl) hd h₁ h₂ h

end
end Go.Pv

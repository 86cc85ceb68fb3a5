/- This file joins: The value machine, part Xc: rows that are made, copied, cut. The value machine, part Xd: elements of the call's own rows, read and written under names. The value machine, part Xe: names and nil slices in the midst of operations; what is known ahead; regions that draw their order and change rows on the way. Part Xi: what library functions compute, plain. Part Xp: maps of the call's own. Types and models, printed by gen.py: plain Lean; nothing of the loaded program stands here. -/
import Derived.Test.YtjgoihfcmpjimaaTopReadinessC
import Derived.Laws.MakeOwn
import Derived.Orders
import Derived.Lib.BitFns
import Derived.MapKept
import Derived.Carry
set_option linter.unusedSimpArgs false
set_option linter.unusedVariables false
namespace Go.Pv
open Go.RowKit
/-- make([]E, n) -/
def makeM {α : Type} (n : Int) (z : α) : Option (List α) := if 0 ≤ n ∧ n ≤ 1073741824 then some (List.replicate n.toNat z) else none
/-- copy(l, r): what l holds then -/
def copyL {α : Type} (l r : List α) : List α := r.take l.length ++ l.drop r.length
/-- a store: l[i] = y, where l has i -/
def setM {α : Type} (l : List α) (i : Int) (y : α) : Option (List α) := if 0 ≤ i ∧ i < l.length then some (l.set i.toNat y) else none
theorem setM_get {α : Type} {l l' : List α} {i : Int} {y : α} (h : setM l i y = some l') : getI l' i = some y := by
  unfold setM at h
  split at h
  · rename_i hi
    simp only [Option.some.injEq] at h
    subst h
    unfold getI
    rw [if_pos hi.1, List.getElem?_set_self (by omega)]
  · cases h
section
variable {P : Program} {w0 : World} {L : Lim} {nt : Nat} {tm : List (Nat × T)} {hp : List (Nat × Blk)} {S : Nat → Prop} {E : Nat → Value} {a : Act} {w : World}
theorem Ok.make (h : Ok w0 L nt ⟨tm, hp⟩ S E a w) {id t e n : Nat} {ti : TI} {c : List Tree} (hbig : Nat.blt id big = true) (hf : freshT id tm = true) (hb : freshB id hp = true) (ht : P.underlying t = some (.slice e)) (hte : TIok P e ti) (hz : ti.zero.length = ti.size) (hpos : 0 < ti.size)
    (hc : c = ti.zero.map fun v => nilTree (.v v)) (hmax : n ≤ 1073741824) (kl kc : IntKind) :
    ∃ v' w' E', (Instr.makeSlice t (.int kl n) (.int kc n)).run P w = .ok v' w' ∧ E' id = v' ∧ Ok w0 L nt ⟨tm, (id, .rows e ti.size n (List.replicate n c)) :: hp⟩ S E' a w' := by
  obtain ⟨i, d, hi, hs, _, _, ⟨z, hzz, hzc⟩, hby⟩ := hte
  have hcl : c.length = ti.size := by rw [hc, List.length_map, hz]
  have hbytes : (i.bytes : Int) * (n : Int) ≤ 281474976710656 := by
    have := Nat.mul_le_mul hby hmax
    have h2 : ((i.bytes * n : Nat) : Int) ≤ ((65536 * 1073741824 : Nat) : Int) := by exact_mod_cast this
    rw [Int.natCast_mul] at h2
    omega
  have hr := run_make (P := P) w t e i z ht hi hzz kl kc n n (by omega) (Int.le_refl _) hbytes (by omega)
  simp only [Int.toNat_natCast] at hr
  have hzs : z.cells.size = ti.size := by rw [← hz, ← hzc]; simp
  have hget : ∀ k (hk : k < n * i.size), (madeCells z.cells (n * i.size))[k]'(by rw [size_madeCells]; exact hk) = ti.zero[k % ti.size]'(by rw [hz]; exact Nat.mod_lt _ hpos) := by
    intro k hk
    have hm : k % z.cells.size < z.cells.size := Nat.mod_lt _ (by omega)
    simp only [madeCells, Array.getElem_map, Array.getElem_range]
    rw [getElem!_pos z.cells _ hm]
    have : z.cells[k % z.cells.size] = z.cells.toList[k % z.cells.size]'(by simpa using hm) := by simp
    rw [this]
    simp only [hzc, hzs]
  obtain ⟨E', hE, _, hok⟩ := h.alloc (o := .cells (madeCells z.cells (n * i.size)) e) (x := .slice (some ⟨w.heap.size, 0, none⟩) n n) (b := .rows e ti.size n (List.replicate n c)) hbig hf hb rfl (fun E' hE' => by
    refine ⟨by simp, .inr ⟨w.heap.size, n, (madeCells z.cells (n * i.size)).toList, by unfold maxLen; omega, by simp, by rw [heap_alloc_new], ?_, by simp, ?_, ?_⟩⟩
    · rw [Array.length_toList, size_madeCells, hs]
    · intro r hr; rw [(List.mem_replicate.1 hr).2]; exact hcl
    · intro i' j hi' hj hb'
      have hi2 : i' < n := by simpa using hi'
      simp only [List.getElem_replicate] at hj ⊢
      have hj2 : j < ti.size := by rw [← hcl]; exact hj
      have hlt : i' * ti.size + j < n * i.size := by rw [Array.length_toList, size_madeCells] at hb'; exact hb'
      have e1 : (madeCells z.cells (n * i.size)).toList[i' * ti.size + j] = ti.zero[j]'(by rw [hz]; exact hj2) := by
        rw [Array.getElem_toList, hget _ hlt]
        have : (i' * ti.size + j) % ti.size = j := by rw [Nat.mul_comm, Nat.mul_add_mod, Nat.mod_eq_of_lt hj2]
        simp only [this]
      rw [e1]
      have e2 : c[j] = nilTree (.v (ti.zero[j]'(by rw [hz]; exact hj2))) := by subst hc; simp
      rw [e2]
      exact nilTree_ok (.v _))
  exact ⟨_, _, E', hr, hE, hok⟩
theorem Ok.copy (h : Ok w0 L nt ⟨tm, hp⟩ S E a w) {id e e' n m t t2 ty : Nat} {ti : TI} {x : Value} {rs r2 : List (List Tree)} (hb : look hp id = some (.rows e ti.size n rs)) (ht : P.underlying t = some (.slice e')) (hte : TIok P e' ti)
    (hx : Src w S x m ti.size r2) (h2 : ∀ r ∈ r2, r.length = ti.size) :
    ∃ w', (Builtin.copy_ #[t, t2] ty #[E id, x]).run P w = .ok (.int .i64 (min m n : Nat)) w' ∧ Ok w0 L nt ⟨tm, hput hp id (.rows e ti.size n (copyL rs r2))⟩ S E a w' := by
  obtain ⟨hm, ad, c, rfl, hsrc⟩ := hx
  obtain ⟨hn, hrow⟩ := h.hp id _ hb
  obtain ⟨i, d, hi, hs, _⟩ := hte
  have hcl : (copyL rs r2).length = rs.length := by simp [copyL]; omega
  rcases hrow with ⟨hE, hr0⟩ | ⟨β, cap, cs, hcm, hE, hh, hcl2, hcc, hsz, hcr⟩
  · subst hr0
    simp only [List.length_nil] at hn
    subst hn
    have hf : (Builtin.firstCells i.size 0 (.slice ad m c)).run P w = .ok #[] w := by cases ad <;> simp [Builtin.firstCells, loadCells, loadCellsFrom]
    have hmin : min m 0 = 0 := by omega
    refine ⟨w, ?_, ?_⟩
    · rw [hE]
      simp [Builtin.copy_, run_underlying ht, Builtin.lenOf, sizeOf, typeInfo, hi, hf, goInt]
    · refine { h with
        hp := fun k b hk => ?_
        own := fun k b β hk hβ => by
          simp only at hk
          rw [look_hput] at hk
          by_cases e : id = k
          · subst e; simp only [hE, blkOf] at hβ; cases hβ
          · simp only [e, if_false] at hk; exact h.own k b β hk hβ
        dist := fun k k' b b' β hk hk' hβ hβ' => by
          simp only at hk hk'
          rw [look_hput] at hk hk'
          by_cases e : id = k
          · subst e; simp only [hE, blkOf] at hβ; cases hβ
          · by_cases e2 : id = k'
            · subst e2; simp only [hE, blkOf] at hβ'; cases hβ'
            · simp only [e, e2, if_false] at hk hk'; exact h.dist k k' b b' β hk hk' hβ hβ' }
      simp only at hk
      rw [look_hput] at hk
      by_cases e : id = k
      · subst e
        simp only [if_true, hb, Option.map_some, Option.some.injEq] at hk
        subst hk
        exact ⟨by simp [copyL], .inl ⟨hE, by simp [copyL]⟩⟩
      · simp only [e, if_false] at hk; exact h.hp k b hk
  · subst hn
    let q := min m rs.length
    have hq : q = min m rs.length := rfl
    -- the cells that are copied
    have hnews : ∃ news : List Value, news.length = q * ti.size ∧ (Builtin.firstCells i.size q (.slice ad m c)).run P w = .ok news.toArray w ∧ (∀ u ∈ news, u.oneCell' = true) ∧
        ∀ i j (hi : i < q) (hj : j < ti.size), ∃ (h1 : i * ti.size + j < news.length) (h2 : i < r2.length) (h3 : j < (r2[i]).length), RT w S (news[i * ti.size + j]) ((r2[i])[j]) := by
      by_cases h0 : 0 < m
      · obtain ⟨y, all, rfl, hal, hac, hone, har⟩ := hsrc h0
        have hqm : q * ti.size ≤ m * ti.size := Nat.mul_le_mul_right _ (by omega)
        refine ⟨all.take (q * ti.size), by rw [List.length_take, hal]; omega, ?_, fun u hu => hone u (List.mem_of_mem_take hu), fun i' j hi' hj => ?_⟩
        · have := run_loadCells_list (P := P) w y (all.take (q * ti.size)) (fun j u hu => by
            rw [List.getElem?_take] at hu
            split at hu
            · exact hac j u hu
            · cases hu)
          rw [List.length_take, hal, Nat.min_eq_left hqm] at this
          simp [Builtin.firstCells, hs, this]
        · have hi2 : i' < r2.length := by omega
          have hrl := h2 _ (List.getElem_mem hi2)
          have hle : (i' + 1) * ti.size ≤ q * ti.size := Nat.mul_le_mul_right _ hi'
          rw [Nat.succ_mul] at hle
          refine ⟨by rw [List.length_take, hal]; omega, hi2, by rw [hrl]; exact hj, ?_⟩
          rw [List.getElem_take]
          exact har i' j hi2 (by rw [hrl]; exact hj) (by rw [hal]; omega)
      · have hm0 : m = 0 := by omega
        have hq0 : q = 0 := by omega
        refine ⟨[], by rw [hq0]; simp, ?_, fun u hu => by simp at hu, fun i' j hi' _ => by omega⟩
        rw [hq0]
        cases ad <;> simp [Builtin.firstCells, loadCells, loadCellsFrom]
    obtain ⟨news, hnl, hload, hone, hnr⟩ := hnews
    have hqr : q * ti.size ≤ cap * ti.size := Nat.mul_le_mul_right _ (by omega)
    have hst := run_storeCells_at (P := P) β 0 e news 0 cs.toArray w hh (by simp; rw [hnl, hcl2]; exact hqr) hone
    have hrun : (Builtin.copy_ #[t, t2] ty #[E id, .slice ad m c]).run P w = .ok (.int .i64 (q : Nat)) (w.setRow β (news ++ cs.drop news.length).toArray) := by
      rw [hE]
      have : Nat.min m rs.length = q := rfl
      have hst' : (storeCells ⟨β, 0, none⟩ news).run P w = .ok () (w.setRow β (news ++ cs.drop news.length).toArray) := by simpa using hst
      simp [Builtin.copy_, run_underlying ht, Builtin.lenOf, sizeOf, typeInfo, hi, this, hload, goInt, hst']
    refine ⟨_, hrun, h.setRow hb (by rw [hE]; rfl) hh fun hS hnew => ⟨by rw [hcl], .inr ⟨β, cap, news ++ cs.drop news.length, hcm, by rw [hcl]; exact hE, hnew, by simp; omega, by rw [hcl]; exact hcc, ?_, ?_⟩⟩⟩
    · intro r hr
      unfold copyL at hr
      rcases List.mem_append.1 hr with hr | hr
      · exact h2 r (List.mem_of_mem_take hr)
      · exact hsz r (List.mem_of_mem_drop hr)
    · intro i' j hi' hj hb'
      have hi2 : i' < rs.length := by rw [← hcl]; exact hi'
      by_cases hiq : i' < q
      · have hi3 : i' < r2.length := by omega
        have e1 : (copyL rs r2)[i'] = r2[i'] := by
          apply Option.some.inj
          rw [← List.getElem?_eq_getElem, ← List.getElem?_eq_getElem]
          unfold copyL
          rw [List.getElem?_append_left (by rw [List.length_take]; omega), List.getElem?_take, if_pos hi2]
        have hj2 : j < ti.size := by have := h2 _ (List.getElem_mem hi3); rw [← this]; rw [e1] at hj; exact hj
        obtain ⟨h5, _, h6, h7⟩ := hnr i' j hiq hj2
        simp only [e1]
        rw [List.getElem_append_left h5]
        exact h7.mono (fun _ x => x) hS
      · have hm' : m ≤ i' := by omega
        have e1 : (copyL rs r2)[i'] = rs[i'] := by
          apply Option.some.inj
          rw [← List.getElem?_eq_getElem, ← List.getElem?_eq_getElem]
          unfold copyL
          rw [List.getElem?_append_right (by rw [List.length_take]; omega), List.length_take, List.getElem?_drop]
          congr 1
          omega
        have hj1 : j < (rs[i']).length := by rw [e1] at hj; exact hj
        have hle : q * ti.size ≤ i' * ti.size := Nat.mul_le_mul_right _ (by omega)
        have hb2 : i' * ti.size + j < cs.length := by simp only [List.length_append, List.length_drop] at hb'; omega
        have e2 : (news ++ cs.drop news.length)[i' * ti.size + j] = cs[i' * ti.size + j] := by
          apply Option.some.inj
          rw [← List.getElem?_eq_getElem, ← List.getElem?_eq_getElem, List.getElem?_append_right (by omega), List.getElem?_drop]
          congr 1
          omega
        simp only [e1]
        rw [e2]
        exact (hcr i' j hi2 hj1 hb2).mono (fun _ x => x) hS
end
section
variable {ρ α : Type} {X : Cx} {ks : List K} {tm tm' : List (Nat × T)} {hp hp' : List (Nat × Blk)} {m : Option ρ} {Q : ρ → Exit → St → Prop} {all : Array Oper} {o : Oper} {rest : List Oper}
theorem TieO.makeO {t e d s0 : Nat} {z0 : List Value} {te : TI} {x : Operand} {ik : IntKind} {n : Int} {enc : α → List Tree} {k : List α → Option ρ} (id : Nat) (z : α)
    (ho : o.op = .makeSlice t x x) (hd : o.dst = some d) (hdn : Nat.blt d X.nt = true) (hg : guardT all.toList tm o.guard = some true) (hx : val tm x = some (.t (.v (.int ik n))))
    (hty : look X.tab t = some ⟨s0, .slice e, z0⟩) (hte : look X.tab e = some te) (hz : te.zero.length = te.size) (hpos : Nat.blt 0 te.size = true) (henc : enc z = te.zero.map fun v => nilTree (.v v)) (hbig : Nat.blt id big = true) (hft : freshT id tm = true) (hfb : freshB id hp = true)
    (h : ∀ y, makeM n z = some y → TieO X all rest ks ⟨(d, .own id) :: tm, (id, .rows e te.size y.length (y.map enc)) :: hp⟩ (k y) Q) :
    TieO X all (o :: rest) ks ⟨tm, hp⟩ ((makeM n z).bind k) Q := fun y hy a w ⟨S, E, hk⟩ => by
  cases hmk : makeM n z with
  | none => simp [hmk] at hy
  | some l =>
    have h0 := hmk
    unfold makeM at h0
    split at h0 <;> try (cases h0; done)
    rename_i hn
    simp only [Option.some.injEq] at h0
    simp only [hmk, Option.bind_some] at hy
    obtain ⟨dd, hu, ho2⟩ : ∃ d, X.P.underlying t = some d ∧ TD.ok X.P (.slice e) d := by
      obtain ⟨i, d, _, _, hu, hdd, _⟩ := X.htab t _ hty
      exact ⟨d, hu, hdd⟩
    simp only [TD.ok] at ho2
    subst ho2
    obtain ⟨j, rfl⟩ : ∃ j : Nat, n = (j : Int) := ⟨n.toNat, by omega⟩
    simp only [Int.toNat_natCast] at h0
    obtain ⟨v', w', E', hr, hE, hok⟩ := hk.make (P := X.P) (n := j) (c := enc z) hbig hft hfb hu (X.htab e _ hte) hz (Nat.le_of_ble_eq_true hpos) henc (by omega) ik ik
    refine wpList_step fun K hK => ?_
    rw [guardT_ok hk hg, if_pos rfl]
    unfold Oper.wp
    have hexec : (execOp a.eval o).run X.P w = .ok (.value v') w' := by
      unfold execOp
      simp only [ho, (hk.val hx).tv, Sem.run_bind, hr, Result.andThen_ok, Sem.run_pure]
    rw [hexec]
    refine hK _ _ (h l hmk y hy _ _ ⟨S, E', ?_⟩)
    rw [hd]
    have e1 : l.map enc = List.replicate j (enc z) := by rw [← h0]; simp
    have e2 : l.length = j := by rw [← h0]; simp
    rw [e1, e2]
    exact hok.put (Nat.le_of_ble_eq_true hdn) (.own id _ hE)
end
end Go.Pv
namespace Go.Pv
open Go.RowKit
section
variable {ρ α : Type} {X : Cx} {ks : List K} {tm : List (Nat × T)} {hp : List (Nat × Blk)} {m : Option ρ} {Q : ρ → Exit → St → Prop} {all : Array Oper} {o : Oper} {rest : List Oper}
theorem TieO.indexOH {ty e sz el n s0 : Nat} {x ix : Operand} {ik : IntKind} {i : Int} {z0 : List Value} {te : TI} {d id : Nat} {l : List α} {enc : α → List Tree} {y : α} (hy : getI l i = some y)
    (ho : o.op = .indexAddr ty x ix) (hd : o.dst = some d) (hdn : Nat.blt d X.nt = true) (hg : guardT all.toList tm o.guard = some true) (hx : val tm x = some (.own id)) (hb : look hp id = some (.rows el sz n (l.map enc))) (hi : val tm ix = some (.t (.v (.int ik i))))
    (hty : look X.tab ty = some ⟨s0, .slice e, z0⟩) (hte : look X.tab e = some te) (hsz : te.size = sz)
    (h : TieO X all rest ks ⟨(d, .pe id i.toNat sz 0) :: tm, hp⟩ m Q) : TieO X all (o :: rest) ks ⟨tm, hp⟩ m Q := by
  have := TieO.indexO (k := fun _ => m) (rest := rest) (ks := ks) (Q := Q) ho hd hdn hg hx hb hi hty hte hsz (fun y' hy' => by rw [hy] at hy'; cases hy'; exact h)
  rwa [hy] at this
theorem TieO.loadY {t d id sz off e n : Nat} {i : Int} {ti : TI} {p : Operand} {l : List α} {enc : α → List Tree} {y : α} {r : T} (hy : getI l i = some y)
    (ho : o.op = .load t p) (hd : o.dst = some d) (hdn : Nat.blt d X.nt = true) (hg : guardT all.toList tm o.guard = some true) (hp1 : val tm p = some (.pe id i.toNat sz off)) (hb : look hp id = some (.rows e sz n (l.map enc)))
    (hti : look X.tab t = some ti) (hr : takeT ti.desc.isAgg ti.size ((enc y).map .t) off = some r) (h : TieO X all rest ks ⟨(d, r) :: tm, hp⟩ m Q) : TieO X all (o :: rest) ks ⟨tm, hp⟩ m Q :=
  TieO.loadO (getI_some hy).2.1 ho hd hdn hg hp1 hb hti hr h
theorem TieO.storeY {t id sz off e n : Nat} {i : Int} {ti : TI} {p x : Operand} {l : List α} {enc : α → List Tree} {y : α} {k : List α → Option ρ} (y' : α) (lt : List Tree) {vx : T} {cs : List T} (hy : getI l i = some y)
    (ho : o.op = .store t p x) (hd : o.dst = none) (hg : guardT all.toList tm o.guard = some true) (hp1 : val tm p = some (.pe id i.toNat sz off)) (hb : look hp id = some (.rows e sz n (l.map enc)))
    (hti : look X.tab t = some ti) (hx : val tm x = some vx) (hc : cellsT hp vx = some cs) (hcs : cs.map nilT = lt.map T.t) (hs : Nat.beq lt.length ti.size = true) (hle : Nat.ble (off + lt.length) sz = true) (henc : enc y' = splc (enc y) off lt)
    (h : ∀ l', setM l i y' = some l' → TieO X all rest ks ⟨tm, hput hp id (.rows e sz l'.length (l'.map enc))⟩ (k l') Q) : TieO X all (o :: rest) ks ⟨tm, hp⟩ ((setM l i y').bind k) Q := fun r hr a w ⟨S, E, hk⟩ => by
  have hset : setM l i y' = some (l.set i.toNat y') := by
    obtain ⟨h0, _, hlt⟩ := getI_some hy
    unfold setM
    rw [if_pos ⟨h0, hlt⟩]
  rw [hset] at hr
  simp only [Option.bind_some] at hr
  have hrow : (l.map enc)[i.toNat]? = some (enc y) := by rw [List.getElem?_map, (getI_some hy).2.1]; rfl
  have hcl : cs.length = lt.length := by have := congrArg List.length hcs; simpa using this
  obtain ⟨vs, hvs, hl, hr2, h1⟩ := hk.cells (hk.val hx) hc
  have hn : n = l.length := by have := (hk.hp id _ hb).1; simpa using this
  -- the value as one whose cells are trees
  have key : ∃ w', (Instr.storeAt t (a.eval p) (a.eval x)).run X.P w = .ok () w' ∧ Ok X.w0 X.L X.nt ⟨tm, hput hp id (.rows e sz n ((l.map enc).set i.toNat (splc (enc y) off lt)))⟩ S E a w' := by
    have hv2 : RV w S E (.agg vs.toArray) (.agg (lt.map T.t)) := by
      refine .agg vs _ (by simp; omega) fun j h2 h3 => ?_
      have h4 := nilT_ok (hr2 j h2 (by omega))
      have h5 : nilT (cs[j]'(by omega)) = (lt.map T.t)[j]'h3 := by
        have h6 : (cs.map nilT)[j]? = (lt.map T.t)[j]? := by rw [hcs]
        rw [List.getElem?_map, List.getElem?_eq_getElem (by omega), List.getElem?_eq_getElem h3] at h6
        simpa using h6
      rw [h5] at h4
      exact h4
    have hone : oneL hp (lt.map T.t) = true := by
      have : ∀ q : List Tree, (∀ j (hj : j < q.length), Pv.one hp (T.t (q[j])) = true) → oneL hp (q.map T.t) = true := by
        intro q
        induction q with
        | nil => intro _; rfl
        | cons z q ih =>
          intro hq
          simp only [List.map_cons, oneL, Bool.and_eq_true]
          exact ⟨hq 0 (by simp), ih fun j hj => hq (j + 1) (by simpa using hj)⟩
      refine this lt fun j hj => ?_
      have hv := hv2
      cases hv with
      | agg _ _ _ hvv =>
        have h2 := hvv j (by omega) (by simpa using hj)
        simp only [List.getElem_map] at h2
        have h3 := h1 _ (List.getElem_mem (show j < vs.length by omega))
        generalize vs[j]'(by omega) = v at h2 h3
        generalize lt[j] = z at h2 ⊢
        cases z with
        | v q => have := h2.tv; subst this; exact h3
        | sl _ _ => rfl
    obtain ⟨w', q1, q2⟩ := store_own (P := X.P) hk (X.htab t _ hti) hb (hk.val hp1) hrow hv2 (by simp [cellsT, hone]) (Nat.eq_of_beq_eq_true hs) (Nat.le_of_ble_eq_true hle)
    refine ⟨w', ?_, q2⟩
    have e1 : (Value.agg vs.toArray).cells = (a.eval x).cells := by rw [hvs]; rfl
    simpa only [Instr.storeAt, storeVar, e1] using q1
  obtain ⟨w', h2, h3⟩ := key
  refine wpList_step fun K hK => ?_
  rw [guardT_ok hk hg, if_pos rfl]
  unfold Oper.wp
  have hexec : (execOp a.eval o).run X.P w = .ok .skip w' := by
    unfold execOp
    simp only [ho, Sem.run_bind, h2, Result.andThen_ok, Sem.run_pure]
  rw [hexec]
  refine hK _ _ (h _ hset r hr _ _ ⟨S, E, ?_⟩)
  rw [hd, List.map_set, henc, List.length_set, ← hn]
  exact h3
end
end Go.Pv
namespace Go.Pv
open Go.RowKit Go.WideShapes Go.ChangeShapes
section
variable {ρ τ : Type} {X : Cx} {ks : List K} {tm tm' : List (Nat × T)} {hp hp' : List (Nat × Blk)} {m : Option ρ} {Q : ρ → Exit → St → Prop} {all : Array Oper} {ops : List Oper}
/-- What holds of every state that says no more holds here: the rules between statements, in the midst of operations. -/
theorem TieO.via {σ σ' : St} (h : ∀ {ρ : Type} {m : Option ρ} {Q : ρ → Exit → St → Prop} {e : Exit}, TieX X [] e σ' m Q → TieX X [] e σ m Q) (k : TieO X all ops ks σ' m Q) : TieO X all ops ks σ m Q := fun r hr a w hw => by
  have := h (ρ := Unit) (m := some ()) (e := .normal) (Q := fun _ _ σ'' => σ'' = σ') (fun r _ a w hw => ⟨σ', hw, rfl⟩) () rfl a w hw
  obtain ⟨σ'', hs, rfl⟩ := this
  exact k r hr a w hs
theorem TieO.nilP (k id e sz : Nat) (path : List Nat) {t u : T} (hk : look tm k = some t) (hu : setNil id path t = some u) (hbig : Nat.blt id big = true) (hft : freshT id tm = true) (hfb : freshB id hp = true)
    (h : TieO X all ops ks ⟨(k, u) :: tm, (id, .rows e sz 0 []) :: hp⟩ m Q) : TieO X all ops ks ⟨tm, hp⟩ m Q := TieO.via (fun x => TieX.nilP k id e sz path hk hu hbig hft hfb x) h
theorem TieO.pre {σ : St} {m₁ : Option τ} {k : τ → Option ρ} (h : ∀ y, m₁ = some y → TieO X all ops ks σ (k y) Q) : TieO X all ops ks σ (m₁.bind k) Q := fun r hr a w hw => by
  cases hm : m₁ with
  | none => simp [hm] at hr
  | some y => exact h y hm r (by simpa [hm] using hr) a w hw
open Classical in
/-- What is known to be there need not be asked for. -/
theorem TieO.withH {σ : St} {m₁ : Option τ} {t : τ} (hm : m₁ = some t) (h : TieO X all ops ks σ (m₁.bind fun t' => if t' = t then m else none) Q) : TieO X all ops ks σ m Q := by
  subst hm; simpa using h
open Classical in
theorem TieO.ifH {σ₂ : τ → St} {t : τ} (h : TieO X all ops ks (σ₂ t) m Q) : ∀ t', TieO X all ops ks (σ₂ t') (if t' = t then m else none) Q := fun t' => by
  by_cases e : t' = t
  · subst e; simpa using h
  · simp only [e, if_false]; exact TieO.fail
open Classical in
theorem TieO.ifG {σ₂ : τ → St} {t : τ} {m₁ : Option τ} (h : TieO X all ops ks (σ₂ t) m Q) : ∀ t', m₁ = some t' → TieO X all ops ks (σ₂ t') (if t' = t then m else none) Q := fun t' _ => TieO.ifH h t'
end
theorem run_equalIn_nil {P : Program} (w : World) (d : Nat) (t e : TypeId) (a : Option Addr) (l c : Nat) (h : P.underlying t = some (.slice e)) : (Op.equalIn (d + 1) t (.slice a l c) (.slice none 0 0)).run P w = .ok a.isNone w := by
  cases a <;> simp [Op.equalIn, run_underlying h]
theorem run_equal_nil {P : Program} (w : World) (t e : TypeId) (a : Option Addr) (l c : Nat) (h : P.underlying t = some (.slice e)) : (Op.equal t (.slice a l c) (.slice none 0 0)).run P w = .ok a.isNone w := run_equalIn_nil w _ t e a l c h
theorem run_eql_nil {P : Program} (w : World) (t e : TypeId) (a : Option Addr) (l c : Nat) (h : P.underlying t = some (.slice e)) : (binOp .eql t (.slice a l c) (.slice none 0 0)).run P w = .ok (.bool a.isNone) w := by
  simp [binOp, run_equal_nil w t e a l c h]
theorem run_guard_nil {P : Program} (w : World) (t : TypeId) (x y : Operand) (a : Option Addr) (l c : Nat) : (eqGuard .eql t x y (.slice a l c) (.slice none 0 0)).run P w = .ok () w := rfl
section
variable {ρ τ : Type} {X : Cx} {ks : List K} {σ : St} {tm : List (Nat × T)} {hp : List (Nat × Blk)} {m m' : Option ρ} {Q : ρ → Exit → St → Prop} {all : Array Oper} {rest : List Oper} {o : Oper}
theorem TieX.model {e : Exit} (h : m = m') (k : TieX X ks e σ m' Q) : TieX X ks e σ m Q := h ▸ k
theorem TieS.condB {c : Operand} {x y : Code} {b : Bool} (hc : val σ.tm c = some (.t (.v (.bool b)))) (h₁ : b = true → TieS X (.c x :: ks) σ m Q) (h₂ : b = false → TieS X (.c y :: ks) σ m Q) :
    TieS X (.c (.cond c x y) :: ks) σ m Q := fun r hr a w ⟨S, E, hk⟩ => by
  have hv := (hk.val hc).tv
  cases hb : b <;> rw [hb] at hv
  · exact wp_cond_false hv (h₂ hb r hr a w ⟨S, E, hk⟩)
  · exact wp_cond_true hv (h₁ hb r hr a w ⟨S, E, hk⟩)
/-- x == nil, of a slice that stays: only what is nil has no rows. -/
theorem TieO.isNil {t e yt d n s0 : Nat} {z0 : List Value} {x : Operand} {α : Type} {enc : α → List Tree} {l : List α} (ho : o.op = .binOp .eql t x (.const (.slice none 0 0)) yt) (hd : o.dst = some d) (hdn : Nat.blt d X.nt = true) (hg : guardT all.toList tm o.guard = some true)
    (hty : look X.tab t = some ⟨s0, .slice e, z0⟩) (hx : val tm x = some (.t (.sl n (l.map enc))))
    (h : ∀ b : Bool, (b = true → l = []) → TieO X all rest ks ⟨(d, .t (.v (.bool b))) :: tm, hp⟩ m Q) : TieO X all (o :: rest) ks ⟨tm, hp⟩ m Q := fun r hr a w ⟨S, E, hk⟩ => by
  obtain ⟨dd, hu, ho2⟩ : ∃ d, X.P.underlying t = some d ∧ TD.ok X.P (.slice e) d := by
    obtain ⟨i, d, _, _, hu, hdd, _⟩ := X.htab t _ hty
    exact ⟨d, hu, hdd⟩
  simp only [TD.ok] at ho2
  subst ho2
  have hv := hk.val hx
  have hs : ∃ ad c k, a.eval x = .slice ad k c ∧ (ad = none → l = []) := by
    generalize a.eval x = v at hv
    cases hv with
    | t hv =>
      generalize hq : l.map enc = q at hv
      cases hv with
      | slE a c => exact ⟨_, _, _, rfl, fun _ => by simpa using hq⟩
      | sl => exact ⟨_, _, _, rfl, fun h => by cases h⟩
  obtain ⟨ad, c, k, hx', hl⟩ := hs
  refine wpList_step fun K hK => ?_
  rw [guardT_ok hk hg, if_pos rfl]
  unfold Oper.wp
  have hexec : (execOp a.eval o).run X.P w = .ok (.value (.bool ad.isNone)) w := by
    have h1 : a.eval (.const (.slice none 0 0)) = .slice none 0 0 := rfl
    unfold execOp
    simp only [ho, hx', h1, Sem.run_bind, run_guard_nil, run_eql_nil w t e ad k c hu, Result.andThen_ok, Sem.run_pure]
  rw [hexec]
  refine hK _ _ (h ad.isNone (fun hb => hl (by simpa using hb)) r hr _ _ ⟨S, E, ?_⟩)
  rw [hd]
  exact hk.put (Nat.le_of_ble_eq_true hdn) (.t (.v _))
end
section
variable {τ α : Type} {X : Cx} {tmMin : List (Nat × T)} {hp : List (Nat × Blk)} {all : Array Oper} {o : Oper}
theorem StepQ.indexO {ty e sz el n s0 : Nat} {x ix : Operand} {ik : IntKind} {i : Int} {z0 : List Value} {te : TI} {id : Nat} {l : List α} {enc : α → List Tree} {y : α} (hy : getI l i = some y)
    (ho : o.op = .indexAddr ty x ix) (hg : guardT all.toList tmMin o.guard = some true) (hx : val tmMin x = some (.own id)) (hb : look hp id = some (.rows el sz n (l.map enc))) (hi : val tmMin ix = some (.t (.v (.int ik i))))
    (hty : look X.tab ty = some ⟨s0, .slice e, z0⟩) (hte : look X.tab e = some te) (hsz : te.size = sz) : StepQ X all o tmMin hp (.pe id i.toNat sz 0) := by
  intro tm hm a w S E hk K Q' hK
  obtain ⟨h0, hl, hlt⟩ := getI_some hy
  have hiv := (hk.val (val_more hm hi)).tv
  obtain ⟨dd, hdd, ho2⟩ := (X.htab ty _ hty).run_under w
  simp only [TD.ok] at ho2
  subst ho2
  have hs := (X.htab e _ hte).run_size w
  have hll : i.toNat < l.length := by omega
  have hxv := hk.val (val_more hm hx)
  generalize hxe : a.eval x = xv at hxv
  cases hxv with
  | own _ _ hE =>
    obtain ⟨hn, ⟨hE', hr⟩ | ⟨β, cap, vs, _, hE', hh, _⟩⟩ := hk.hp id _ hb
    · simp at hr; subst hr; simp at hll
    · subst hsz
      have hpe := RV.pe (w := w) (S := S) (E := E) id i.toNat te.size 0 β (l.map enc).length cap hE'
      rw [hE'] at hE
      subst hE
      have hrun : (execOp a.eval o).run X.P w = .ok (.value (.pointer (some ⟨β, i.toNat * te.size + 0, none⟩))) w := by
        simp only [execOp, ho, Instr.indexAt, hiv, asIntOf, Sem.run_bind, Sem.run_pure, Result.andThen_ok, hdd, hxe]
        have c1 : 0 ≤ i ∧ i < ((l.map enc).length : Int) := ⟨h0, by simpa using hlt⟩
        simp only [Sem.run_bind, Result.andThen_ok, Sem.run_pure, c1, and_self, if_true, hs, addr_add, Nat.zero_add, Nat.add_zero]
      rw [guardT_ok hk (guardT_more hm hg), if_pos rfl]
      unfold Oper.wp
      rw [hrun]
      exact hK _ _ _ _ hk hpe
theorem StepQ.loadY {t id sz off e n : Nat} {i : Int} {ti : TI} {p : Operand} {l : List α} {enc : α → List Tree} {y : α} {r : T} (hy : getI l i = some y)
    (ho : o.op = .load t p) (hg : guardT all.toList tmMin o.guard = some true) (hp1 : val tmMin p = some (.pe id i.toNat sz off)) (hb : look hp id = some (.rows e sz n (l.map enc)))
    (hti : look X.tab t = some ti) (hr : takeT ti.desc.isAgg ti.size ((enc y).map .t) off = some r) : StepQ X all o tmMin hp r := by
  intro tm hm a w S E hk K Q' hK
  obtain ⟨v, h1, h2⟩ := load_own (P := X.P) hk (X.htab t _ hti) hb (hk.val (val_more hm hp1)) (by rw [List.getElem?_map, (getI_some hy).2.1]; rfl) hr
  rw [guardT_ok hk (guardT_more hm hg), if_pos rfl]
  unfold Oper.wp
  have hexec : (execOp a.eval o).run X.P w = .ok (.value v) w := by
    unfold execOp
    simp only [ho, Sem.run_bind, h1, Result.andThen_ok, Sem.run_pure]
  rw [hexec]
  exact hK _ _ _ _ hk h2
end
/-- From here on, whatever order the rest of the region draws, it comes to σ' with what le lists. l: what has come up. -/
def TieA (X : Cx) (ops : Array Oper) (fe : Nat) (le : List Bool) (fuel : Nat) (l : List Bool) (σ σ' : St) : Prop :=
  ∀ (Q : Exit → Act → World → Prop), (∀ c a w, ¬ Q (.panic c) a w) → (∀ a w, Sim X.w0 X.L X.nt σ' a w → wpAny X.P .any ops Q fe le.toArray a w) → ∀ a w, Sim X.w0 X.L X.nt σ a w → wpAny X.P .any ops Q fuel l.toArray a w
/-- Each of these operations may come next. -/
def AllA (X : Cx) (ops : Array Oper) (fe : Nat) (le : List Bool) (fuel : Nat) (l : List Bool) (σ σ' : St) (rs : List Nat) : Prop :=
  ∀ i ∈ rs, ∀ (Q : Exit → Act → World → Prop), (∀ c a w, ¬ Q (.panic c) a w) → (∀ a w, Sim X.w0 X.L X.nt σ' a w → wpAny X.P .any ops Q fe le.toArray a w) → ∀ a w, Sim X.w0 X.L X.nt σ a w → wpOp X.P ops Q i (wpAny X.P .any ops Q fuel (l.toArray.setIfInBounds i true)) a w
section
variable {ρ : Type} {X : Cx} {ks : List K} {ops : Array Oper} {fe fuel : Nat} {le l l' : List Bool} {σ σ₁ σ' : St} {m : Option ρ} {Q : ρ → Exit → St → Prop} {o : Oper}
theorem TieA.have_ {fuel₁ : Nat} {l₁ : List Bool} (h : TieA X ops fe le fuel₁ l₁ σ₁ σ') (k : TieA X ops fe le fuel₁ l₁ σ₁ σ' → TieA X ops fe le fuel l σ σ') : TieA X ops fe le fuel l σ σ' := k h
theorem TieA.done (hs : Sub σ' σ) : TieA X ops fe le fe le σ σ' := fun _ _ hQ a w hw => hQ a w (hw.sub hs)
theorem TieA.all (rs : List Nat) (hr : Region.ready .any ops l.toArray = rs) (hne : rs.isEmpty = false) (h : AllA X ops fe le fuel l σ σ' rs) : TieA X ops fe le (fuel + 1) l σ σ' := fun Q hp hQ a w hw =>
  wpAny_all hr (by rintro rfl; cases hne) fun i hi => h i hi Q hp hQ a w hw
theorem AllA.nil : AllA X ops fe le fuel l σ σ' [] := fun _ h => by cases h
theorem AllA.cons {i : Nat} {rs : List Nat} (l' : List Bool) (ho : ops[i]? = some o) (hl : l.set i true = l') (h₁ : TieO X ops [o] [] σ (some ()) (fun _ e σ'' => e = .normal ∧ Sub σ₁ σ'')) (h₂ : TieA X ops fe le fuel l' σ₁ σ') (h₃ : AllA X ops fe le fuel l σ σ' rs) : AllA X ops fe le fuel l σ σ' (i :: rs) := fun j hj Q hp hQ a w hw => by
  rcases List.mem_cons.1 hj with rfl | hj
  · have h := h₁ () rfl a w hw
    unfold wpOp
    simp only [ho]
    have next : ∀ a w, wpList X.P ops (after X.P [] (X.post fun e σ'' => e = .normal ∧ Sub σ₁ σ'')) [] a w → wpAny X.P .any ops Q fuel (l.toArray.setIfInBounds j true) a w := fun a w ⟨σ'', hs, _, e⟩ => by
      rw [List.setIfInBounds_toArray, hl]
      exact h₂ Q hp hQ a w (hs.sub e)
    unfold wpList at h
    split at h
    · rename_i hg
      rw [if_pos hg]
      rcases h with h | ⟨h1, h2⟩
      · refine .inl ?_
        revert h
        unfold Oper.wp
        generalize (execOp a.eval o).run X.P w = r
        intro h
        cases r with
        | ok n w' =>
          cases n <;> simp only [Oper.upon] at h ⊢
          all_goals first
            | exact next _ _ h
            | exact Calls.mono h (fun e w'' he => by cases e <;> first | exact next _ _ he | (obtain ⟨_, _, _, _, he, _⟩ := he; cases he) | (obtain ⟨_, _, he, _⟩ := he; cases he))
            | exact Rows.mono h (fun _ _ he => next _ _ he)
            | (obtain ⟨_, _, he, _⟩ := h; cases he)
            | exact h
        | halt x w' => cases x <;> simp only [Oper.upon] at h ⊢ <;> first | exact h | (obtain ⟨_, _, he, _⟩ := h; cases he)
      · obtain ⟨_, _, _, _, he, _⟩ := h2; cases he
    · rename_i hg
      rw [if_neg hg]
      exact next _ _ h
  · exact h₃ j hj Q hp hQ a w hw
theorem TieA.move {d : Nat} {x : Operand} {t : T} {tm : List (Nat × T)} {hp : List (Nat × Blk)} (i : Nat) (l' : List Bool) (ho : ops[i]? = some o) (hl : l.set i true = l') (hop : o.op = .move x ∨ o.op = .assign x) (hd : o.dst = some d) (hdn : Nat.blt d X.nt = true) (hg : o.guard = none)
    (hs : Region.noSelect ops = true) (hf : Region.free .any ops l.toArray i = true) (hr : (Region.ready .any ops l.toArray).contains i = true) (hx : val tm x = some t) (h : TieA X ops fe le fuel l' ⟨(d, t) :: tm, hp⟩ σ') :
    TieA X ops fe le (fuel + 1) l ⟨tm, hp⟩ σ' := fun Q hpn hQ a w ⟨S, E, hk⟩ => by
  have hv := hk.val hx
  refine wpAny_take ho hs hf hr (fun c a w hc => absurd hc (hpn _ _ _)) (v := a.eval x) (.inl ⟨?_, fun w' => ?_⟩) ?_
  · unfold Region.wanted; rw [hg]
  · rcases hop with hop | hop <;> (unfold execOp; rw [hop]; rfl)
  · rw [List.setIfInBounds_toArray, hl]
    exact h Q hpn hQ _ _ ⟨S, E, by rw [hd]; exact hk.put (Nat.le_of_ble_eq_true hdn) hv⟩
theorem TieA.take1 {d : Nat} {V : T} {tm : List (Nat × T)} {hp : List (Nat × Blk)} (i : Nat) (l' : List Bool) (ho : ops[i]? = some o) (hl : l.set i true = l') (hd : o.dst = some d) (hdn : Nat.blt d X.nt = true) (hg : o.guard = none)
    (hs : Region.noSelect ops = true) (hf : Region.free .any ops l.toArray i = true) (hr : (Region.ready .any ops l.toArray).contains i = true)
    (hx : ∀ S E a w, Ok X.w0 X.L X.nt ⟨tm, hp⟩ S E a w → ∃ v, (∀ w', (execOp a.eval o).run X.P w' = .ok (.value v) w') ∧ RV w S E v V) (h : TieA X ops fe le fuel l' ⟨(d, V) :: tm, hp⟩ σ') :
    TieA X ops fe le (fuel + 1) l ⟨tm, hp⟩ σ' := fun Q hpn hQ a w ⟨S, E, hk⟩ => by
  obtain ⟨v, hv, hr'⟩ := hx S E a w hk
  refine wpAny_take ho hs hf hr (fun c a w hc => absurd hc (hpn _ _ _)) (v := v) (.inl ⟨?_, hv⟩) ?_
  · unfold Region.wanted; rw [hg]
  · rw [List.setIfInBounds_toArray, hl]
    exact h Q hpn hQ _ _ ⟨S, E, by rw [hd]; exact hk.put (Nat.le_of_ble_eq_true hdn) hr'⟩
theorem TieA.fieldP {d s f sz p n id off : Nat} {fs : List (Nat × Nat)} {z : List Value} {x : Operand} {tm : List (Nat × T)} {hp : List (Nat × Blk)} (i : Nat) (l' : List Bool) (ho : ops[i]? = some o) (hl : l.set i true = l') (hop : o.op = .fieldAddr s x f) (hd : o.dst = some d) (hdn : Nat.blt d X.nt = true) (hg : o.guard = none)
    (hs : Region.noSelect ops = true) (hf : Region.free .any ops l.toArray i = true) (hr : (Region.ready .any ops l.toArray).contains i = true) (hx : val tm x = some (.ptr id off)) (hti : look X.tab s = some ⟨sz, .struct fs, z⟩) (hfs : fs[f]? = some (p, .succ n)) (h : TieA X ops fe le fuel l' ⟨(d, .ptr id (off + p)) :: tm, hp⟩ σ') :
    TieA X ops fe le (fuel + 1) l ⟨tm, hp⟩ σ' := TieA.take1 i l' ho hl hd hdn hg hs hf hr (fun S E a w hk => by
  obtain ⟨β, hpv, hE⟩ := (hk.val hx).ptr_inv
  exact ⟨_, fun w' => by simp [execOp, hop, hpv, fieldAddr_ok (X.htab s _ hti) hfs β off rfl], .ptr id _ β hE⟩) h
theorem TieA.fieldE {d s f sz p n : Nat} {cells : List Tree} {fs : List (Nat × Nat)} {z : List Value} {x : Operand} {tm : List (Nat × T)} {hp : List (Nat × Blk)} (i : Nat) (l' : List Bool) (ho : ops[i]? = some o) (hl : l.set i true = l') (hop : o.op = .fieldAddr s x f) (hd : o.dst = some d) (hdn : Nat.blt d X.nt = true) (hg : o.guard = none)
    (hs : Region.noSelect ops = true) (hf : Region.free .any ops l.toArray i = true) (hr : (Region.ready .any ops l.toArray).contains i = true) (hx : val tm x = some (.el cells)) (hti : look X.tab s = some ⟨sz, .struct fs, z⟩) (hfs : fs[f]? = some (p, .succ n)) (h : TieA X ops fe le fuel l' ⟨(d, .el (cells.drop p)) :: tm, hp⟩ σ') :
    TieA X ops fe le (fuel + 1) l ⟨tm, hp⟩ σ' := TieA.take1 i l' ho hl hd hdn hg hs hf hr (fun S E a w hk => by
  have hv := hk.val hx
  obtain ⟨b, o', hpv⟩ := hv.el_inv
  rw [hpv] at hv
  exact ⟨_, fun w' => by simp [execOp, hop, hpv, fieldAddr_ok (X.htab s _ hti) hfs b o' rfl], hv.el_drop p⟩) h
/-- A region that draws its order: its first operations come in any order, the rest (from h on) as they stand. -/
theorem TieS.draws {id : Nat} (h : Nat) (l lh : List Bool) (σ₁ : St) (hmx : X.P.follows .mixedOrders = true) (hQ : ∀ r c σ, ¬ Q r (.panic c) σ) (hl : (Array.replicate ops.size false).toList = l) (hle : Nat.ble h ops.size = true)
    (hlh : (List.range ops.size).map (fun j => Nat.blt j h) = lh) (ht : tailOk ops.toList h = true) (h₁ : TieA X ops (ops.size - h) lh ops.size l σ σ₁) (h₂ : TieO X ops (ops.toList.drop h) [] σ₁ m Q) : TieS X [.c (.region id ops true)] σ m Q := fun r hr a w ⟨S, E, hk⟩ => by
  have hle := Nat.le_of_ble_eq_true hle
  have hkeep : Keep (fun _ => False) w { w with drawn := w.drawn + 1 } := ⟨rfl, rfl, rfl, Nat.le_refl _, fun _ _ _ => rfl, Nat.le_succ _⟩
  have h3 := h₁ (X.post (Q r)) (fun c a w ⟨σ, _, hq⟩ => hQ r c σ hq) (fun a w hw => by
    refine any_tail ht (ops.size - h) h lh.toArray a w (Nat.le_refl _) (by omega) (by rw [← hlh]; simp) (fun j hj => ?_) (h₂ r hr a w hw)
    rw [← hlh, Array.getD_eq_getD_getElem?]
    simp only [List.getElem?_toArray, List.getElem?_map]
    rw [List.getElem?_range hj]
    simp only [Option.map_some, Option.getD_some]
    rw [Bool.eq_iff_iff, decide_eq_true_iff]
    exact ⟨fun c => Nat.le_of_ble_eq_true c, fun c => Nat.ble_eq_true_of_le c⟩) a _ ⟨S, E, hk.grow hkeep⟩
  rw [← hl, Array.toArray_toList] at h3
  exact wp_region_any (id := id) hmx h3
end
def ltM {α : Type} (g : α → α → Option Int) (x y : α) : Bool := decide ((g x y).getD 0 < 0)
end Go.Pv
namespace Go.Pv
def bitAnd (k : IntKind) (x y : Int) : Int := k.wrap (BitVec.ofInt k.bits x &&& BitVec.ofInt k.bits y).toNat
def bitOr (k : IntKind) (x y : Int) : Int := k.wrap (BitVec.ofInt k.bits x ||| BitVec.ofInt k.bits y).toNat
def bitAndNot (k : IntKind) (x y : Int) : Int := k.wrap (BitVec.ofInt k.bits x &&& ~~~(BitVec.ofInt k.bits y)).toNat
def bitShl (k : IntKind) (x y : Int) : Int := k.wrap (x * 2 ^ (min y.toNat k.bits))
def bitShr (k : IntKind) (x y : Int) : Int := x.fdiv (2 ^ (min y.toNat k.bits))
/-- shifts by what may be negative; math/bits -/
def shlM (k : IntKind) (x y : Int) : Option Int := if y < 0 then none else some (bitShl k x y)
def shrM (k : IntKind) (x y : Int) : Option Int := if y < 0 then none else some (bitShr k x y)
end Go.Pv
namespace Go.Pv
open Go.RowKit Go.MapKept
/-- What a map gives for a key; z: what it gives for one that it does not hold. -/
def mget {κ ν : Type} [BEq κ] (z : ν) : List (κ × ν) → κ → ν
  | [], _ => z
  | (a, v) :: r, k => bif k == a then v else mget z r k
/-- The map with a key set. -/
def mset {κ ν : Type} [BEq κ] : List (κ × ν) → κ → ν → List (κ × ν)
  | [], k, v => [(k, v)]
  | (a, x) :: r, k, v => bif k == a then (k, v) :: r else (a, x) :: mset r k v
/-- Keys of a type d, as they stand in the machine. -/
structure KeyLaw {κ : Type} [BEq κ] (d : TypeDesc) (f : κ → Value) : Prop where
  now : ∀ a b, Instr.sameNow d (f a) (f b) = some (a == b)
  key : ∀ a, IsKey d (f a)
  bits : ∀ a b, (a == b) = true → Instr.sameBits 10000 (f b) (f a) = true
theorem intKey (ik : IntKind) : KeyLaw (.int ik) (fun n : Int => .int ik n) := ⟨fun a b => by simp [Instr.sameNow], fun a => by simp [IsKey], fun a b h => by
  have h : a = b := by simpa using h
  subst h; simp [Instr.sameBits]⟩
section
variable {κ ν : Type} [BEq κ] {d : TypeDesc} {f : κ → Value} {g : ν → Value}
def mfind : List (κ × ν) → κ → Option (Nat × ν)
  | [], _ => none
  | (a, v) :: r, k => bif k == a then some (0, v) else (mfind r k).map fun p => (p.1 + 1, p.2)
theorem mget_find (z : ν) (k : κ) : ∀ m : List (κ × ν), mget z m k = match mfind m k with | some p => p.2 | none => z
  | [] => rfl
  | (a, v) :: r => by
    simp only [mget, mfind]
    cases k == a
    · simp only [cond_false]; rw [mget_find z k r]; cases mfind r k <;> rfl
    · rfl
theorem mset_find (k : κ) (v : ν) : ∀ m : List (κ × ν), mset m k v = match mfind m k with | some p => m.set p.1 (k, v) | none => m ++ [(k, v)]
  | [] => rfl
  | (a, x) :: r => by
    simp only [mset, mfind]
    cases k == a
    · simp only [cond_false]; rw [mset_find k v r]; cases mfind r k <;> rfl
    · rfl
theorem mfind_key {k : κ} : ∀ {m : List (κ × ν)} {p : Nat × ν}, mfind m k = some p → ∃ a, m[p.1]? = some (a, p.2) ∧ (k == a) = true
  | [], p, h => by simp [mfind] at h
  | (a, v) :: r, p, h => by
    simp only [mfind] at h
    cases hk : k == a
    · rw [hk] at h
      simp only [cond_false, Option.map_eq_some_iff] at h
      obtain ⟨q, hq, rfl⟩ := h
      obtain ⟨b, h1, h2⟩ := mfind_key hq
      exact ⟨b, by simpa using h1, h2⟩
    · rw [hk] at h
      simp only [cond_true, Option.some.injEq] at h
      subst h
      exact ⟨a, rfl, hk⟩
abbrev ent (f : κ → Value) (g : ν → Value) (p : κ × ν) : Value × Value := (f p.1, g p.2)
theorem findNow_mp (K : KeyLaw d f) (k : κ) : ∀ (m : List (κ × ν)) (l : List MapEntry) (i : Nat), l.map (fun e => (e.key, e.val)) = m.map (ent f g) →
    Instr.findNow d (f k) l i = some ((mfind m k).map fun p => (i + p.1, g p.2))
  | [], l, i, h => by
    have : l = [] := by simpa using h
    subst this; rfl
  | (a, v) :: m, [], i, h => by simp at h
  | (a, v) :: m, e :: l, i, h => by
    simp only [List.map_cons, List.cons.injEq, Prod.mk.injEq] at h
    obtain ⟨⟨h1, h2⟩, h3⟩ := h
    simp only [Instr.findNow, h1, K.now, mfind]
    cases hk : k == a
    · simp only [cond_false]
      rw [findNow_mp K k m l (i + 1) h3]
      cases mfind m k <;> simp [Nat.add_assoc, Nat.add_comm 1]
    · simp [h2]
end
section
variable {κ ν : Type} [BEq κ] {d : TypeDesc} {f : κ → Value} {g : ν → Value} {P : Program} {w : World} {t kt et b clock : Nat} {es : Array MapEntry} {m : List (κ × ν)}
theorem lookup_run (K : KeyLaw d f) (ht : P.underlying t = some (.map kt et)) (hk : P.underlying kt = some d) {z : ν} {ti : TypeInfo} (hz : P.info? et = some ti) (hz2 : ti.zero = some (g z))
    (hb : w.heap[b]? = some (.map es clock)) (he : es.toList.map (fun e => (e.key, e.val)) = m.map (ent f g)) (k : κ) :
    (Instr.lookup t (.map (some b)) (f k) false).run P w = .ok (g (mget z m k)) w := by
  have h1 := findNow_mp K k m es.toList 0 he
  simp only [Instr.lookup, Sem.run_bind, run_underlying ht, Result.andThen_ok, MapKept.run_getObj_map hb, Sem.run_pure, run_checkKey hk (K.key k), run_findKey hk h1]
  rw [mget_find]
  cases mfind m k with
  | none =>
    have hzr : (zeroValue et).run P w = .ok (g z) w := by simp [zeroValue, typeInfo, hz, hz2]
    simp [hzr, Sem.run_bind, Result.andThen]
  | some p => simp [Result.andThen]
theorem update_run (K : KeyLaw d f) (ht : P.underlying t = some (.map kt et)) (hk : P.underlying kt = some d)
    (hb : w.heap[b]? = some (.map es clock)) (he : es.toList.map (fun e => (e.key, e.val)) = m.map (ent f g)) (k : κ) (v : ν) :
    ∃ es' clock', (Instr.mapUpdate t (.map (some b)) (f k) (g v)).run P w = .ok () { w with heap := w.heap.setIfInBounds b (.map es' clock') } ∧ es'.toList.map (fun e => (e.key, e.val)) = (mset m k v).map (ent f g) := by
  have h1 := findNow_mp K k m es.toList 0 he
  rw [mset_find]
  cases hf : mfind m k with
  | none =>
    rw [hf] at h1
    refine ⟨es.push { key := f k, val := g v, born := clock }, clock + 1, ?_, ?_⟩
    · simp only [Instr.mapUpdate, Sem.run_bind, run_underlying ht, Result.andThen_ok, MapKept.run_getObj_map hb, run_checkKey hk (K.key k), run_findKey hk h1]
      simp [run_setObj_map _ hb]
    · simp [he]
  | some p =>
    rw [hf] at h1
    obtain ⟨a, h2, h3⟩ := mfind_key hf
    have h4 : (es.toList.map (fun e => (e.key, e.val)))[p.1]? = some (f a, g p.2) := by rw [he, List.getElem?_map, h2]; rfl
    rw [List.getElem?_map, Option.map_eq_some_iff] at h4
    obtain ⟨e, h5, h6⟩ := h4
    simp only [Prod.mk.injEq] at h6
    have h5' : es[p.1]? = some e := by simpa using h5
    have hbits : Instr.sameBits 10000 e.key (f k) = true := by rw [h6.1]; exact K.bits k a h3
    refine ⟨es.modify p.1 fun e => { e with key := f k, val := g v }, clock, ?_, ?_⟩
    · simp only [Instr.mapUpdate, Sem.run_bind, run_underlying ht, Result.andThen_ok, MapKept.run_getObj_map hb, run_checkKey hk (K.key k), run_findKey hk h1]
      simp only [Option.map_some, Nat.zero_add, h5', Option.getD_some, Instr.keyThatStays, hbits, if_true, Sem.run_pure, Sem.run_bind, Result.andThen_ok]
      simp [run_setObj_map _ hb]
    · simp only
      apply List.ext_getElem?
      intro j
      have h7 := congrArg (fun l => l[j]?) he
      simp only [List.getElem?_map] at h7
      simp only [List.getElem?_map, List.getElem?_set, Array.getElem?_toList, Array.getElem?_modify] at h7 ⊢
      by_cases hj : p.1 = j
      · subst hj
        have hlt : p.1 < m.length := (List.getElem?_eq_some_iff.1 h2).1
        simp [h5', hlt]
      · simp only [hj, if_false]
        exact h7
end
section
variable {w0 : World} {L : Lim} {nt : Nat} {σ : St} {S : Nat → Prop} {E : Nat → Value} {a : Act} {w : World}
/-- A map of the call's own is written. -/
theorem Ok.setMp (h : Ok w0 L nt σ S E a w) {id β c c' : Nat} {es es' : List (Value × Value)} {l l' : Array MapEntry} (hb : look σ.hp id = some (.mp es)) (hE : E id = .map (some β))
    (hh : w.heap[β]? = some (.map l c)) (hl : l'.toList.map (fun e => (e.key, e.val)) = es') :
    Ok w0 L nt ⟨σ.tm, hput σ.hp id (.mp es')⟩ S E a { w with heap := w.heap.setIfInBounds β (.map l' c') } := by
  have hβ : blkOf (E id) = some β := by rw [hE]; rfl
  have hown := h.own id _ β hb hβ
  have hset := heap_set (o' := .map l' c') hh
  have hne : ∀ k, k ≠ β → ({ w with heap := w.heap.setIfInBounds β (.map l' c') } : World).heap[k]? = w.heap[k]? := fun k hk => hset.2 k hk
  have hS : ∀ b, S b → ({ w with heap := w.heap.setIfInBounds β (.map l' c') } : World).heap[b]? = w.heap[b]? := fun k hk => hne k fun e => hown.1 (e ▸ hk)
  refine { keep := ?_, stab := fun b hb => by simpa using h.stab b hb, base := h.base, size := h.size, defers := h.defers, tm := fun k t ht => (h.tm k t ht).mono (fun _ x => x) hS (fun _ _ => rfl), hp := ?_, own := ?_, dist := ?_, pin := h.pin }
  · exact h.keep.trans (L' := fun k => k = β) ⟨rfl, rfl, rfl, by simp, fun k _ hk => hne k hk, Nat.le_refl _⟩ fun x hx => by subst hx; exact hown.2.2.symm
  · intro id' blk hl'
    rw [look_hput] at hl'
    by_cases hid : id = id'
    · subst hid
      simp only [if_true, hb, Option.map_some, Option.some.injEq] at hl'
      subst hl'
      exact ⟨β, c', l', hE, hset.1, hl⟩
    · simp only [hid, if_false] at hl'
      refine (h.hp id' blk hl').mono (fun _ x => x) hS (fun β' hβ' => hne β' fun e => ?_) (fun _ _ => rfl)
      subst e
      exact hid (h.dist id id' _ blk _ hb hl' hβ hβ')
  · intro id' blk β' hl' hβ'
    rw [look_hput] at hl'
    have : ∃ b0, look σ.hp id' = some b0 := by
      by_cases hid : id = id'
      · subst hid; exact ⟨_, hb⟩
      · simp only [hid, if_false] at hl'; exact ⟨_, hl'⟩
    obtain ⟨b0, hb0⟩ := this
    simpa using h.own id' b0 β' hb0 hβ'
  · intro i i' x x' β' hl1 hl' hβ1 hβ2
    rw [look_hput] at hl1 hl'
    have some1 : ∀ j y, (if id = j then (look σ.hp j).map (fun _ => (.mp es' : Blk)) else look σ.hp j) = some y → ∃ b0, look σ.hp j = some b0 := by
      intro j y hj
      by_cases hid : id = j
      · subst hid; exact ⟨_, hb⟩
      · simp only [hid, if_false] at hj; exact ⟨_, hj⟩
    obtain ⟨b0, hb0⟩ := some1 i x hl1
    obtain ⟨b1, hb1⟩ := some1 i' x' hl'
    exact h.dist i i' b0 b1 β' hb0 hb1 hβ1 hβ2
end
section
variable {ρ κ ν : Type} [BEq κ] {X : Cx} {ks : List K} {tm : List (Nat × T)} {hp : List (Nat × Blk)} {m : Option ρ} {Q : ρ → Exit → St → Prop} {all : Array Oper} {o : Oper} {rest : List Oper}
theorem TieO.makeMp {t d : Nat} (id : Nat) (ho : o.op = .makeMap t none) (hd : o.dst = some d) (hdn : Nat.blt d X.nt = true) (hg : guardT all.toList tm o.guard = some true)
    (hbig : Nat.blt id big = true) (hft : freshT id tm = true) (hfb : freshB id hp = true) (h : TieO X all rest ks ⟨(d, .own id) :: tm, (id, .mp []) :: hp⟩ m Q) : TieO X all (o :: rest) ks ⟨tm, hp⟩ m Q := fun y hy a w ⟨S, E, hk⟩ => by
  obtain ⟨E', hE, hne, hok⟩ := hk.alloc (o := .map #[] 0) (x := .map (some w.heap.size)) (b := .mp []) hbig hft hfb rfl (fun E' _ => ⟨w.heap.size, 0, #[], rfl, (MapKept.heap_alloc w _).1, rfl⟩)
  refine wpList_step fun K hK => ?_
  rw [guardT_ok hk hg, if_pos rfl]
  unfold Oper.wp
  have hexec : (execOp a.eval o).run X.P w = .ok (.value (.map (some w.heap.size))) (w.alloc (.map #[] 0)) := by
    unfold execOp
    simp only [ho, Option.map_none, Sem.run_bind, run_makeMap, Result.andThen_ok, Sem.run_pure]
  rw [hexec]
  refine hK _ _ (h y hy _ _ ⟨S, E', ?_⟩)
  rw [hd]
  exact hok.put (Nat.le_of_ble_eq_true hdn) (.own id _ hE)
theorem TieO.lookupMp {t kt et d id : Nat} {x y : Operand} {dk : TypeDesc} {f : κ → Value} {g : ν → Value} {z : ν} {l : List (κ × ν)} {k : κ} (K : KeyLaw dk f) (ho : o.op = .lookup t x y false) (hd : o.dst = some d) (hdn : Nat.blt d X.nt = true) (hg : guardT all.toList tm o.guard = some true)
    (hx : val tm x = some (.own id)) (hb : look hp id = some (.mp (l.map (ent f g)))) (hy : val tm y = some (.t (.v (f k)))) (ht : X.P.underlying t = some (.map kt et)) (hkt : X.P.underlying kt = some dk) (hz : ∃ ti, X.P.info? et = some ti ∧ ti.zero = some (g z))
    (h : TieO X all rest ks ⟨(d, .t (.v (g (mget z l k)))) :: tm, hp⟩ m Q) : TieO X all (o :: rest) ks ⟨tm, hp⟩ m Q := by
  have := TieO.one (X := X) (ks := ks) (tm := tm) (hp := hp) (all := all) (o := o) (rest := rest) (Q := Q) (k := fun _ => m) (m₁ := some ()) hd hdn hg (fun _ => .t (.v (g (mget z l k)))) (fun _ S E a w _ hk => by
    obtain ⟨ti, hz1, hz2⟩ := hz
    obtain ⟨β, c, es, hE, hh, hl⟩ := hk.hp id _ hb
    have hxv := hk.val hx
    refine ⟨_, ?_, .t (.v _)⟩
    have hxe : a.eval x = .map (some β) := by
      generalize hq : a.eval x = q at hxv
      cases hxv with | own _ _ h => exact h.symm.trans hE
    simp only [execOp, ho, Sem.run_bind, hxe, (hk.val hy).tv, lookup_run K ht hkt hz1 hz2 hh hl, Result.andThen_ok, Sem.run_pure]) (fun _ _ => h)
  simpa using this
theorem TieO.updateMp {t kt et id : Nat} {x y u : Operand} {dk : TypeDesc} {f : κ → Value} {g : ν → Value} {l : List (κ × ν)} {k : κ} {v : ν} (K : KeyLaw dk f) (ho : o.op = .mapUpdate t x y u) (hd : o.dst = none) (hg : guardT all.toList tm o.guard = some true)
    (hx : val tm x = some (.own id)) (hb : look hp id = some (.mp (l.map (ent f g)))) (hy : val tm y = some (.t (.v (f k)))) (hu : val tm u = some (.t (.v (g v)))) (ht : X.P.underlying t = some (.map kt et)) (hkt : X.P.underlying kt = some dk)
    (h : TieO X all rest ks ⟨tm, hput hp id (.mp ((mset l k v).map (ent f g)))⟩ m Q) : TieO X all (o :: rest) ks ⟨tm, hp⟩ m Q := fun r hr a w ⟨S, E, hk⟩ => by
  obtain ⟨β, c, es, hE, hh, hl⟩ := hk.hp id _ hb
  have hxv := hk.val hx
  have hxe : a.eval x = .map (some β) := by
    generalize hq : a.eval x = q at hxv
    cases hxv with | own _ _ h => exact h.symm.trans hE
  obtain ⟨es', c', h1, h2⟩ := update_run K ht hkt hh hl k v
  refine wpList_step fun K hK => ?_
  rw [guardT_ok hk hg, if_pos rfl]
  unfold Oper.wp
  have hexec : (execOp a.eval o).run X.P w = .ok .skip { w with heap := w.heap.setIfInBounds β (.map es' c') } := by
    unfold execOp
    simp only [ho, Sem.run_bind, hxe, (hk.val hy).tv, (hk.val hu).tv, h1, Result.andThen_ok, Sem.run_pure]
  rw [hexec]
  refine hK _ _ (h r hr _ _ ⟨S, E, ?_⟩)
  rw [hd]
  exact hk.setMp hb hE hh h2
end
end Go.Pv
namespace Go.Pv
open Go
def enc_u8 (n : Int) : List Tree := [tK .u8 n]
@[ext] structure SConfig where
  Code : Int
  Fail : Int
  Pass : Int
  Heal : Int
  Age : Int
  Priority : Int
  Lamp : Bool
  Frame : Int
def enc_SConfig (x : SConfig) : List Tree := [tI x.Code, tI x.Fail, tI x.Pass, tI x.Heal, tI x.Age, tI x.Priority, tB x.Lamp, tI x.Frame]
abbrev A_SConfig (x : SConfig) : T := .agg [.t (tI x.Code), .t (tI x.Fail), .t (tI x.Pass), .t (tI x.Heal), .t (tI x.Age), .t (tI x.Priority), .t (tB x.Lamp), .t (tI x.Frame)]
@[ext] structure SReady where
  Done : Bool
  Ran : Bool
  Numerator : Int
  Denominator : Int
def enc_SReady (x : SReady) : List Tree := [tB x.Done, tB x.Ran, tI x.Numerator, tI x.Denominator]
abbrev A_SReady (x : SReady) : T := .agg [.t (tB x.Done), .t (tB x.Ran), .t (tI x.Numerator), .t (tI x.Denominator)]
@[ext] structure SFault where
  Status : Int
  Count : Int
  Cycles : Int
  Clean : Int
  Occurrences : Int
  Frame : List Int
  Last : Int
def enc_SFault (x : SFault) : List Tree := [tI x.Status, tI x.Count, tI x.Cycles, tI x.Clean, tI x.Occurrences, tS Pv.encI x.Frame, tI x.Last]
abbrev A_SFault (x : SFault) : T := .agg [.t (tI x.Status), .t (tI x.Count), .t (tI x.Cycles), .t (tI x.Clean), .t (tI x.Occurrences), .t (tS Pv.encI x.Frame), .t (tI x.Last)]
@[ext] structure SFaults where
  Configs : List SConfig
  L : List SFault
  Cycle : Int
  Running : Bool
abbrev A_SFaults (x : SFaults) : T := .agg [.t (tS enc_SConfig x.Configs), .t (tS enc_SFault x.L), .t (tI x.Cycle), .t (tB x.Running)]
/-- magneto/readiness.Valid -/
noncomputable def readiness_Valid (r2 : SReady) : Option Bool :=
  Option.bind (bif ((((decide (r2.Numerator ≥ 0)) && (decide (r2.Numerator ≤ 65535))) && (decide (r2.Denominator ≥ 0))) && (decide (r2.Denominator ≤ 65535))) then (some (r2.Done || (!r2.Ran))) else (some false)) fun b2 => some b2
/-- magneto/readiness.Code -/
noncomputable def readiness_Code_b1 (l : List SReady) (i : Int) (code : Int) : Option (Fl Int (Int × Int)) :=
  Option.bind (getI l i) fun x => Option.bind (readiness_Valid x) fun v => bif (!v) then (some (.ret (0, 1))) else (bif (!x.Done) then (Option.bind (shlM .i64 1 i) fun q => some (.next (bitOr .i64 code q))) else (some (.next code)))
noncomputable def readiness_Code (l : List SReady) : Option (Int × Int) :=
  bif (decide ((l.length : Int) > 16)) then (some (0, 5)) else (Option.bind (rangeN (l.length : Int) (readiness_Code_b1 l) 0) fun (t : Int ⊕ (Int × Int)) => match t with | .inl code2 => (some (code2, 0)) | .inr r2 => some r2)
/-- slices.IndexFunc[[]magneto/api.Config,magneto/api.Config] -/
noncomputable def slices_IndexFunc_sConfig_b1 (s : List SConfig) (f2 : SConfig → Option Bool) (i : Int) (_ : Unit) : Option (Fl Unit Int) :=
  Option.bind (getI s i) fun x => Option.bind (f2 x) fun v => bif v then (some (.ret i)) else (some (.next ()))
noncomputable def slices_IndexFunc_sConfig (s : List SConfig) (f2 : SConfig → Option Bool) : Option Int :=
  Option.bind (rangeN (s.length : Int) (slices_IndexFunc_sConfig_b1 s f2) ()) fun (t : Unit ⊕ Int) => match t with | .inl _ => (some (-1)) | .inr r2 => some r2
/-- slices.ContainsFunc[[]magneto/api.Config,magneto/api.Config] -/
noncomputable def slices_ContainsFunc_sConfig (s : List SConfig) (f2 : SConfig → Option Bool) : Option Bool :=
  Option.bind (slices_IndexFunc_sConfig s f2) fun v => some (decide (v ≥ 0))
/-- magneto/fault.within -/
noncomputable def fault_within (x : Int) (low : Int) (high : Int) : Option Bool :=
  some ((decide (x ≥ low)) && (decide (x ≤ high)))
/-- magneto/fault.ValidConfig -/
noncomputable def fault_ValidConfig (c : SConfig) : Option Bool :=
  Option.bind (fault_within c.Code 1 16777215) fun v => Option.bind (bif v then (Option.bind (fault_within c.Fail 1 100) fun v2 => some v2) else (some false)) fun b2 => Option.bind (bif b2 then (Option.bind (fault_within c.Pass 1 100) fun v3 => some v3) else (some false)) fun b3 => Option.bind (bif b3 then (Option.bind (fault_within c.Heal 1 100) fun v4 => some v4) else (some false)) fun b4 => Option.bind (bif b4 then (Option.bind (fault_within c.Age c.Heal 255) fun v5 => some v5) else (some false)) fun b5 => Option.bind (bif b5 then (Option.bind (fault_within c.Priority 0 255) fun v6 => some v6) else (some false)) fun b6 => Option.bind (bif b6 then (Option.bind (fault_within c.Frame 0 8) fun v7 => some v7) else (some false)) fun b7 => some b7
/-- magneto/fault.wrong -/
noncomputable def fault_wrong (c : SConfig) : Option Bool :=
  Option.bind (fault_ValidConfig c) fun v => some (!v)
/-- magneto/fault.codes -/
noncomputable def fault_codes_b1 (_ : Int) (x : SConfig) (f2 : List (Int × Bool)) : Option (Fl (List (Int × Bool)) Bool) :=
  bif (mget false f2 x.Code) then (some (.ret false)) else (some (.next (mset f2 x.Code true)))
noncomputable def fault_codes (l : List SConfig) : Option Bool :=
  Option.bind (rangeM l (fault_codes_b1) ([] : List (Int × Bool))) fun (t : (List (Int × Bool)) ⊕ Bool) => match t with | .inl _ => (some true) | .inr r2 => some r2
/-- slices.Clone[[]magneto/api.Config,magneto/api.Config] -/
noncomputable def slices_Clone_sConfig (s : List SConfig) : Option (List SConfig) :=
  Option.bind (appendM ([] : List SConfig) s) fun l => some l
/-- magneto/fault.New -/
noncomputable def fault_New (l : List SConfig) : Option (SFaults × Int) :=
  bif (decide ((l.length : Int) > 64)) then (some ((⟨([] : List SConfig), ([] : List SFault), 0, false⟩ : SFaults), 5)) else (Option.bind (slices_ContainsFunc_sConfig l fault_wrong) fun v => bif v then (some ((⟨([] : List SConfig), ([] : List SFault), 0, false⟩ : SFaults), 1)) else (Option.bind (fault_codes l) fun v2 => bif (!v2) then (some ((⟨([] : List SConfig), ([] : List SFault), 0, false⟩ : SFaults), 8)) else (Option.bind (Option.bind (slices_Clone_sConfig l) fun v3 => Option.bind (makeM (l.length : Int) (⟨0, 0, 0, 0, 0, ([] : List Int), 0⟩ : SFault)) fun l2 => some (v3, l2)) fun (s : List SConfig × List SFault) => some ((⟨s.1, s.2, 0, false⟩ : SFaults), 0))))
/-- slices.IndexFunc[[]int,int] -/
noncomputable def slices_IndexFunc_sint_b1 (s : List Int) (f2 : Int → Option Bool) (i : Int) (_ : Unit) : Option (Fl Unit Int) :=
  Option.bind (getI s i) fun x => Option.bind (f2 x) fun v => bif v then (some (.ret i)) else (some (.next ()))
noncomputable def slices_IndexFunc_sint (s : List Int) (f2 : Int → Option Bool) : Option Int :=
  Option.bind (rangeN (s.length : Int) (slices_IndexFunc_sint_b1 s f2) ()) fun (t : Unit ⊕ Int) => match t with | .inl _ => (some (-1)) | .inr r2 => some r2
/-- slices.ContainsFunc[[]int,int] -/
noncomputable def slices_ContainsFunc_sint (s : List Int) (f2 : Int → Option Bool) : Option Bool :=
  Option.bind (slices_IndexFunc_sint s f2) fun v => some (decide (v ≥ 0))
/-- magneto/fault.value -/
noncomputable def fault_value (x : Int) : Option Bool :=
  Option.bind (fault_within x (-1099511627776) 1099511627776) fun v => some v
/-- magneto/fault.frame$1 -/
noncomputable def fault_frame_1 (x : Int) : Option Bool :=
  Option.bind (fault_value x) fun v => some (!v)
/-- magneto/fault.frame -/
noncomputable def fault_frame (c : SConfig) (l : List Int) : Option Bool :=
  Option.bind (bif ((l.length : Int) == c.Frame) then (Option.bind (slices_ContainsFunc_sint l fault_frame_1) fun v => some (!v)) else (some false)) fun b2 => some b2
/-- magneto/fault.has -/
noncomputable def fault_has (f2 : SFault) (bits : Int) : Option Bool :=
  some ((bitAnd .i64 f2.Status bits) == bits)
/-- magneto/fault.known -/
noncomputable def fault_known (f2 : SFault) : Option Bool :=
  some ((bitAnd .i64 f2.Status 6) != 0)
/-- magneto/fault.right -/
noncomputable def fault_right (c : SConfig) (f2 : SFault) (cycle : Int) : Option Bool :=
  Option.bind (fault_within f2.Status 0 31) fun v => Option.bind (bif (!v) then (some true) else (Option.bind (fault_within f2.Count (w64 (0 - c.Pass)) c.Fail) fun v2 => some (!v2))) fun b2 => Option.bind (bif b2 then (some true) else (Option.bind (fault_within f2.Cycles 0 2) fun v3 => some (!v3))) fun b3 => Option.bind (bif b3 then (some true) else (Option.bind (fault_within f2.Clean 0 (w64 (c.Age - 1))) fun v4 => some (!v4))) fun b4 => Option.bind (bif b4 then (some true) else (Option.bind (fault_within f2.Occurrences 0 255) fun v5 => some (!v5))) fun b5 => Option.bind (bif b5 then (some true) else (Option.bind (fault_within f2.Last 0 cycle) fun v6 => some (!v6))) fun b6 => Option.bind (bif b6 then (some true) else (Option.bind (bif (decide ((f2.Frame.length : Int) > 0)) then (Option.bind (fault_frame c f2.Frame) fun v7 => some (!v7)) else (some false)) fun b7 => some b7)) fun b8 => bif b8 then (some false) else (Option.bind (fault_has f2 1) fun v8 => Option.bind (bif v8 then (Option.bind (fault_has f2 10) fun v9 => some ((!v9) || (f2.Last != cycle))) else (some false)) fun b9 => bif b9 then (some false) else (Option.bind (fault_has f2 4) fun v10 => bif (!(v10 == (f2.Cycles == 2))) then (some false) else (Option.bind (fault_has f2 16) fun v11 => Option.bind (bif v11 then (Option.bind (fault_has f2 4) fun v12 => some ((!v12) || (!c.Lamp))) else (some false)) fun b10 => bif b10 then (some false) else (Option.bind (fault_has f2 2) fun v13 => bif (v13 && (f2.Clean != 0)) then (some false) else (Option.bind (fault_known f2) fun v14 => bif v14 then (some ((((decide (f2.Occurrences ≥ 1)) && (decide (f2.Cycles ≥ 1))) && (decide (f2.Last ≥ 1))) && ((f2.Frame.length : Int) == c.Frame))) else (some (((((f2.Cycles == 0) && (f2.Clean == 0)) && (f2.Occurrences == 0)) && (f2.Last == 0)) && ((f2.Frame.length : Int) == 0))))))))
/-- magneto/fault.Valid -/
noncomputable def fault_Valid_b1 (f2 : SFaults) (i : Int) (_ : Unit) : Option (Fl Unit Bool) :=
  Option.bind (getI f2.L i) fun x => Option.bind (getI f2.Configs i) fun x2 => Option.bind (fault_right x2 x f2.Cycle) fun v4 => bif (!v4) then (some (.ret false)) else (some (.next ()))
noncomputable def fault_Valid (f2 : SFaults) : Option Bool :=
  Option.bind (bif (decide ((f2.Configs.length : Int) > 64)) then (some true) else (Option.bind (slices_ContainsFunc_sConfig f2.Configs fault_wrong) fun v => some v)) fun b2 => Option.bind (bif b2 then (some true) else (Option.bind (fault_codes f2.Configs) fun v2 => some (!v2))) fun b3 => Option.bind (bif (b3 || ((f2.L.length : Int) != (f2.Configs.length : Int))) then (some true) else (Option.bind (fault_within f2.Cycle 0 1073741824) fun v3 => some (!v3))) fun b4 => Option.bind (bif b4 then (some true) else (some (f2.Running && (decide (f2.Cycle < 1))))) fun b5 => bif b5 then (some false) else (Option.bind (rangeN (f2.L.length : Int) (fault_Valid_b1 f2) ()) fun (t : Unit ⊕ Bool) => match t with | .inl _ => (some true) | .inr r2 => some r2)
/-- slices.Clone[[]magneto/api.Fault,magneto/api.Fault] -/
noncomputable def slices_Clone_sFault (s : List SFault) : Option (List SFault) :=
  Option.bind (appendM ([] : List SFault) s) fun l => some l
/-- slices.Clone[[]int,int] -/
noncomputable def slices_Clone_sint (s : List Int) : Option (List Int) :=
  Option.bind (appendM ([] : List Int) s) fun l => some l
/-- magneto/fault.copied -/
noncomputable def fault_copied_b1 (i : Int) (f3 : List SFault) : Option (Fl (List SFault) Empty) :=
  Option.bind (getI f3 i) fun x => Option.bind (slices_Clone_sint x.Frame) fun v2 => Option.bind (setM f3 i (⟨x.Status, x.Count, x.Cycles, x.Clean, x.Occurrences, v2, x.Last⟩ : SFault)) fun l => some (.next l)
noncomputable def fault_copied (f2 : SFaults) : Option SFaults :=
  Option.bind (slices_Clone_sFault f2.L) fun v => Option.bind (rangeN (v.length : Int) (fault_copied_b1) v) fun (t : (List SFault) ⊕ Empty) => match t with | .inl f4 => (some (⟨f2.Configs, f4, f2.Cycle, f2.Running⟩ : SFaults)) | .inr r => r.elim
/-- magneto/fault.Begin -/
noncomputable def fault_Begin_b1 (i : Int) (f3 : List SFault) : Option (Fl (List SFault) Empty) :=
  Option.bind (getI f3 i) fun x => Option.bind (setM f3 i (⟨x.Status, 0, x.Cycles, x.Clean, x.Occurrences, x.Frame, x.Last⟩ : SFault)) fun l => Option.bind (setM l i (⟨bitAndNot .i64 x.Status 9, 0, x.Cycles, x.Clean, x.Occurrences, x.Frame, x.Last⟩ : SFault)) fun l2 => some (.next l2)
noncomputable def fault_Begin (f2 : SFaults) : Option (SFaults × Int) :=
  Option.bind (fault_Valid f2) fun v => bif (!v) then (some ((⟨([] : List SConfig), ([] : List SFault), 0, false⟩ : SFaults), 1)) else (bif f2.Running then (some ((⟨([] : List SConfig), ([] : List SFault), 0, false⟩ : SFaults), 6)) else (bif (f2.Cycle == 1073741824) then (some ((⟨([] : List SConfig), ([] : List SFault), 0, false⟩ : SFaults), 9)) else (Option.bind (fault_copied f2) fun v2 => Option.bind (rangeN (v2.L.length : Int) (fault_Begin_b1) v2.L) fun (t : (List SFault) ⊕ Empty) => match t with | .inl f4 => (some ((⟨v2.Configs, f4, w64 (v2.Cycle + 1), true⟩ : SFaults), 0)) | .inr r => r.elim)))
/-- magneto/fault.fails -/
noncomputable def fault_fails (l : List SFault) (i : Int) (c : SConfig) (cycle : Int) (frame : List Int) : Option (List SFault) :=
  Option.bind (getI l i) fun x2 => Option.bind (fault_has x2 1) fun v => Option.bind (bif (!v) then (Option.bind (setM l i (⟨x2.Status, x2.Count, x2.Cycles, x2.Clean, minI 255 (w64 (x2.Occurrences + 1)), x2.Frame, x2.Last⟩ : SFault)) fun l2 => Option.bind (fault_has (⟨x2.Status, x2.Count, x2.Cycles, x2.Clean, minI 255 (w64 (x2.Occurrences + 1)), x2.Frame, x2.Last⟩ : SFault) 4) fun v2 => bif (!v2) then (Option.bind (slices_Clone_sint frame) fun v3 => Option.bind (setM l2 i (⟨x2.Status, x2.Count, x2.Cycles, x2.Clean, minI 255 (w64 (x2.Occurrences + 1)), v3, x2.Last⟩ : SFault)) fun l3 => some l3) else (some l2)) else (some l)) fun (f2 : List SFault) => Option.bind (getI f2 i) fun x3 => Option.bind (setM f2 i (⟨bitOr .i64 x3.Status 11, x3.Count, x3.Cycles, x3.Clean, x3.Occurrences, x3.Frame, x3.Last⟩ : SFault)) fun l4 => Option.bind (setM l4 i (⟨bitOr .i64 x3.Status 11, x3.Count, x3.Cycles, 0, x3.Occurrences, x3.Frame, x3.Last⟩ : SFault)) fun l5 => bif (x3.Last == cycle) then (some l5) else (Option.bind (setM l5 i (⟨bitOr .i64 x3.Status 11, x3.Count, x3.Cycles, 0, x3.Occurrences, x3.Frame, cycle⟩ : SFault)) fun l6 => Option.bind (setM l6 i (⟨bitOr .i64 x3.Status 11, x3.Count, minI 2 (w64 (x3.Cycles + 1)), 0, x3.Occurrences, x3.Frame, cycle⟩ : SFault)) fun l7 => bif (decide ((minI 2 (w64 (x3.Cycles + 1))) < 2)) then (some l7) else (Option.bind (setM l7 i (⟨bitOr .i64 (bitOr .i64 x3.Status 11) 4, x3.Count, minI 2 (w64 (x3.Cycles + 1)), 0, x3.Occurrences, x3.Frame, cycle⟩ : SFault)) fun l8 => bif c.Lamp then (Option.bind (setM l8 i (⟨bitOr .i64 (bitOr .i64 (bitOr .i64 x3.Status 11) 4) 16, x3.Count, minI 2 (w64 (x3.Cycles + 1)), 0, x3.Occurrences, x3.Frame, cycle⟩ : SFault)) fun l9 => some l9) else (some l8)))
/-- magneto/fault.Result -/
noncomputable def fault_Result (f2 : SFaults) (i : Int) (bad : Bool) (l : List Int) : Option (SFaults × Int) :=
  Option.bind (fault_Valid f2) fun v => bif (!v) then (some ((⟨([] : List SConfig), ([] : List SFault), 0, false⟩ : SFaults), 1)) else (bif ((decide (i < 0)) || (decide (i ≥ (f2.L.length : Int)))) then (some ((⟨([] : List SConfig), ([] : List SFault), 0, false⟩ : SFaults), 2)) else (bif (!f2.Running) then (some ((⟨([] : List SConfig), ([] : List SFault), 0, false⟩ : SFaults), 6)) else (Option.bind (getI f2.Configs i) fun x => Option.bind (fault_frame x l) fun v2 => bif (!v2) then (some ((⟨([] : List SConfig), ([] : List SFault), 0, false⟩ : SFaults), 1)) else (Option.bind (fault_copied f2) fun v3 => Option.bind (Option.bind (getI v3.L i) fun _ => Option.bind (getI v3.Configs i) fun x3 => some x3) fun (f3 : SConfig) => Option.bind (bif bad then (Option.bind (getI v3.L i) fun x4 => Option.bind (setM v3.L i (⟨x4.Status, minI f3.Fail (w64 ((maxI x4.Count 0) + 1)), x4.Cycles, x4.Clean, x4.Occurrences, x4.Frame, x4.Last⟩ : SFault)) fun l2 => some l2) else (Option.bind (getI v3.L i) fun x5 => Option.bind (setM v3.L i (⟨x5.Status, maxI (w64 (0 - f3.Pass)) (w64 ((minI x5.Count 0) - 1)), x5.Cycles, x5.Clean, x5.Occurrences, x5.Frame, x5.Last⟩ : SFault)) fun l3 => some l3)) fun (f4 : List SFault) => Option.bind (getI f4 i) fun x6 => bif (x6.Count == f3.Fail) then (Option.bind (fault_fails f4 i f3 v3.Cycle l) fun v4 => some ((⟨v3.Configs, v4, v3.Cycle, v3.Running⟩ : SFaults), 0)) else (bif (x6.Count == (w64 (0 - f3.Pass))) then (Option.bind (setM f4 i (⟨bitOr .i64 x6.Status 8, x6.Count, x6.Cycles, x6.Clean, x6.Occurrences, x6.Frame, x6.Last⟩ : SFault)) fun l4 => Option.bind (setM l4 i (⟨bitAndNot .i64 (bitOr .i64 x6.Status 8) 1, x6.Count, x6.Cycles, x6.Clean, x6.Occurrences, x6.Frame, x6.Last⟩ : SFault)) fun l5 => some ((⟨v3.Configs, l5, v3.Cycle, v3.Running⟩ : SFaults), 0)) else (some ((⟨v3.Configs, f4, v3.Cycle, v3.Running⟩ : SFaults), 0)))))))
/-- magneto/readiness.count_a2 -/
noncomputable def readiness_count_a2 (r2 : SReady) : Option SReady :=
  bif (r2.Numerator == 65535) then (some (⟨r2.Done, r2.Ran, w64 ((w64 (Int.tdiv r2.Numerator 2)) + 1), w64 (Int.tdiv r2.Denominator 2)⟩ : SReady)) else (some (⟨r2.Done, r2.Ran, w64 (r2.Numerator + 1), r2.Denominator⟩ : SReady))
/-- magneto/readiness.Step -/
noncomputable def readiness_Step (r2 : SReady) (began : Bool) (ran : Bool) : Option (SReady × Int) :=
  Option.bind (readiness_Valid r2) fun v => bif (!v) then (some ((⟨false, false, 0, 0⟩ : SReady), 1)) else (bif (ran && (!began)) then (some ((⟨false, false, 0, 0⟩ : SReady), 6)) else (bif ran then (Option.bind (bif (!r2.Ran) then (Option.bind (readiness_count_a2 r2) fun v2 => some v2) else (some r2)) fun (f2 : SReady) => some ((⟨true, true, f2.Numerator, f2.Denominator⟩ : SReady), 0)) else (some (r2, 0))))
/-- magneto/readiness.count_a3 -/
noncomputable def readiness_count_a3 (r2 : SReady) : Option SReady :=
  bif (r2.Denominator == 65535) then (some (⟨r2.Done, r2.Ran, w64 (Int.tdiv r2.Numerator 2), w64 ((w64 (Int.tdiv r2.Denominator 2)) + 1)⟩ : SReady)) else (some (⟨r2.Done, r2.Ran, r2.Numerator, w64 (r2.Denominator + 1)⟩ : SReady))
/-- magneto/readiness.Cycle -/
noncomputable def readiness_Cycle (r2 : SReady) (general : Bool) : Option (SReady × Int) :=
  Option.bind (readiness_Valid r2) fun v => bif (!v) then (some ((⟨false, false, 0, 0⟩ : SReady), 1)) else (bif general then (Option.bind (readiness_count_a3 r2) fun v2 => some ((⟨v2.Done, false, v2.Numerator, v2.Denominator⟩ : SReady), 0)) else (some ((⟨r2.Done, false, r2.Numerator, r2.Denominator⟩ : SReady), 0)))
/-- magneto/fault.End -/
noncomputable def fault_End_b1 (v2 : SFaults) (i : Int) (f3 : List SFault) : Option (Fl (List SFault) Empty) :=
  Option.bind (getI f3 i) fun x => Option.bind (Option.bind (fault_has x 8) fun v3 => bif (!v3) then (some true) else (some (x.Last == v2.Cycle))) fun (v4 : Bool) => bif v4 then (some (.next f3)) else (Option.bind (setM f3 i (⟨bitAndNot .i64 x.Status 2, x.Count, x.Cycles, x.Clean, x.Occurrences, x.Frame, x.Last⟩ : SFault)) fun l => Option.bind (fault_has (⟨bitAndNot .i64 x.Status 2, x.Count, x.Cycles, x.Clean, x.Occurrences, x.Frame, x.Last⟩ : SFault) 4) fun v5 => Option.bind (bif (!(!v5)) then (Option.bind (setM l i (⟨bitAndNot .i64 x.Status 2, x.Count, x.Cycles, w64 (x.Clean + 1), x.Occurrences, x.Frame, x.Last⟩ : SFault)) fun l2 => some l2) else (some l)) fun (f4 : List SFault) => Option.bind (bif (!v5) then (some true) else (Option.bind (getI f4 i) fun x2 => Option.bind (getI v2.Configs i) fun x3 => some (x2.Clean == x3.Age))) fun (v6 : Bool) => bif v6 then (Option.bind (getI f4 i) fun x4 => Option.bind (setM f4 i (⟨8, x4.Count, 0, 0, 0, ([] : List Int), 0⟩ : SFault)) fun l3 => some (.next l3)) else (Option.bind (getI f4 i) fun x5 => Option.bind (getI v2.Configs i) fun x6 => bif (decide (x5.Clean ≥ x6.Heal)) then (Option.bind (setM f4 i (⟨bitAndNot .i64 x5.Status 16, x5.Count, x5.Cycles, x5.Clean, x5.Occurrences, x5.Frame, x5.Last⟩ : SFault)) fun l4 => some (.next l4)) else (some (.next f4))))
noncomputable def fault_End (f2 : SFaults) : Option (SFaults × Int) :=
  Option.bind (fault_Valid f2) fun v => bif (!v) then (some ((⟨([] : List SConfig), ([] : List SFault), 0, false⟩ : SFaults), 1)) else (bif (!f2.Running) then (some ((⟨([] : List SConfig), ([] : List SFault), 0, false⟩ : SFaults), 6)) else (Option.bind (fault_copied f2) fun v2 => Option.bind (rangeN (v2.L.length : Int) (fault_End_b1 v2) v2.L) fun (t : (List SFault) ⊕ Empty) => match t with | .inl f5 => (some ((⟨v2.Configs, f5, v2.Cycle, false⟩ : SFaults), 0)) | .inr r => r.elim))
/-- magneto/readiness.Clear -/
noncomputable def readiness_Clear_b1 (_ : Int) (x : SReady) (out : List SReady) : Option (Fl (List SReady) Empty) :=
  Option.bind (appendM out ([(⟨false, false, x.Numerator, x.Denominator⟩ : SReady)] : List SReady)) fun l2 => some (.next l2)
noncomputable def readiness_Clear (l : List SReady) : Option (List SReady) :=
  Option.bind (rangeM l (readiness_Clear_b1) ([] : List SReady)) fun (t : (List SReady) ⊕ Empty) => match t with | .inl out2 => (some out2) | .inr r => r.elim
/-- magneto/magnetotop.TopReadiness -/
noncomputable def magnetotop_TopReadiness_b2 (l : List SConfig) (_ : Int) (x2 : Int) (s2 : SFaults × List SReady) : Option (Fl (SFaults × List SReady) Bool) :=
  Option.bind (remM (w64 (bitShr .u8 x2 1)) (l.length : Int)) fun q => Option.bind (Option.bind (getI l q) fun x3 => Option.bind (makeM (maxI 0 (minI x3.Frame 8)) 0) fun l5 => Option.bind (fault_Result s2.1 q ((bitAnd .u8 x2 1) == 1) l5) fun r5 => some (r5.2, r5.1)) fun (s3 : Int × SFaults) => bif ((s3.1 != 0) || ((s3.2.L.length : Int) != (l.length : Int))) then (some (.ret false)) else (Option.bind (getI s3.2.L q) fun x4 => Option.bind (getI s2.2 q) fun x5 => Option.bind (readiness_Step x5 true ((bitAnd .i64 x4.Status 8) != 0)) fun r6 => Option.bind (setM s2.2 q r6.1) fun l6 => bif (r6.2 != 0) then (some (.ret false)) else (some (.next (s3.2, l6))))
noncomputable def magnetotop_TopReadiness_b3 (s4 : SFaults × List SReady) (i3 : Int) (s5 : List SReady × List Int) : Option (Fl (List SReady × List Int) Bool) :=
  Option.bind (getI s4.1.L i3) fun x6 => Option.bind (bif ((bitAnd .i64 x6.Status 8) != 0) then (Option.bind (getI s5.2 i3) fun x7 => Option.bind (setM s5.2 i3 (w64 (x7 + 1))) fun l7 => some l7) else (some s5.2)) fun (f2 : List Int) => Option.bind (getI s5.1 i3) fun x8 => Option.bind (readiness_Cycle x8 true) fun r7 => Option.bind (setM s5.1 i3 r7.1) fun l8 => bif (r7.2 != 0) then (some (.ret false)) else (some (.next (l8, f2)))
noncomputable def magnetotop_TopReadiness_b1 (l : List SConfig) (_ : Int) (x : List Int) (s : SFaults × List SReady × List Int) : Option (Fl (SFaults × List SReady × List Int) Bool) :=
  bif (decide ((x.length : Int) > 10)) then (some (.ret true)) else (Option.bind (fault_Begin s.1) fun r4 => bif ((r4.2 != 0) || ((r4.1.L.length : Int) != (l.length : Int))) then (some (.ret false)) else (Option.bind (rangeM x (magnetotop_TopReadiness_b2 l) (r4.1, s.2.1)) fun (t : (SFaults × List SReady) ⊕ Bool) => match t with | .inl s4 => (Option.bind (rangeN (l.length : Int) (magnetotop_TopReadiness_b3 s4) (s4.2, s.2.2)) fun (t : (List SReady × List Int) ⊕ Bool) => match t with | .inl s6 => (Option.bind (fault_End s4.1) fun r8 => bif (r8.2 != 0) then (some (.ret false)) else (some (.next (r8.1, s6.1, s6.2)))) | .inr r9 => some (.ret r9)) | .inr r10 => some (.ret r10)))
noncomputable def magnetotop_TopReadiness_b4 (cycles : List (List Int)) (s7 : SFaults × List SReady × List Int) (i4 : Int) (want : Int) : Option (Fl Int Bool) :=
  Option.bind (getI s7.2.1 i4) fun x9 => Option.bind (Option.bind (getI s7.2.2 i4) fun x10 => bif (!(x9.Done == (decide (x10 > 0)))) then (some true) else (bif (x9.Numerator != x10) then (some true) else (bif (x9.Denominator != (cycles.length : Int)) then (some true) else (some x9.Ran)))) fun (v : Bool) => bif v then (some (.ret false)) else (Option.bind (getI s7.2.2 i4) fun x11 => bif (x11 == 0) then (Option.bind (shlM .i64 1 i4) fun q2 => some (.next (w64 (want + q2)))) else (some (.next want)))
noncomputable def magnetotop_TopReadiness (l : List SConfig) (cycles : List (List Int)) : Option Bool :=
  Option.bind (makeM 3 (⟨false, false, 0, 0⟩ : SReady)) fun l2 => Option.bind (readiness_Code l2) fun r2 => bif ((r2.2 != 0) || (r2.1 != 7)) then (some false) else (bif (((decide ((l.length : Int) < 1)) || (decide ((l.length : Int) > 16))) || (decide ((cycles.length : Int) > 30))) then (some true) else (Option.bind (fault_New l) fun r3 => bif (r3.2 != 0) then (some ((r3.1.L.length : Int) == 0)) else (Option.bind (makeM (l.length : Int) (⟨false, false, 0, 0⟩ : SReady)) fun l3 => Option.bind (makeM (l.length : Int) 0) fun l4 => Option.bind (rangeM cycles (magnetotop_TopReadiness_b1 l) (r3.1, l3, l4)) fun (t : (SFaults × List SReady × List Int) ⊕ Bool) => match t with | .inl s7 => (Option.bind (rangeN (s7.2.1.length : Int) (magnetotop_TopReadiness_b4 cycles s7) 0) fun (t : Int ⊕ Bool) => match t with | .inl want2 => (Option.bind (readiness_Code s7.2.1) fun r11 => Option.bind (readiness_Clear s7.2.1) fun v2 => Option.bind (readiness_Code v2) fun r12 => Option.bind (bif (((r11.2 == 0) && (r11.1 == want2)) && (r12.2 == 0)) then (Option.bind (shlM .i64 1 (l.length : Int)) fun q3 => some (r12.1 == (w64 (q3 - 1)))) else (some false)) fun b2 => some b2) | .inr r13 => some r13) | .inr r14 => some r14)))
end Go.Pv

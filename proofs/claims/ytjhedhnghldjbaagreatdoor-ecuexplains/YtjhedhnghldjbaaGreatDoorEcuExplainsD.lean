/- This file joins: The value machine, part Xc: rows that are made, copied, cut. The value machine, part Xd: elements of the call's own rows, read and written under names. The value machine, part Xe: names and nil slices in the midst of operations; what is known ahead; regions that draw their order and change rows on the way. -/
import Derived.Test.YtjhedhnghldjbaaGreatDoorEcuExplainsC
import Derived.Laws.MakeOwn
import Derived.Orders
set_option linter.unusedSimpArgs false
set_option linter.unusedVariables false
namespace Go.Pv
open Go.RowKit
/-- make([]E, n) -/
def makeM {α : Type} (n : Int) (z : α) : Option (List α) := if 0 ≤ n ∧ n ≤ 1073741824 then some (List.replicate n.toNat z) else none
/-- copy(l, r): what l holds then -/
def copyL {α : Type} (l r : List α) : List α := r.take l.length ++ l.drop r.length
/-- l[lo:hi] -/
def sliceM {α : Type} (l : List α) (lo hi : Int) : Option (List α) := if 0 ≤ lo ∧ lo ≤ hi ∧ hi ≤ l.length then some ((l.drop lo.toNat).take (hi.toNat - lo.toNat)) else none
/-- a store: l[i] = y, where l has i -/
def setM {α : Type} (l : List α) (i : Int) (y : α) : Option (List α) := if 0 ≤ i ∧ i < l.length then some (l.set i.toNat y) else none
theorem setM_get {α : Type} {l l' : List α} {i : Int} {y : α} (h : setM l i y = some l') : getI l' i = some y := by
  unfold setM at h
  split at h
  · rename_i hi
    simp only [Option.some.injEq] at h
    subst h
    unfold getI
    rw [if_pos hi.1, List.getElem?_set_self (by omega)]
  · cases h
section
variable {P : Program} {w0 : World} {L : Lim} {nt : Nat} {tm : List (Nat × T)} {hp : List (Nat × Blk)} {S : Nat → Prop} {E : Nat → Value} {a : Act} {w : World}
theorem Ok.make (h : Ok w0 L nt ⟨tm, hp⟩ S E a w) {id t e n : Nat} {ti : TI} {c : List Tree} (hbig : Nat.blt id big = true) (hf : freshT id tm = true) (hb : freshB id hp = true) (ht : P.underlying t = some (.slice e)) (hte : TIok P e ti) (hz : ti.zero.length = ti.size) (hpos : 0 < ti.size)
    (hc : c = ti.zero.map fun v => nilTree (.v v)) (hmax : n ≤ 1073741824) (kl kc : IntKind) :
    ∃ v' w' E', (Instr.makeSlice t (.int kl n) (.int kc n)).run P w = .ok v' w' ∧ E' id = v' ∧ Ok w0 L nt ⟨tm, (id, .rows e ti.size n (List.replicate n c)) :: hp⟩ S E' a w' := by
  obtain ⟨i, d, hi, hs, _, _, ⟨z, hzz, hzc⟩, hby⟩ := hte
  have hcl : c.length = ti.size := by rw [hc, List.length_map, hz]
  have hbytes : (i.bytes : Int) * (n : Int) ≤ 281474976710656 := by
    have := Nat.mul_le_mul hby hmax
    have h2 : ((i.bytes * n : Nat) : Int) ≤ ((65536 * 1073741824 : Nat) : Int) := by exact_mod_cast this
    rw [Int.natCast_mul] at h2
    omega
  have hr := run_make (P := P) w t e i z ht hi hzz kl kc n n (by omega) (Int.le_refl _) hbytes (by omega)
  simp only [Int.toNat_natCast] at hr
  have hzs : z.cells.size = ti.size := by rw [← hz, ← hzc]; simp
  have hget : ∀ k (hk : k < n * i.size), (madeCells z.cells (n * i.size))[k]'(by rw [size_madeCells]; exact hk) = ti.zero[k % ti.size]'(by rw [hz]; exact Nat.mod_lt _ hpos) := by
    intro k hk
    have hm : k % z.cells.size < z.cells.size := Nat.mod_lt _ (by omega)
    simp only [madeCells, Array.getElem_map, Array.getElem_range]
    rw [getElem!_pos z.cells _ hm]
    have : z.cells[k % z.cells.size] = z.cells.toList[k % z.cells.size]'(by simpa using hm) := by simp
    rw [this]
    simp only [hzc, hzs]
  obtain ⟨E', hE, _, hok⟩ := h.alloc (o := .cells (madeCells z.cells (n * i.size)) e) (x := .slice (some ⟨w.heap.size, 0, none⟩) n n) (b := .rows e ti.size n (List.replicate n c)) hbig hf hb rfl (fun E' hE' => by
    refine ⟨by simp, .inr ⟨w.heap.size, n, (madeCells z.cells (n * i.size)).toList, by unfold maxLen; omega, by simp, by rw [heap_alloc_new], ?_, by simp, ?_, ?_⟩⟩
    · rw [Array.length_toList, size_madeCells, hs]
    · intro r hr; rw [(List.mem_replicate.1 hr).2]; exact hcl
    · intro i' j hi' hj hb'
      have hi2 : i' < n := by simpa using hi'
      simp only [List.getElem_replicate] at hj ⊢
      have hj2 : j < ti.size := by rw [← hcl]; exact hj
      have hlt : i' * ti.size + j < n * i.size := by rw [Array.length_toList, size_madeCells] at hb'; exact hb'
      have e1 : (madeCells z.cells (n * i.size)).toList[i' * ti.size + j] = ti.zero[j]'(by rw [hz]; exact hj2) := by
        rw [Array.getElem_toList, hget _ hlt]
        have : (i' * ti.size + j) % ti.size = j := by rw [Nat.mul_comm, Nat.mul_add_mod, Nat.mod_eq_of_lt hj2]
        simp only [this]
      rw [e1]
      have e2 : c[j] = nilTree (.v (ti.zero[j]'(by rw [hz]; exact hj2))) := by subst hc; simp
      rw [e2]
      exact nilTree_ok (.v _))
  exact ⟨_, _, E', hr, hE, hok⟩
theorem Ok.copy (h : Ok w0 L nt ⟨tm, hp⟩ S E a w) {id e e' n m t t2 ty : Nat} {ti : TI} {x : Value} {rs r2 : List (List Tree)} (hb : look hp id = some (.rows e ti.size n rs)) (ht : P.underlying t = some (.slice e')) (hte : TIok P e' ti)
    (hx : Src w S x m ti.size r2) (h2 : ∀ r ∈ r2, r.length = ti.size) :
    ∃ w', (Builtin.copy_ #[t, t2] ty #[E id, x]).run P w = .ok (.int .i64 (min m n : Nat)) w' ∧ Ok w0 L nt ⟨tm, hput hp id (.rows e ti.size n (copyL rs r2))⟩ S E a w' := by
  obtain ⟨hm, ad, c, rfl, hsrc⟩ := hx
  obtain ⟨hn, hrow⟩ := h.hp id _ hb
  obtain ⟨i, d, hi, hs, _⟩ := hte
  have hcl : (copyL rs r2).length = rs.length := by simp [copyL]; omega
  rcases hrow with ⟨hE, hr0⟩ | ⟨β, cap, cs, hcm, hE, hh, hcl2, hcc, hsz, hcr⟩
  · subst hr0
    simp only [List.length_nil] at hn
    subst hn
    have hf : (Builtin.firstCells i.size 0 (.slice ad m c)).run P w = .ok #[] w := by cases ad <;> simp [Builtin.firstCells, loadCells, loadCellsFrom]
    have hmin : min m 0 = 0 := by omega
    refine ⟨w, ?_, ?_⟩
    · rw [hE]
      simp [Builtin.copy_, run_underlying ht, Builtin.lenOf, sizeOf, typeInfo, hi, hf, goInt]
    · refine { h with
        hp := fun k b hk => ?_
        own := fun k b β hk hβ => by
          simp only at hk
          rw [look_hput] at hk
          by_cases e : id = k
          · subst e; simp only [hE, blkOf] at hβ; cases hβ
          · simp only [e, if_false] at hk; exact h.own k b β hk hβ
        dist := fun k k' b b' β hk hk' hβ hβ' => by
          simp only at hk hk'
          rw [look_hput] at hk hk'
          by_cases e : id = k
          · subst e; simp only [hE, blkOf] at hβ; cases hβ
          · by_cases e2 : id = k'
            · subst e2; simp only [hE, blkOf] at hβ'; cases hβ'
            · simp only [e, e2, if_false] at hk hk'; exact h.dist k k' b b' β hk hk' hβ hβ' }
      simp only at hk
      rw [look_hput] at hk
      by_cases e : id = k
      · subst e
        simp only [if_true, hb, Option.map_some, Option.some.injEq] at hk
        subst hk
        exact ⟨by simp [copyL], .inl ⟨hE, by simp [copyL]⟩⟩
      · simp only [e, if_false] at hk; exact h.hp k b hk
  · subst hn
    let q := min m rs.length
    have hq : q = min m rs.length := rfl
    -- the cells that are copied
    have hnews : ∃ news : List Value, news.length = q * ti.size ∧ (Builtin.firstCells i.size q (.slice ad m c)).run P w = .ok news.toArray w ∧ (∀ u ∈ news, u.oneCell' = true) ∧
        ∀ i j (hi : i < q) (hj : j < ti.size), ∃ (h1 : i * ti.size + j < news.length) (h2 : i < r2.length) (h3 : j < (r2[i]).length), RT w S (news[i * ti.size + j]) ((r2[i])[j]) := by
      by_cases h0 : 0 < m
      · obtain ⟨y, all, rfl, hal, hac, hone, har⟩ := hsrc h0
        have hqm : q * ti.size ≤ m * ti.size := Nat.mul_le_mul_right _ (by omega)
        refine ⟨all.take (q * ti.size), by rw [List.length_take, hal]; omega, ?_, fun u hu => hone u (List.mem_of_mem_take hu), fun i' j hi' hj => ?_⟩
        · have := run_loadCells_list (P := P) w y (all.take (q * ti.size)) (fun j u hu => by
            rw [List.getElem?_take] at hu
            split at hu
            · exact hac j u hu
            · cases hu)
          rw [List.length_take, hal, Nat.min_eq_left hqm] at this
          simp [Builtin.firstCells, hs, this]
        · have hi2 : i' < r2.length := by omega
          have hrl := h2 _ (List.getElem_mem hi2)
          have hle : (i' + 1) * ti.size ≤ q * ti.size := Nat.mul_le_mul_right _ hi'
          rw [Nat.succ_mul] at hle
          refine ⟨by rw [List.length_take, hal]; omega, hi2, by rw [hrl]; exact hj, ?_⟩
          rw [List.getElem_take]
          exact har i' j hi2 (by rw [hrl]; exact hj) (by rw [hal]; omega)
      · have hm0 : m = 0 := by omega
        have hq0 : q = 0 := by omega
        refine ⟨[], by rw [hq0]; simp, ?_, fun u hu => by simp at hu, fun i' j hi' _ => by omega⟩
        rw [hq0]
        cases ad <;> simp [Builtin.firstCells, loadCells, loadCellsFrom]
    obtain ⟨news, hnl, hload, hone, hnr⟩ := hnews
    have hqr : q * ti.size ≤ cap * ti.size := Nat.mul_le_mul_right _ (by omega)
    have hst := run_storeCells_at (P := P) β 0 e news 0 cs.toArray w hh (by simp; rw [hnl, hcl2]; exact hqr) hone
    have hrun : (Builtin.copy_ #[t, t2] ty #[E id, .slice ad m c]).run P w = .ok (.int .i64 (q : Nat)) (w.setRow β (news ++ cs.drop news.length).toArray) := by
      rw [hE]
      have : Nat.min m rs.length = q := rfl
      have hst' : (storeCells ⟨β, 0, none⟩ news).run P w = .ok () (w.setRow β (news ++ cs.drop news.length).toArray) := by simpa using hst
      simp [Builtin.copy_, run_underlying ht, Builtin.lenOf, sizeOf, typeInfo, hi, this, hload, goInt, hst']
    refine ⟨_, hrun, h.setRow hb (by rw [hE]; rfl) hh fun hS hnew => ⟨by rw [hcl], .inr ⟨β, cap, news ++ cs.drop news.length, hcm, by rw [hcl]; exact hE, hnew, by simp; omega, by rw [hcl]; exact hcc, ?_, ?_⟩⟩⟩
    · intro r hr
      unfold copyL at hr
      rcases List.mem_append.1 hr with hr | hr
      · exact h2 r (List.mem_of_mem_take hr)
      · exact hsz r (List.mem_of_mem_drop hr)
    · intro i' j hi' hj hb'
      have hi2 : i' < rs.length := by rw [← hcl]; exact hi'
      by_cases hiq : i' < q
      · have hi3 : i' < r2.length := by omega
        have e1 : (copyL rs r2)[i'] = r2[i'] := by
          apply Option.some.inj
          rw [← List.getElem?_eq_getElem, ← List.getElem?_eq_getElem]
          unfold copyL
          rw [List.getElem?_append_left (by rw [List.length_take]; omega), List.getElem?_take, if_pos hi2]
        have hj2 : j < ti.size := by have := h2 _ (List.getElem_mem hi3); rw [← this]; rw [e1] at hj; exact hj
        obtain ⟨h5, _, h6, h7⟩ := hnr i' j hiq hj2
        simp only [e1]
        rw [List.getElem_append_left h5]
        exact h7.mono (fun _ x => x) hS
      · have hm' : m ≤ i' := by omega
        have e1 : (copyL rs r2)[i'] = rs[i'] := by
          apply Option.some.inj
          rw [← List.getElem?_eq_getElem, ← List.getElem?_eq_getElem]
          unfold copyL
          rw [List.getElem?_append_right (by rw [List.length_take]; omega), List.length_take, List.getElem?_drop]
          congr 1
          omega
        have hj1 : j < (rs[i']).length := by rw [e1] at hj; exact hj
        have hle : q * ti.size ≤ i' * ti.size := Nat.mul_le_mul_right _ (by omega)
        have hb2 : i' * ti.size + j < cs.length := by simp only [List.length_append, List.length_drop] at hb'; omega
        have e2 : (news ++ cs.drop news.length)[i' * ti.size + j] = cs[i' * ti.size + j] := by
          apply Option.some.inj
          rw [← List.getElem?_eq_getElem, ← List.getElem?_eq_getElem, List.getElem?_append_right (by omega), List.getElem?_drop]
          congr 1
          omega
        simp only [e1]
        rw [e2]
        exact (hcr i' j hi2 hj1 hb2).mono (fun _ x => x) hS
end
def optI (tm : List (Nat × T)) (d : Int) : Option Operand → Option Int
  | none => some d
  | some o => match val tm o with | some (.t (.v (.int _ i))) => some i | _ => none
section
variable {ρ α : Type} {X : Cx} {ks : List K} {tm tm' : List (Nat × T)} {hp hp' : List (Nat × Blk)} {m : Option ρ} {Q : ρ → Exit → St → Prop} {all : Array Oper} {o : Oper} {rest : List Oper}
theorem TieO.makeO {t e d s0 : Nat} {z0 : List Value} {te : TI} {x : Operand} {ik : IntKind} {n : Int} {enc : α → List Tree} {k : List α → Option ρ} (id : Nat) (z : α)
    (ho : o.op = .makeSlice t x x) (hd : o.dst = some d) (hdn : Nat.blt d X.nt = true) (hg : guardT all.toList tm o.guard = some true) (hx : val tm x = some (.t (.v (.int ik n))))
    (hty : look X.tab t = some ⟨s0, .slice e, z0⟩) (hte : look X.tab e = some te) (hz : te.zero.length = te.size) (hpos : Nat.blt 0 te.size = true) (henc : enc z = te.zero.map fun v => nilTree (.v v)) (hbig : Nat.blt id big = true) (hft : freshT id tm = true) (hfb : freshB id hp = true)
    (h : ∀ y, makeM n z = some y → TieO X all rest ks ⟨(d, .own id) :: tm, (id, .rows e te.size y.length (y.map enc)) :: hp⟩ (k y) Q) :
    TieO X all (o :: rest) ks ⟨tm, hp⟩ ((makeM n z).bind k) Q := fun y hy a w ⟨S, E, hk⟩ => by
  cases hmk : makeM n z with
  | none => simp [hmk] at hy
  | some l =>
    have h0 := hmk
    unfold makeM at h0
    split at h0 <;> try (cases h0; done)
    rename_i hn
    simp only [Option.some.injEq] at h0
    simp only [hmk, Option.bind_some] at hy
    obtain ⟨dd, hu, ho2⟩ : ∃ d, X.P.underlying t = some d ∧ TD.ok X.P (.slice e) d := by
      obtain ⟨i, d, _, _, hu, hdd, _⟩ := X.htab t _ hty
      exact ⟨d, hu, hdd⟩
    simp only [TD.ok] at ho2
    subst ho2
    obtain ⟨j, rfl⟩ : ∃ j : Nat, n = (j : Int) := ⟨n.toNat, by omega⟩
    simp only [Int.toNat_natCast] at h0
    obtain ⟨v', w', E', hr, hE, hok⟩ := hk.make (P := X.P) (n := j) (c := enc z) hbig hft hfb hu (X.htab e _ hte) hz (Nat.le_of_ble_eq_true hpos) henc (by omega) ik ik
    refine wpList_step fun K hK => ?_
    rw [guardT_ok hk hg, if_pos rfl]
    unfold Oper.wp
    have hexec : (execOp a.eval o).run X.P w = .ok (.value v') w' := by
      unfold execOp
      simp only [ho, (hk.val hx).tv, Sem.run_bind, hr, Result.andThen_ok, Sem.run_pure]
    rw [hexec]
    refine hK _ _ (h l hmk y hy _ _ ⟨S, E', ?_⟩)
    rw [hd]
    have e1 : l.map enc = List.replicate j (enc z) := by rw [← h0]; simp
    have e2 : l.length = j := by rw [← h0]; simp
    rw [e1, e2]
    exact hok.put (Nat.le_of_ble_eq_true hdn) (.own id _ hE)
theorem TieO.copyO {t t2 e e' e2 n m2 s0 id : Nat} {z0 : List Value} {te : TI} {s x : Operand} {l r : List α} {enc : α → List Tree} {σ₁ : St}
    (ho : o.op = .call ⟨.builtin .copy, #[s, x], #[t, t2]⟩) (hg : guardT all.toList tm o.guard = some true)
    (hty : look X.tab t = some ⟨s0, .slice e', z0⟩) (hte : look X.tab e' = some te) (henc : ∀ y, (enc y).length = te.size) (hone : ∀ y, (enc y).all oneTree = true)
    (hs : val tm s = some (.own id)) (hb : look hp id = some (.rows e te.size n (l.map enc)))
    (hx : val tm x = some (.t (.sl m2 (r.map enc))) ∨ ∃ i2, val tm x = some (.own i2) ∧ look hp i2 = some (.rows e2 te.size m2 (r.map enc)))
    (hput : putT X.nt o.dst (.t (.v (.int .i64 (min r.length l.length : Nat)))) ⟨tm, hput hp id (.rows e te.size (copyL l r).length ((copyL l r).map enc))⟩ = some σ₁)
    (h : TieO X all rest ks σ₁ m Q) : TieO X all (o :: rest) ks ⟨tm, hp⟩ m Q := fun y hy a w ⟨S, E, hk⟩ => by
  obtain ⟨dd, hu, ho2⟩ : ∃ d, X.P.underlying t = some d ∧ TD.ok X.P (.slice e') d := by
    obtain ⟨i, d, _, _, hu, hdd, _⟩ := X.htab t _ hty
    exact ⟨d, hu, hdd⟩
  simp only [TD.ok] at ho2
  subst ho2
  have hsrc : Src w S (a.eval x) r.length te.size (r.map enc) := by
    rcases hx with hx | ⟨i2, hx, hb2⟩
    · have hv := hk.val hx
      generalize a.eval x = xv at hv
      cases hv with
      | t hv =>
        have := rows_cells hv (all_len henc r) (all_one hone r)
        have hm : m2 = r.length := by simpa using this.1
        subst hm
        exact ⟨by simp, this.2⟩
    · have hv := hk.val hx
      have hb := hk.hp i2 _ hb2
      generalize a.eval x = xv at hv
      cases hv with
      | own _ _ hE =>
        subst hE
        have := src_blk hb (all_one hone r)
        have hm : m2 = r.length := by simpa using this.1
        subst hm
        exact this
  have hn : n = l.length := by have := (hk.hp id _ hb).1; simpa using this
  have hsv : a.eval s = E id := by
    have hv := hk.val hs
    generalize a.eval s = sv at hv
    cases hv with | own _ _ hE => exact hE.symm
  obtain ⟨w', hr, hok⟩ := hk.copy (P := X.P) (ty := o.type) (t2 := t2) hb hu (X.htab e' _ hte) hsrc (all_len henc r)
  refine wpList_step fun K hK => ?_
  rw [guardT_ok hk hg, if_pos rfl]
  unfold Oper.wp
  have hexec : (execOp a.eval o).run X.P w = .ok (.value (.int .i64 (min r.length n : Nat))) w' := by
    unfold execOp
    simp only [ho, resolve, invoke, builtin, Sem.run_bind, Sem.run_pure, Result.andThen_ok, List.map_toArray, List.map_cons, List.map_nil, hsv, hr]
  rw [hexec]
  refine hK _ _ (h y hy _ _ ⟨S, E, ?_⟩)
  have hcl : (copyL l r).length = l.length := by simp [copyL]; omega
  have e1 : copyL (l.map enc) (r.map enc) = (copyL l r).map enc := by simp [copyL, List.map_take, List.map_drop]
  rw [e1] at hok
  rw [hcl, ← hn] at hput
  exact putT_ok hok (.t (.v _)) hput
theorem run_bounds {P : Program} {w : World} {lo hi : Option Value} {n c : Nat} {l h : Int} (hl : (lo = none ∧ l = 0) ∨ ∃ k, lo = some (.int k l)) (hh : (hi = none ∧ h = n) ∨ ∃ k, hi = some (.int k h)) (h0 : 0 ≤ l) (h1 : l ≤ h) (h2 : h ≤ c) :
    (Instr.sliceBounds true n c lo hi none).run P w = .ok (l.toNat, h.toNat, c) w := by
  have eh : (h.toNat : Int) = h := Int.toNat_of_nonneg (by omega)
  rcases hl with ⟨rfl, rfl⟩ | ⟨k, rfl⟩ <;> rcases hh with ⟨rfl, rfl⟩ | ⟨k', rfl⟩
  · simp [Instr.sliceBounds]
  · simp [Instr.sliceBounds, run_sliceBound, h1, h2]
  · simp [Instr.sliceBounds, run_sliceBound, h0, h1]
  · simp [Instr.sliceBounds, run_sliceBound, h0, h1, h2, eh, (by omega : 0 ≤ h)]
theorem optI_run {w0 : World} {L : Lim} {nt : Nat} {S : Nat → Prop} {E : Nat → Value} {a : Act} {w : World} (hk : Ok w0 L nt ⟨tm, hp⟩ S E a w) {x : Option Operand} {d i : Int} (h : optI tm d x = some i) : (x.map a.eval = none ∧ i = d) ∨ ∃ k, x.map a.eval = some (.int k i) := by
  cases x with
  | none => simp only [optI, Option.some.injEq] at h; exact .inl ⟨rfl, h.symm⟩
  | some x =>
    simp only [optI] at h
    split at h <;> try (cases h; done)
    rename_i k i' hv
    simp only [Option.some.injEq] at h
    subst h
    exact .inr ⟨k, by simp [(hk.val hv).tv]⟩
/-- A part of what stays. -/
theorem TieO.sliceF {t e d n s0 : Nat} {z0 : List Value} {te : TI} {x : Operand} {lo hi : Option Operand} {l : List α} {a b : Int} {enc : α → List Tree} {k : List α → Option ρ}
    (ho : o.op = .slice t x lo hi none) (hd : o.dst = some d) (hdn : Nat.blt d X.nt = true) (hg : guardT all.toList tm o.guard = some true) (hx : val tm x = some (.t (.sl n (l.map enc))))
    (hty : look X.tab t = some ⟨s0, .slice e, z0⟩) (hte : look X.tab e = some te) (henc : ∀ y, (enc y).length = te.size) (hlo : optI tm 0 lo = some a) (hhi : optI tm l.length hi = some b)
    (h : ∀ y, sliceM l a b = some y → TieO X all rest ks ⟨(d, .t (.sl y.length (y.map enc))) :: tm, hp⟩ (k y) Q) : TieO X all (o :: rest) ks ⟨tm, hp⟩ ((sliceM l a b).bind k) Q :=
  TieO.one hd hdn hg (fun y => .t (.sl y.length (y.map enc))) (fun y S E ac w hm hk => by
    unfold sliceM at hm
    split at hm <;> try (cases hm; done)
    rename_i hb
    simp only [Option.some.injEq] at hm
    obtain ⟨h0, h1, h2⟩ := hb
    obtain ⟨i, dd, hi', hs, hu, hdd, _⟩ := X.htab t _ hty
    simp only [TD.ok] at hdd
    subst hdd
    have hsz := (X.htab e _ hte).run_size w
    have hxv := hk.val hx
    generalize hxe : ac.eval x = xv at hxv
    cases hxv with
    | t hxt =>
      have hn : n = l.length := by
        generalize hrows : l.map enc = rows at hxt
        cases hxt with
        | slE => have := congrArg List.length hrows; simpa using this.symm
        | sl => subst hrows; simp
      have shape : ∃ ad c, xv = .slice ad n c ∧ n ≤ c := by
        generalize l.map enc = rows at hxt
        cases hxt with
        | slE ad c => exact ⟨ad, c, rfl, Nat.zero_le _⟩
        | sl b o c sz rows vs hcap => exact ⟨_, c, rfl, hcap⟩
      obtain ⟨ad, c, rfl, hnc⟩ := shape
      have hbd := run_bounds (P := X.P) (w := w) (n := n) (c := c) (optI_run hk hlo) (by rw [hn]; exact optI_run hk hhi) h0 h1 (by omega)
      refine ⟨_, by
        simp only [execOp, ho, Instr.sliceAt, Sem.run_bind, run_underlying hu, Result.andThen_ok, Instr.slice, hxe, hbd, hsz, Sem.run_pure, Option.map_none]
        rfl, ?_⟩
      have hyl : y.length = b.toNat - a.toNat := by rw [← hm]; simp; omega
      by_cases hz : b.toNat - a.toNat = 0
      · have hy0 : y = [] := List.eq_nil_of_length_eq_zero (by omega)
        subst hy0
        rw [hz]
        exact .t (.slE _ _)
      · have hlt : a.toNat < l.length := by omega
        generalize hrows : l.map enc = rows at hxt
        cases hxt with
        | slE => have := congrArg List.length hrows; simp at this; subst this; simp at hlt
        | sl bk off _ sz _ vs hcap hS hszr hc hr =>
          subst hrows
          have hne : ¬ c = a.toNat := by simp at hcap; omega
          simp only [hne, if_false, Option.map_some, addr_add]
          have hszt : sz = te.size := by
            have hm0 : enc (l[a.toNat]) ∈ l.map enc := List.mem_map.2 ⟨_, List.getElem_mem hlt, rfl⟩
            rw [← hszr _ hm0, henc]
          subst hszt
          have key := RT.sl (w := w) (S := S) bk (off + a.toNat * te.size) (c - a.toNat) te.size (y.map enc) (fun i j => vs (a.toNat + i) j) (by simp at hcap; rw [List.length_map, hyl]; omega) hS
            (fun r hr' => by obtain ⟨z, _, rfl⟩ := List.mem_map.1 hr'; exact henc z)
            (fun i j hi2 hj => by
              rw [List.length_map, hyl] at hi2
              have := hc (a.toNat + i) j (by simp; omega) hj
              rw [Nat.add_mul] at this
              rw [← this]
              congr 2
              omega)
            (fun i j hi2 hj => by
              rw [List.length_map, hyl] at hi2
              have e1 : (y.map enc)[i]'(by rw [List.length_map, hyl]; exact hi2) = (l.map enc)[a.toNat + i]'(by simp; omega) := by
                subst hm
                simp
              have hj' : j < ((l.map enc)[a.toNat + i]'(by simp; omega)).length := by rw [← e1]; exact hj
              have := hr (a.toNat + i) j (by simp; omega) hj'
              simp only [e1]
              exact this)
          rw [List.length_map, hyl] at key
          rw [hyl]
          exact .t key) h
/-- The first elements of a row of the call's own, under a name of their own. -/
theorem TieO.sliceO {t e e' d id id' sz n s0 : Nat} {z0 : List Value} {te : TI} {x : Operand} {hi : Option Operand} {l : List α} {b : Int} {enc : α → List Tree} {k : List α → Option ρ}
    (ho : o.op = .slice t x none hi none) (hd : o.dst = some d) (hdn : Nat.blt d X.nt = true) (hg : guardT all.toList tm o.guard = some true) (hx : val tm x = some (.own id)) (hb : look hp id = some (.rows e sz n (l.map enc)))
    (hty : look X.tab t = some ⟨s0, .slice e', z0⟩) (hte : look X.tab e' = some te) (hhi : optI tm l.length hi = some b)
    (hsub : Sub ⟨tm', hp'⟩ ⟨tm, hp⟩) (hbig : Nat.blt id' big = true) (hft : freshT id' tm' = true) (hfb : freshB id' hp' = true) (hfo : freshB id hp' = true)
    (h : ∀ y, sliceM l 0 b = some y → TieO X all rest ks ⟨(d, .own id') :: tm', (id', .rows e sz y.length (y.map enc)) :: hp'⟩ (k y) Q) : TieO X all (o :: rest) ks ⟨tm, hp⟩ ((sliceM l 0 b).bind k) Q := fun r hr a w ⟨S, E, hk⟩ => by
  cases hm : sliceM l 0 b with
  | none => simp [hm] at hr
  | some y =>
    simp only [hm, Option.bind_some] at hr
    have hm0 := hm
    unfold sliceM at hm0
    split at hm0 <;> try (cases hm0; done)
    rename_i hbd
    simp only [Option.some.injEq] at hm0
    obtain ⟨h0, h1, h2⟩ := hbd
    have hy : y = l.take b.toNat := by rw [← hm0]; simp
    have hyl : y.length = b.toNat := by rw [hy, List.length_take]; omega
    obtain ⟨i, dd, hi', hs, hu, hdd, _⟩ := X.htab t _ hty
    simp only [TD.ok] at hdd
    subst hdd
    have hsz := (X.htab e' _ hte).run_size w
    have hbk := hk.hp id _ hb
    obtain ⟨hn, hrow⟩ := hbk
    have hn' : n = l.length := by simpa using hn
    subst hn'
    have hxv : a.eval x = E id := by
      have hv := hk.val hx
      generalize a.eval x = sv at hv
      cases hv with | own _ _ hE => exact hE.symm
    have hk' := hk.sub hsub
    have fin : ∀ v', (execOp a.eval o).run X.P w = .ok (.value v') w → (∀ β, blkOf v' = some β → blkOf (E id) = some β) → (∀ E', BlkOk w S E' v' (.rows e sz y.length (y.map enc))) →
        wpList X.P all (after X.P ks (X.post (Q r))) (o :: rest) a w := by
      intro v' hexec hv' hblk
      obtain ⟨E', hE, hok⟩ := hk'.regrow (v := E id) (v' := v') (b := .rows e sz y.length (y.map enc)) hbig hft hfb (fun β hβ => hk.own id _ β hb hβ)
        (fun j blk β hj h1 h2 => by
          obtain ⟨blk', hj', _⟩ := subB_look hsub.2 j blk hj
          have := hk.dist id j _ blk' β hb hj' h1 h2
          exact (freshB_look hfo j blk hj).1 this.symm) (Keep.refl _ w) (fun β hβ => ⟨(hk.own id _ β hb (hv' β hβ)).2.1, .inl (hv' β hβ)⟩) hblk
      refine wpList_step fun K hK => ?_
      rw [guardT_ok hk hg, if_pos rfl]
      unfold Oper.wp
      rw [hexec]
      refine hK _ _ (h y hm r hr _ _ ⟨S, E', ?_⟩)
      rw [hd]
      exact hok.put (Nat.le_of_ble_eq_true hdn) (.own id' _ hE)
    rcases hrow with ⟨hE, hr0⟩ | ⟨β, cap, cs, hcm, hE, hh, hcl, hcc, hszr, hcr⟩
    · have hl0 : l = [] := by simpa using hr0
      subst hl0
      have hb0 : b = 0 := by simp at h2; omega
      subst hb0
      have hbd := run_bounds (P := X.P) (w := w) (lo := none) (n := 0) (c := 0) (.inl ⟨rfl, rfl⟩) (optI_run hk hhi) (Int.le_refl 0) (Int.le_refl 0) (Int.le_refl 0)
      have hy0 : y = [] := by simpa using hy
      subst hy0
      refine fin (.slice none 0 0) ?_ (fun β hβ => by simp [blkOf] at hβ) (fun E' => ⟨rfl, .inl ⟨rfl, rfl⟩⟩)
      have hbd' : (Instr.sliceBounds true 0 0 none (hi.map a.eval) none).run X.P w = .ok (0, 0, 0) w := hbd
      simp only [execOp, ho, Instr.sliceAt, Sem.run_bind, run_underlying hu, Result.andThen_ok, Instr.slice, hxv, hE, Option.map_none, hbd', hsz, Sem.run_pure]
      rfl
    · have hbd := run_bounds (P := X.P) (w := w) (lo := none) (n := l.length) (c := cap) (.inl ⟨rfl, rfl⟩) (optI_run hk hhi) (Int.le_refl 0) h1 (by simp at hcc; omega)
      refine fin (.slice (some ⟨β, 0, none⟩) y.length cap) ?_ (fun β' hβ' => by rw [hE]; exact hβ') (fun E' => ⟨by simp, .inr ⟨β, cap, cs, hcm, by simp, hh, hcl, by simp at hcc ⊢; omega, ?_, ?_⟩⟩)
      · simp only [List.length_map] at hE
        simp only [execOp, ho, Instr.sliceAt, Sem.run_bind, run_underlying hu, Result.andThen_ok, Instr.slice, hxv, hE, Option.map_none, hbd, hsz, Sem.run_pure]
        have ez : (0 : Int).toNat = 0 := rfl
        by_cases hc0 : cap = 0
        · simp [hc0, hyl]
        · simp [hc0, hyl, addr_add]
      · intro q hq
        exact hszr q (by rw [hy, List.map_take] at hq; exact List.mem_of_mem_take hq)
      · intro i j hi2 hj hbb
        have hi3 : i < (l.map enc).length := by simp [hy] at hi2 ⊢; omega
        have e1 : (y.map enc)[i] = (l.map enc)[i] := by subst hy; simp
        have hj2 : j < ((l.map enc)[i]).length := by rw [← e1]; exact hj
        simp only [e1]
        exact (hcr i j hi3 hj2 hbb).mono (fun _ x => x) (fun _ _ => rfl)
end
end Go.Pv
namespace Go.Pv
open Go.RowKit
section
variable {ρ α : Type} {X : Cx} {ks : List K} {tm : List (Nat × T)} {hp : List (Nat × Blk)} {m : Option ρ} {Q : ρ → Exit → St → Prop} {all : Array Oper} {o : Oper} {rest : List Oper}
theorem TieO.loadY {t d id sz off e n : Nat} {i : Int} {ti : TI} {p : Operand} {l : List α} {enc : α → List Tree} {y : α} {r : T} (hy : getI l i = some y)
    (ho : o.op = .load t p) (hd : o.dst = some d) (hdn : Nat.blt d X.nt = true) (hg : guardT all.toList tm o.guard = some true) (hp1 : val tm p = some (.pe id i.toNat sz off)) (hb : look hp id = some (.rows e sz n (l.map enc)))
    (hti : look X.tab t = some ti) (hr : takeT ti.desc.isAgg ti.size ((enc y).map .t) off = some r) (h : TieO X all rest ks ⟨(d, r) :: tm, hp⟩ m Q) : TieO X all (o :: rest) ks ⟨tm, hp⟩ m Q :=
  TieO.loadO (getI_some hy).2.1 ho hd hdn hg hp1 hb hti hr h
theorem TieO.storeY {t id sz off e n : Nat} {i : Int} {ti : TI} {p x : Operand} {l : List α} {enc : α → List Tree} {y : α} {k : List α → Option ρ} (y' : α) (lt : List Tree) {vx : T} {cs : List T} (hy : getI l i = some y)
    (ho : o.op = .store t p x) (hd : o.dst = none) (hg : guardT all.toList tm o.guard = some true) (hp1 : val tm p = some (.pe id i.toNat sz off)) (hb : look hp id = some (.rows e sz n (l.map enc)))
    (hti : look X.tab t = some ti) (hx : val tm x = some vx) (hc : cellsT hp vx = some cs) (hcs : cs.map nilT = lt.map T.t) (hs : Nat.beq lt.length ti.size = true) (hle : Nat.ble (off + lt.length) sz = true) (henc : enc y' = splc (enc y) off lt)
    (h : ∀ l', setM l i y' = some l' → TieO X all rest ks ⟨tm, hput hp id (.rows e sz l'.length (l'.map enc))⟩ (k l') Q) : TieO X all (o :: rest) ks ⟨tm, hp⟩ ((setM l i y').bind k) Q := fun r hr a w ⟨S, E, hk⟩ => by
  have hset : setM l i y' = some (l.set i.toNat y') := by
    obtain ⟨h0, _, hlt⟩ := getI_some hy
    unfold setM
    rw [if_pos ⟨h0, hlt⟩]
  rw [hset] at hr
  simp only [Option.bind_some] at hr
  have hrow : (l.map enc)[i.toNat]? = some (enc y) := by rw [List.getElem?_map, (getI_some hy).2.1]; rfl
  have hcl : cs.length = lt.length := by have := congrArg List.length hcs; simpa using this
  obtain ⟨vs, hvs, hl, hr2, h1⟩ := hk.cells (hk.val hx) hc
  have hn : n = l.length := by have := (hk.hp id _ hb).1; simpa using this
  -- the value as one whose cells are trees
  have key : ∃ w', (Instr.storeAt t (a.eval p) (a.eval x)).run X.P w = .ok () w' ∧ Ok X.w0 X.L X.nt ⟨tm, hput hp id (.rows e sz n ((l.map enc).set i.toNat (splc (enc y) off lt)))⟩ S E a w' := by
    have hv2 : RV w S E (.agg vs.toArray) (.agg (lt.map T.t)) := by
      refine .agg vs _ (by simp; omega) fun j h2 h3 => ?_
      have h4 := nilT_ok (hr2 j h2 (by omega))
      have h5 : nilT (cs[j]'(by omega)) = (lt.map T.t)[j]'h3 := by
        have h6 : (cs.map nilT)[j]? = (lt.map T.t)[j]? := by rw [hcs]
        rw [List.getElem?_map, List.getElem?_eq_getElem (by omega), List.getElem?_eq_getElem h3] at h6
        simpa using h6
      rw [h5] at h4
      exact h4
    have hone : oneL hp (lt.map T.t) = true := by
      have : ∀ q : List Tree, (∀ j (hj : j < q.length), Pv.one hp (T.t (q[j])) = true) → oneL hp (q.map T.t) = true := by
        intro q
        induction q with
        | nil => intro _; rfl
        | cons z q ih =>
          intro hq
          simp only [List.map_cons, oneL, Bool.and_eq_true]
          exact ⟨hq 0 (by simp), ih fun j hj => hq (j + 1) (by simpa using hj)⟩
      refine this lt fun j hj => ?_
      have hv := hv2
      cases hv with
      | agg _ _ _ hvv =>
        have h2 := hvv j (by omega) (by simpa using hj)
        simp only [List.getElem_map] at h2
        have h3 := h1 _ (List.getElem_mem (show j < vs.length by omega))
        generalize vs[j]'(by omega) = v at h2 h3
        generalize lt[j] = z at h2 ⊢
        cases z with
        | v q => have := h2.tv; subst this; exact h3
        | sl _ _ => rfl
    obtain ⟨w', q1, q2⟩ := store_own (P := X.P) hk (X.htab t _ hti) hb (hk.val hp1) hrow hv2 (by simp [cellsT, hone]) (Nat.eq_of_beq_eq_true hs) (Nat.le_of_ble_eq_true hle)
    refine ⟨w', ?_, q2⟩
    have e1 : (Value.agg vs.toArray).cells = (a.eval x).cells := by rw [hvs]; rfl
    simpa only [Instr.storeAt, storeVar, e1] using q1
  obtain ⟨w', h2, h3⟩ := key
  refine wpList_step fun K hK => ?_
  rw [guardT_ok hk hg, if_pos rfl]
  unfold Oper.wp
  have hexec : (execOp a.eval o).run X.P w = .ok .skip w' := by
    unfold execOp
    simp only [ho, Sem.run_bind, h2, Result.andThen_ok, Sem.run_pure]
  rw [hexec]
  refine hK _ _ (h _ hset r hr _ _ ⟨S, E, ?_⟩)
  rw [hd, List.map_set, henc, List.length_set, ← hn]
  exact h3
end
end Go.Pv
namespace Go.Pv
open Go.RowKit Go.WideShapes Go.ChangeShapes
section
variable {ρ τ : Type} {X : Cx} {ks : List K} {tm tm' : List (Nat × T)} {hp hp' : List (Nat × Blk)} {m : Option ρ} {Q : ρ → Exit → St → Prop} {all : Array Oper} {ops : List Oper}
/-- What holds of every state that says no more holds here: the rules between statements, in the midst of operations. -/
theorem TieO.via {σ σ' : St} (h : ∀ {ρ : Type} {m : Option ρ} {Q : ρ → Exit → St → Prop} {e : Exit}, TieX X [] e σ' m Q → TieX X [] e σ m Q) (k : TieO X all ops ks σ' m Q) : TieO X all ops ks σ m Q := fun r hr a w hw => by
  have := h (ρ := Unit) (m := some ()) (e := .normal) (Q := fun _ _ σ'' => σ'' = σ') (fun r _ a w hw => ⟨σ', hw, rfl⟩) () rfl a w hw
  obtain ⟨σ'', hs, rfl⟩ := this
  exact k r hr a w hs
theorem TieO.nilP (k id e sz : Nat) (path : List Nat) {t u : T} (hk : look tm k = some t) (hu : setNil id path t = some u) (hbig : Nat.blt id big = true) (hft : freshT id tm = true) (hfb : freshB id hp = true)
    (h : TieO X all ops ks ⟨(k, u) :: tm, (id, .rows e sz 0 []) :: hp⟩ m Q) : TieO X all ops ks ⟨tm, hp⟩ m Q := TieO.via (fun x => TieX.nilP k id e sz path hk hu hbig hft hfb x) h
theorem TieO.nilB (b id e sz : Nat) (path : List Nat) {ts us : List T} (hk : look hp b = some (.box ts)) (hu : setNil id path (.agg ts) = some (.agg us)) (hbig : Nat.blt id big = true) (hft : freshT id tm = true) (hfb : freshB id hp = true)
    (h : TieO X all ops ks ⟨tm, (id, .rows e sz 0 []) :: hput hp b (.box us)⟩ m Q) : TieO X all ops ks ⟨tm, hp⟩ m Q := TieO.via (fun x => TieX.nilB b id e sz path hk hu hbig hft hfb x) h
theorem TieO.ren (h : List (Nat × Nat)) (ho : renOk h = true) (ht : renTm h tm = some tm') (hh : renHp h hp = some hp') (k : TieO X all ops ks ⟨tm', hp'⟩ m Q) : TieO X all ops ks ⟨tm, hp⟩ m Q := TieO.via (fun x => TieX.ren h ho ht hh x) k
theorem TieO.pre {σ : St} {m₁ : Option τ} {k : τ → Option ρ} (h : ∀ y, m₁ = some y → TieO X all ops ks σ (k y) Q) : TieO X all ops ks σ (m₁.bind k) Q := fun r hr a w hw => by
  cases hm : m₁ with
  | none => simp [hm] at hr
  | some y => exact h y hm r (by simpa [hm] using hr) a w hw
open Classical in
/-- What is known to be there need not be asked for. -/
theorem TieO.withH {σ : St} {m₁ : Option τ} {t : τ} (hm : m₁ = some t) (h : TieO X all ops ks σ (m₁.bind fun t' => if t' = t then m else none) Q) : TieO X all ops ks σ m Q := by
  subst hm; simpa using h
open Classical in
theorem TieO.ifH {σ₂ : τ → St} {t : τ} (h : TieO X all ops ks (σ₂ t) m Q) : ∀ t', TieO X all ops ks (σ₂ t') (if t' = t then m else none) Q := fun t' => by
  by_cases e : t' = t
  · subst e; simpa using h
  · simp only [e, if_false]; exact TieO.fail
open Classical in
theorem TieO.ifG {σ₂ : τ → St} {t : τ} {m₁ : Option τ} (h : TieO X all ops ks (σ₂ t) m Q) : ∀ t', m₁ = some t' → TieO X all ops ks (σ₂ t') (if t' = t then m else none) Q := fun t' _ => TieO.ifH h t'
end
theorem run_equalIn_nil {P : Program} (w : World) (d : Nat) (t e : TypeId) (a : Option Addr) (l c : Nat) (h : P.underlying t = some (.slice e)) : (Op.equalIn (d + 1) t (.slice a l c) (.slice none 0 0)).run P w = .ok a.isNone w := by
  cases a <;> simp [Op.equalIn, run_underlying h]
theorem run_equal_nil {P : Program} (w : World) (t e : TypeId) (a : Option Addr) (l c : Nat) (h : P.underlying t = some (.slice e)) : (Op.equal t (.slice a l c) (.slice none 0 0)).run P w = .ok a.isNone w := run_equalIn_nil w _ t e a l c h
theorem run_eql_nil {P : Program} (w : World) (t e : TypeId) (a : Option Addr) (l c : Nat) (h : P.underlying t = some (.slice e)) : (binOp .eql t (.slice a l c) (.slice none 0 0)).run P w = .ok (.bool a.isNone) w := by
  simp [binOp, run_equal_nil w t e a l c h]
theorem run_guard_nil {P : Program} (w : World) (t : TypeId) (x y : Operand) (a : Option Addr) (l c : Nat) : (eqGuard .eql t x y (.slice a l c) (.slice none 0 0)).run P w = .ok () w := rfl
section
variable {ρ τ : Type} {X : Cx} {ks : List K} {σ : St} {tm : List (Nat × T)} {hp : List (Nat × Blk)} {m m' : Option ρ} {Q : ρ → Exit → St → Prop} {all : Array Oper} {rest : List Oper} {o : Oper}
/-- x == nil, of a slice that stays: only what is nil has no rows. -/
theorem TieO.isNil {t e yt d n s0 : Nat} {z0 : List Value} {x : Operand} {α : Type} {enc : α → List Tree} {l : List α} (ho : o.op = .binOp .eql t x (.const (.slice none 0 0)) yt) (hd : o.dst = some d) (hdn : Nat.blt d X.nt = true) (hg : guardT all.toList tm o.guard = some true)
    (hty : look X.tab t = some ⟨s0, .slice e, z0⟩) (hx : val tm x = some (.t (.sl n (l.map enc))))
    (h : ∀ b : Bool, (b = true → l = []) → TieO X all rest ks ⟨(d, .t (.v (.bool b))) :: tm, hp⟩ m Q) : TieO X all (o :: rest) ks ⟨tm, hp⟩ m Q := fun r hr a w ⟨S, E, hk⟩ => by
  obtain ⟨dd, hu, ho2⟩ : ∃ d, X.P.underlying t = some d ∧ TD.ok X.P (.slice e) d := by
    obtain ⟨i, d, _, _, hu, hdd, _⟩ := X.htab t _ hty
    exact ⟨d, hu, hdd⟩
  simp only [TD.ok] at ho2
  subst ho2
  have hv := hk.val hx
  have hs : ∃ ad c k, a.eval x = .slice ad k c ∧ (ad = none → l = []) := by
    generalize a.eval x = v at hv
    cases hv with
    | t hv =>
      generalize hq : l.map enc = q at hv
      cases hv with
      | slE a c => exact ⟨_, _, _, rfl, fun _ => by simpa using hq⟩
      | sl => exact ⟨_, _, _, rfl, fun h => by cases h⟩
  obtain ⟨ad, c, k, hx', hl⟩ := hs
  refine wpList_step fun K hK => ?_
  rw [guardT_ok hk hg, if_pos rfl]
  unfold Oper.wp
  have hexec : (execOp a.eval o).run X.P w = .ok (.value (.bool ad.isNone)) w := by
    have h1 : a.eval (.const (.slice none 0 0)) = .slice none 0 0 := rfl
    unfold execOp
    simp only [ho, hx', h1, Sem.run_bind, run_guard_nil, run_eql_nil w t e ad k c hu, Result.andThen_ok, Sem.run_pure]
  rw [hexec]
  refine hK _ _ (h ad.isNone (fun hb => hl (by simpa using hb)) r hr _ _ ⟨S, E, ?_⟩)
  rw [hd]
  exact hk.put (Nat.le_of_ble_eq_true hdn) (.t (.v _))
end
section
variable {τ α : Type} {X : Cx} {tmMin : List (Nat × T)} {hp : List (Nat × Blk)} {all : Array Oper} {o : Oper}
theorem StepQ.indexO {ty e sz el n s0 : Nat} {x ix : Operand} {ik : IntKind} {i : Int} {z0 : List Value} {te : TI} {id : Nat} {l : List α} {enc : α → List Tree} {y : α} (hy : getI l i = some y)
    (ho : o.op = .indexAddr ty x ix) (hg : guardT all.toList tmMin o.guard = some true) (hx : val tmMin x = some (.own id)) (hb : look hp id = some (.rows el sz n (l.map enc))) (hi : val tmMin ix = some (.t (.v (.int ik i))))
    (hty : look X.tab ty = some ⟨s0, .slice e, z0⟩) (hte : look X.tab e = some te) (hsz : te.size = sz) : StepQ X all o tmMin hp (.pe id i.toNat sz 0) := by
  intro tm hm a w S E hk K Q' hK
  obtain ⟨h0, hl, hlt⟩ := getI_some hy
  have hiv := (hk.val (val_more hm hi)).tv
  obtain ⟨dd, hdd, ho2⟩ := (X.htab ty _ hty).run_under w
  simp only [TD.ok] at ho2
  subst ho2
  have hs := (X.htab e _ hte).run_size w
  have hll : i.toNat < l.length := by omega
  have hxv := hk.val (val_more hm hx)
  generalize hxe : a.eval x = xv at hxv
  cases hxv with
  | own _ _ hE =>
    obtain ⟨hn, ⟨hE', hr⟩ | ⟨β, cap, vs, _, hE', hh, _⟩⟩ := hk.hp id _ hb
    · simp at hr; subst hr; simp at hll
    · subst hsz
      have hpe := RV.pe (w := w) (S := S) (E := E) id i.toNat te.size 0 β (l.map enc).length cap hE'
      rw [hE'] at hE
      subst hE
      have hrun : (execOp a.eval o).run X.P w = .ok (.value (.pointer (some ⟨β, i.toNat * te.size + 0, none⟩))) w := by
        simp only [execOp, ho, Instr.indexAt, hiv, asIntOf, Sem.run_bind, Sem.run_pure, Result.andThen_ok, hdd, hxe]
        have c1 : 0 ≤ i ∧ i < ((l.map enc).length : Int) := ⟨h0, by simpa using hlt⟩
        simp only [Sem.run_bind, Result.andThen_ok, Sem.run_pure, c1, and_self, if_true, hs, addr_add, Nat.zero_add, Nat.add_zero]
      rw [guardT_ok hk (guardT_more hm hg), if_pos rfl]
      unfold Oper.wp
      rw [hrun]
      exact hK _ _ _ _ hk hpe
theorem StepQ.loadY {t id sz off e n : Nat} {i : Int} {ti : TI} {p : Operand} {l : List α} {enc : α → List Tree} {y : α} {r : T} (hy : getI l i = some y)
    (ho : o.op = .load t p) (hg : guardT all.toList tmMin o.guard = some true) (hp1 : val tmMin p = some (.pe id i.toNat sz off)) (hb : look hp id = some (.rows e sz n (l.map enc)))
    (hti : look X.tab t = some ti) (hr : takeT ti.desc.isAgg ti.size ((enc y).map .t) off = some r) : StepQ X all o tmMin hp r := by
  intro tm hm a w S E hk K Q' hK
  obtain ⟨v, h1, h2⟩ := load_own (P := X.P) hk (X.htab t _ hti) hb (hk.val (val_more hm hp1)) (by rw [List.getElem?_map, (getI_some hy).2.1]; rfl) hr
  rw [guardT_ok hk (guardT_more hm hg), if_pos rfl]
  unfold Oper.wp
  have hexec : (execOp a.eval o).run X.P w = .ok (.value v) w := by
    unfold execOp
    simp only [ho, Sem.run_bind, h1, Result.andThen_ok, Sem.run_pure]
  rw [hexec]
  exact hK _ _ _ _ hk h2
end
/-- From here on, whatever order the rest of the region draws, it comes to σ' with what le lists. l: what has come up. -/
def TieA (X : Cx) (ops : Array Oper) (fe : Nat) (le : List Bool) (fuel : Nat) (l : List Bool) (σ σ' : St) : Prop :=
  ∀ (Q : Exit → Act → World → Prop), (∀ c a w, ¬ Q (.panic c) a w) → (∀ a w, Sim X.w0 X.L X.nt σ' a w → wpAny X.P .any ops Q fe le.toArray a w) → ∀ a w, Sim X.w0 X.L X.nt σ a w → wpAny X.P .any ops Q fuel l.toArray a w
/-- Each of these operations may come next. -/
def AllA (X : Cx) (ops : Array Oper) (fe : Nat) (le : List Bool) (fuel : Nat) (l : List Bool) (σ σ' : St) (rs : List Nat) : Prop :=
  ∀ i ∈ rs, ∀ (Q : Exit → Act → World → Prop), (∀ c a w, ¬ Q (.panic c) a w) → (∀ a w, Sim X.w0 X.L X.nt σ' a w → wpAny X.P .any ops Q fe le.toArray a w) → ∀ a w, Sim X.w0 X.L X.nt σ a w → wpOp X.P ops Q i (wpAny X.P .any ops Q fuel (l.toArray.setIfInBounds i true)) a w
section
variable {ρ : Type} {X : Cx} {ks : List K} {ops : Array Oper} {fe fuel : Nat} {le l l' : List Bool} {σ σ₁ σ' : St} {m : Option ρ} {Q : ρ → Exit → St → Prop} {o : Oper}
theorem TieA.done (hs : Sub σ' σ) : TieA X ops fe le fe le σ σ' := fun _ _ hQ a w hw => hQ a w (hw.sub hs)
theorem TieA.all (rs : List Nat) (hr : Region.ready .any ops l.toArray = rs) (hne : rs.isEmpty = false) (h : AllA X ops fe le fuel l σ σ' rs) : TieA X ops fe le (fuel + 1) l σ σ' := fun Q hp hQ a w hw =>
  wpAny_all hr (by rintro rfl; cases hne) fun i hi => h i hi Q hp hQ a w hw
theorem AllA.nil : AllA X ops fe le fuel l σ σ' [] := fun _ h => by cases h
theorem AllA.cons {i : Nat} {rs : List Nat} (l' : List Bool) (ho : ops[i]? = some o) (hl : l.set i true = l') (h₁ : TieO X ops [o] [] σ (some ()) (fun _ e σ'' => e = .normal ∧ Sub σ₁ σ'')) (h₂ : TieA X ops fe le fuel l' σ₁ σ') (h₃ : AllA X ops fe le fuel l σ σ' rs) : AllA X ops fe le fuel l σ σ' (i :: rs) := fun j hj Q hp hQ a w hw => by
  rcases List.mem_cons.1 hj with rfl | hj
  · have h := h₁ () rfl a w hw
    unfold wpOp
    simp only [ho]
    have next : ∀ a w, wpList X.P ops (after X.P [] (X.post fun e σ'' => e = .normal ∧ Sub σ₁ σ'')) [] a w → wpAny X.P .any ops Q fuel (l.toArray.setIfInBounds j true) a w := fun a w ⟨σ'', hs, _, e⟩ => by
      rw [List.setIfInBounds_toArray, hl]
      exact h₂ Q hp hQ a w (hs.sub e)
    unfold wpList at h
    split at h
    · rename_i hg
      rw [if_pos hg]
      rcases h with h | ⟨h1, h2⟩
      · refine .inl ?_
        revert h
        unfold Oper.wp
        generalize (execOp a.eval o).run X.P w = r
        intro h
        cases r with
        | ok n w' =>
          cases n <;> simp only [Oper.upon] at h ⊢
          all_goals first
            | exact next _ _ h
            | exact Calls.mono h (fun e w'' he => by cases e <;> first | exact next _ _ he | (obtain ⟨_, _, _, _, he, _⟩ := he; cases he) | (obtain ⟨_, _, he, _⟩ := he; cases he))
            | exact Rows.mono h (fun _ _ he => next _ _ he)
            | (obtain ⟨_, _, he, _⟩ := h; cases he)
            | exact h
        | halt x w' => cases x <;> simp only [Oper.upon] at h ⊢ <;> first | exact h | (obtain ⟨_, _, he, _⟩ := h; cases he)
      · obtain ⟨_, _, _, _, he, _⟩ := h2; cases he
    · rename_i hg
      rw [if_neg hg]
      exact next _ _ h
  · exact h₃ j hj Q hp hQ a w hw
theorem TieA.move {d : Nat} {x : Operand} {t : T} {tm : List (Nat × T)} {hp : List (Nat × Blk)} (i : Nat) (l' : List Bool) (ho : ops[i]? = some o) (hl : l.set i true = l') (hop : o.op = .move x ∨ o.op = .assign x) (hd : o.dst = some d) (hdn : Nat.blt d X.nt = true) (hg : o.guard = none)
    (hs : Region.noSelect ops = true) (hf : Region.free .any ops l.toArray i = true) (hr : (Region.ready .any ops l.toArray).contains i = true) (hx : val tm x = some t) (h : TieA X ops fe le fuel l' ⟨(d, t) :: tm, hp⟩ σ') :
    TieA X ops fe le (fuel + 1) l ⟨tm, hp⟩ σ' := fun Q hpn hQ a w ⟨S, E, hk⟩ => by
  have hv := hk.val hx
  refine wpAny_take ho hs hf hr (fun c a w hc => absurd hc (hpn _ _ _)) (v := a.eval x) (.inl ⟨?_, fun w' => ?_⟩) ?_
  · unfold Region.wanted; rw [hg]
  · rcases hop with hop | hop <;> (unfold execOp; rw [hop]; rfl)
  · rw [List.setIfInBounds_toArray, hl]
    exact h Q hpn hQ _ _ ⟨S, E, by rw [hd]; exact hk.put (Nat.le_of_ble_eq_true hdn) hv⟩
theorem TieA.take1 {d : Nat} {V : T} {tm : List (Nat × T)} {hp : List (Nat × Blk)} (i : Nat) (l' : List Bool) (ho : ops[i]? = some o) (hl : l.set i true = l') (hd : o.dst = some d) (hdn : Nat.blt d X.nt = true) (hg : o.guard = none)
    (hs : Region.noSelect ops = true) (hf : Region.free .any ops l.toArray i = true) (hr : (Region.ready .any ops l.toArray).contains i = true)
    (hx : ∀ S E a w, Ok X.w0 X.L X.nt ⟨tm, hp⟩ S E a w → ∃ v, (∀ w', (execOp a.eval o).run X.P w' = .ok (.value v) w') ∧ RV w S E v V) (h : TieA X ops fe le fuel l' ⟨(d, V) :: tm, hp⟩ σ') :
    TieA X ops fe le (fuel + 1) l ⟨tm, hp⟩ σ' := fun Q hpn hQ a w ⟨S, E, hk⟩ => by
  obtain ⟨v, hv, hr'⟩ := hx S E a w hk
  refine wpAny_take ho hs hf hr (fun c a w hc => absurd hc (hpn _ _ _)) (v := v) (.inl ⟨?_, hv⟩) ?_
  · unfold Region.wanted; rw [hg]
  · rw [List.setIfInBounds_toArray, hl]
    exact h Q hpn hQ _ _ ⟨S, E, by rw [hd]; exact hk.put (Nat.le_of_ble_eq_true hdn) hr'⟩
/-- A region that draws its order: its first operations come in any order, the rest (from h on) as they stand. -/
theorem TieS.draws {id : Nat} (h : Nat) (l lh : List Bool) (σ₁ : St) (hmx : X.P.follows .mixedOrders = true) (hQ : ∀ r c σ, ¬ Q r (.panic c) σ) (hl : (Array.replicate ops.size false).toList = l) (hle : Nat.ble h ops.size = true)
    (hlh : (List.range ops.size).map (fun j => Nat.blt j h) = lh) (ht : tailOk ops.toList h = true) (h₁ : TieA X ops (ops.size - h) lh ops.size l σ σ₁) (h₂ : TieO X ops (ops.toList.drop h) [] σ₁ m Q) : TieS X [.c (.region id ops true)] σ m Q := fun r hr a w ⟨S, E, hk⟩ => by
  have hle := Nat.le_of_ble_eq_true hle
  have hkeep : Keep X.L.dr (fun _ => False) w { w with drawn := w.drawn + 1 } := ⟨rfl, rfl, rfl, Nat.le_refl _, fun _ _ _ => rfl, fun _ => Nat.le_succ _⟩
  have h3 := h₁ (X.post (Q r)) (fun c a w ⟨σ, _, hq⟩ => hQ r c σ hq) (fun a w hw => by
    refine any_tail ht (ops.size - h) h lh.toArray a w (Nat.le_refl _) (by omega) (by rw [← hlh]; simp) (fun j hj => ?_) (h₂ r hr a w hw)
    rw [← hlh, Array.getD_eq_getD_getElem?]
    simp only [List.getElem?_toArray, List.getElem?_map]
    rw [List.getElem?_range hj]
    simp only [Option.map_some, Option.getD_some]
    rw [Bool.eq_iff_iff, decide_eq_true_iff]
    exact ⟨fun c => Nat.le_of_ble_eq_true c, fun c => Nat.ble_eq_true_of_le c⟩) a _ ⟨S, E, hk.grow hkeep⟩
  rw [← hl, Array.toArray_toList] at h3
  exact wp_region_any (id := id) hmx h3
end
def ltM {α : Type} (g : α → α → Option Int) (x y : α) : Bool := decide ((g x y).getD 0 < 0)
/-- What is asked of a comparison on the elements of l: it answers; less is a strict weak order; it parts whatever two are not one. -/
structure SortOk {α : Type} (g : α → α → Option Int) (l : List α) : Prop where
  len : l.length < 4611686018427387904
  ans : ∀ x ∈ l, ∀ y ∈ l, ∃ c, g x y = some c
  irrefl : ∀ x ∈ l, ltM g x x = false
  trans : ∀ x ∈ l, ∀ y ∈ l, ∀ z ∈ l, ltM g x y = true → ltM g y z = true → ltM g x z = true
  ntrans : ∀ x ∈ l, ∀ y ∈ l, ∀ z ∈ l, ltM g x y = false → ltM g y z = false → ltM g x z = false
  tot : ∀ x ∈ l, ∀ y ∈ l, ltM g x y = false → ltM g y x = false → x = y
open Classical in
/-- slices.SortFunc(l, g): what l holds then. -/
noncomputable def sortM {α : Type} (g : α → α → Option Int) (l : List α) : Option (List α) := if SortOk g l then some (l.mergeSort fun x y => !ltM g y x) else none
theorem sortM_ok {α : Type} {g : α → α → Option Int} {l : List α} (h : SortOk g l) : sortM g l = some (l.mergeSort fun x y => !ltM g y x) := by
  unfold sortM; rw [if_pos h]
end Go.Pv

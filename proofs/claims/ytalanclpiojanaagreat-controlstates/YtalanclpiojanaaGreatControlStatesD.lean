/- This file joins: The value machine, part Xc: rows that are made, copied, cut. The value machine, part Xd: elements of the call's own rows, read and written under names. The value machine, part Xe: names and nil slices in the midst of operations; what is known ahead; regions that draw their order and change rows on the way. Part Xi: what library functions compute, plain. Types and models, printed by gen.py: plain Lean; nothing of the loaded program stands here. -/
import Derived.Test.YtalanclpiojanaaGreatControlStatesC
import Derived.Laws.MakeOwn
import Derived.Orders
import Derived.Lib.BitFns
set_option linter.unusedSimpArgs false
set_option linter.unusedVariables false
namespace Go.Pv
open Go.RowKit
/-- make([]E, n) -/
def makeM {α : Type} (n : Int) (z : α) : Option (List α) := if 0 ≤ n ∧ n ≤ 1073741824 then some (List.replicate n.toNat z) else none
/-- copy(l, r): what l holds then -/
def copyL {α : Type} (l r : List α) : List α := r.take l.length ++ l.drop r.length
section
variable {P : Program} {w0 : World} {L : Lim} {nt : Nat} {tm : List (Nat × T)} {hp : List (Nat × Blk)} {S : Nat → Prop} {E : Nat → Value} {a : Act} {w : World}
theorem Ok.make (h : Ok w0 L nt ⟨tm, hp⟩ S E a w) {id t e n : Nat} {ti : TI} {c : List Tree} (hbig : Nat.blt id big = true) (hf : freshT id tm = true) (hb : freshB id hp = true) (ht : P.underlying t = some (.slice e)) (hte : TIok P e ti) (hz : ti.zero.length = ti.size) (hpos : 0 < ti.size)
    (hc : c = ti.zero.map fun v => nilTree (.v v)) (hmax : n ≤ 1073741824) (kl kc : IntKind) :
    ∃ v' w' E', (Instr.makeSlice t (.int kl n) (.int kc n)).run P w = .ok v' w' ∧ E' id = v' ∧ Ok w0 L nt ⟨tm, (id, .rows e ti.size n (List.replicate n c)) :: hp⟩ S E' a w' := by
  obtain ⟨i, d, hi, hs, _, _, ⟨z, hzz, hzc⟩, hby⟩ := hte
  have hcl : c.length = ti.size := by rw [hc, List.length_map, hz]
  have hbytes : (i.bytes : Int) * (n : Int) ≤ 281474976710656 := by
    have := Nat.mul_le_mul hby hmax
    have h2 : ((i.bytes * n : Nat) : Int) ≤ ((65536 * 1073741824 : Nat) : Int) := by exact_mod_cast this
    rw [Int.natCast_mul] at h2
    omega
  have hr := run_make (P := P) w t e i z ht hi hzz kl kc n n (by omega) (Int.le_refl _) hbytes (by omega)
  simp only [Int.toNat_natCast] at hr
  have hzs : z.cells.size = ti.size := by rw [← hz, ← hzc]; simp
  have hget : ∀ k (hk : k < n * i.size), (madeCells z.cells (n * i.size))[k]'(by rw [size_madeCells]; exact hk) = ti.zero[k % ti.size]'(by rw [hz]; exact Nat.mod_lt _ hpos) := by
    intro k hk
    have hm : k % z.cells.size < z.cells.size := Nat.mod_lt _ (by omega)
    simp only [madeCells, Array.getElem_map, Array.getElem_range]
    rw [getElem!_pos z.cells _ hm]
    have : z.cells[k % z.cells.size] = z.cells.toList[k % z.cells.size]'(by simpa using hm) := by simp
    rw [this]
    simp only [hzc, hzs]
  obtain ⟨E', hE, _, hok⟩ := h.alloc (o := .cells (madeCells z.cells (n * i.size)) e) (x := .slice (some ⟨w.heap.size, 0, none⟩) n n) (b := .rows e ti.size n (List.replicate n c)) hbig hf hb rfl (fun E' hE' => by
    refine ⟨by simp, .inr ⟨w.heap.size, n, (madeCells z.cells (n * i.size)).toList, by unfold maxLen; omega, by simp, by rw [heap_alloc_new], ?_, by simp, ?_, ?_⟩⟩
    · rw [Array.length_toList, size_madeCells, hs]
    · intro r hr; rw [(List.mem_replicate.1 hr).2]; exact hcl
    · intro i' j hi' hj hb'
      have hi2 : i' < n := by simpa using hi'
      simp only [List.getElem_replicate] at hj ⊢
      have hj2 : j < ti.size := by rw [← hcl]; exact hj
      have hlt : i' * ti.size + j < n * i.size := by rw [Array.length_toList, size_madeCells] at hb'; exact hb'
      have e1 : (madeCells z.cells (n * i.size)).toList[i' * ti.size + j] = ti.zero[j]'(by rw [hz]; exact hj2) := by
        rw [Array.getElem_toList, hget _ hlt]
        have : (i' * ti.size + j) % ti.size = j := by rw [Nat.mul_comm, Nat.mul_add_mod, Nat.mod_eq_of_lt hj2]
        simp only [this]
      rw [e1]
      have e2 : c[j] = nilTree (.v (ti.zero[j]'(by rw [hz]; exact hj2))) := by subst hc; simp
      rw [e2]
      exact nilTree_ok (.v _))
  exact ⟨_, _, E', hr, hE, hok⟩
theorem Ok.copy (h : Ok w0 L nt ⟨tm, hp⟩ S E a w) {id e e' n m t t2 ty : Nat} {ti : TI} {x : Value} {rs r2 : List (List Tree)} (hb : look hp id = some (.rows e ti.size n rs)) (ht : P.underlying t = some (.slice e')) (hte : TIok P e' ti)
    (hx : Src w S x m ti.size r2) (h2 : ∀ r ∈ r2, r.length = ti.size) :
    ∃ w', (Builtin.copy_ #[t, t2] ty #[E id, x]).run P w = .ok (.int .i64 (min m n : Nat)) w' ∧ Ok w0 L nt ⟨tm, hput hp id (.rows e ti.size n (copyL rs r2))⟩ S E a w' := by
  obtain ⟨hm, ad, c, rfl, hsrc⟩ := hx
  obtain ⟨hn, hrow⟩ := h.hp id _ hb
  obtain ⟨i, d, hi, hs, _⟩ := hte
  have hcl : (copyL rs r2).length = rs.length := by simp [copyL]; omega
  rcases hrow with ⟨hE, hr0⟩ | ⟨β, cap, cs, hcm, hE, hh, hcl2, hcc, hsz, hcr⟩
  · subst hr0
    simp only [List.length_nil] at hn
    subst hn
    have hf : (Builtin.firstCells i.size 0 (.slice ad m c)).run P w = .ok #[] w := by cases ad <;> simp [Builtin.firstCells, loadCells, loadCellsFrom]
    have hmin : min m 0 = 0 := by omega
    refine ⟨w, ?_, ?_⟩
    · rw [hE]
      simp [Builtin.copy_, run_underlying ht, Builtin.lenOf, sizeOf, typeInfo, hi, hf, goInt]
    · refine { h with
        hp := fun k b hk => ?_
        own := fun k b β hk hβ => by
          simp only at hk
          rw [look_hput] at hk
          by_cases e : id = k
          · subst e; simp only [hE, blkOf] at hβ; cases hβ
          · simp only [e, if_false] at hk; exact h.own k b β hk hβ
        dist := fun k k' b b' β hk hk' hβ hβ' => by
          simp only at hk hk'
          rw [look_hput] at hk hk'
          by_cases e : id = k
          · subst e; simp only [hE, blkOf] at hβ; cases hβ
          · by_cases e2 : id = k'
            · subst e2; simp only [hE, blkOf] at hβ'; cases hβ'
            · simp only [e, e2, if_false] at hk hk'; exact h.dist k k' b b' β hk hk' hβ hβ' }
      simp only at hk
      rw [look_hput] at hk
      by_cases e : id = k
      · subst e
        simp only [if_true, hb, Option.map_some, Option.some.injEq] at hk
        subst hk
        exact ⟨by simp [copyL], .inl ⟨hE, by simp [copyL]⟩⟩
      · simp only [e, if_false] at hk; exact h.hp k b hk
  · subst hn
    let q := min m rs.length
    have hq : q = min m rs.length := rfl
    -- the cells that are copied
    have hnews : ∃ news : List Value, news.length = q * ti.size ∧ (Builtin.firstCells i.size q (.slice ad m c)).run P w = .ok news.toArray w ∧ (∀ u ∈ news, u.oneCell' = true) ∧
        ∀ i j (hi : i < q) (hj : j < ti.size), ∃ (h1 : i * ti.size + j < news.length) (h2 : i < r2.length) (h3 : j < (r2[i]).length), RT w S (news[i * ti.size + j]) ((r2[i])[j]) := by
      by_cases h0 : 0 < m
      · obtain ⟨y, all, rfl, hal, hac, hone, har⟩ := hsrc h0
        have hqm : q * ti.size ≤ m * ti.size := Nat.mul_le_mul_right _ (by omega)
        refine ⟨all.take (q * ti.size), by rw [List.length_take, hal]; omega, ?_, fun u hu => hone u (List.mem_of_mem_take hu), fun i' j hi' hj => ?_⟩
        · have := run_loadCells_list (P := P) w y (all.take (q * ti.size)) (fun j u hu => by
            rw [List.getElem?_take] at hu
            split at hu
            · exact hac j u hu
            · cases hu)
          rw [List.length_take, hal, Nat.min_eq_left hqm] at this
          simp [Builtin.firstCells, hs, this]
        · have hi2 : i' < r2.length := by omega
          have hrl := h2 _ (List.getElem_mem hi2)
          have hle : (i' + 1) * ti.size ≤ q * ti.size := Nat.mul_le_mul_right _ hi'
          rw [Nat.succ_mul] at hle
          refine ⟨by rw [List.length_take, hal]; omega, hi2, by rw [hrl]; exact hj, ?_⟩
          rw [List.getElem_take]
          exact har i' j hi2 (by rw [hrl]; exact hj) (by rw [hal]; omega)
      · have hm0 : m = 0 := by omega
        have hq0 : q = 0 := by omega
        refine ⟨[], by rw [hq0]; simp, ?_, fun u hu => by simp at hu, fun i' j hi' _ => by omega⟩
        rw [hq0]
        cases ad <;> simp [Builtin.firstCells, loadCells, loadCellsFrom]
    obtain ⟨news, hnl, hload, hone, hnr⟩ := hnews
    have hqr : q * ti.size ≤ cap * ti.size := Nat.mul_le_mul_right _ (by omega)
    have hst := run_storeCells_at (P := P) β 0 e news 0 cs.toArray w hh (by simp; rw [hnl, hcl2]; exact hqr) hone
    have hrun : (Builtin.copy_ #[t, t2] ty #[E id, .slice ad m c]).run P w = .ok (.int .i64 (q : Nat)) (w.setRow β (news ++ cs.drop news.length).toArray) := by
      rw [hE]
      have : Nat.min m rs.length = q := rfl
      have hst' : (storeCells ⟨β, 0, none⟩ news).run P w = .ok () (w.setRow β (news ++ cs.drop news.length).toArray) := by simpa using hst
      simp [Builtin.copy_, run_underlying ht, Builtin.lenOf, sizeOf, typeInfo, hi, this, hload, goInt, hst']
    refine ⟨_, hrun, h.setRow hb (by rw [hE]; rfl) hh fun hS hnew => ⟨by rw [hcl], .inr ⟨β, cap, news ++ cs.drop news.length, hcm, by rw [hcl]; exact hE, hnew, by simp; omega, by rw [hcl]; exact hcc, ?_, ?_⟩⟩⟩
    · intro r hr
      unfold copyL at hr
      rcases List.mem_append.1 hr with hr | hr
      · exact h2 r (List.mem_of_mem_take hr)
      · exact hsz r (List.mem_of_mem_drop hr)
    · intro i' j hi' hj hb'
      have hi2 : i' < rs.length := by rw [← hcl]; exact hi'
      by_cases hiq : i' < q
      · have hi3 : i' < r2.length := by omega
        have e1 : (copyL rs r2)[i'] = r2[i'] := by
          apply Option.some.inj
          rw [← List.getElem?_eq_getElem, ← List.getElem?_eq_getElem]
          unfold copyL
          rw [List.getElem?_append_left (by rw [List.length_take]; omega), List.getElem?_take, if_pos hi2]
        have hj2 : j < ti.size := by have := h2 _ (List.getElem_mem hi3); rw [← this]; rw [e1] at hj; exact hj
        obtain ⟨h5, _, h6, h7⟩ := hnr i' j hiq hj2
        simp only [e1]
        rw [List.getElem_append_left h5]
        exact h7.mono (fun _ x => x) hS
      · have hm' : m ≤ i' := by omega
        have e1 : (copyL rs r2)[i'] = rs[i'] := by
          apply Option.some.inj
          rw [← List.getElem?_eq_getElem, ← List.getElem?_eq_getElem]
          unfold copyL
          rw [List.getElem?_append_right (by rw [List.length_take]; omega), List.length_take, List.getElem?_drop]
          congr 1
          omega
        have hj1 : j < (rs[i']).length := by rw [e1] at hj; exact hj
        have hle : q * ti.size ≤ i' * ti.size := Nat.mul_le_mul_right _ (by omega)
        have hb2 : i' * ti.size + j < cs.length := by simp only [List.length_append, List.length_drop] at hb'; omega
        have e2 : (news ++ cs.drop news.length)[i' * ti.size + j] = cs[i' * ti.size + j] := by
          apply Option.some.inj
          rw [← List.getElem?_eq_getElem, ← List.getElem?_eq_getElem, List.getElem?_append_right (by omega), List.getElem?_drop]
          congr 1
          omega
        simp only [e1]
        rw [e2]
        exact (hcr i' j hi2 hj1 hb2).mono (fun _ x => x) hS
end
def optI (tm : List (Nat × T)) (d : Int) : Option Operand → Option Int
  | none => some d
  | some o => match val tm o with | some (.t (.v (.int _ i))) => some i | _ => none
section
variable {ρ α : Type} {X : Cx} {ks : List K} {tm tm' : List (Nat × T)} {hp hp' : List (Nat × Blk)} {m : Option ρ} {Q : ρ → Exit → St → Prop} {all : Array Oper} {o : Oper} {rest : List Oper}
theorem TieO.makeO {t e d s0 : Nat} {z0 : List Value} {te : TI} {x : Operand} {ik : IntKind} {n : Int} {enc : α → List Tree} {k : List α → Option ρ} (id : Nat) (z : α)
    (ho : o.op = .makeSlice t x x) (hd : o.dst = some d) (hdn : Nat.blt d X.nt = true) (hg : guardT all.toList tm o.guard = some true) (hx : val tm x = some (.t (.v (.int ik n))))
    (hty : look X.tab t = some ⟨s0, .slice e, z0⟩) (hte : look X.tab e = some te) (hz : te.zero.length = te.size) (hpos : Nat.blt 0 te.size = true) (henc : enc z = te.zero.map fun v => nilTree (.v v)) (hbig : Nat.blt id big = true) (hft : freshT id tm = true) (hfb : freshB id hp = true)
    (h : ∀ y, makeM n z = some y → TieO X all rest ks ⟨(d, .own id) :: tm, (id, .rows e te.size y.length (y.map enc)) :: hp⟩ (k y) Q) :
    TieO X all (o :: rest) ks ⟨tm, hp⟩ ((makeM n z).bind k) Q := fun y hy a w ⟨S, E, hk⟩ => by
  cases hmk : makeM n z with
  | none => simp [hmk] at hy
  | some l =>
    have h0 := hmk
    unfold makeM at h0
    split at h0 <;> try (cases h0; done)
    rename_i hn
    simp only [Option.some.injEq] at h0
    simp only [hmk, Option.bind_some] at hy
    obtain ⟨dd, hu, ho2⟩ : ∃ d, X.P.underlying t = some d ∧ TD.ok X.P (.slice e) d := by
      obtain ⟨i, d, _, _, hu, hdd, _⟩ := X.htab t _ hty
      exact ⟨d, hu, hdd⟩
    simp only [TD.ok] at ho2
    subst ho2
    obtain ⟨j, rfl⟩ : ∃ j : Nat, n = (j : Int) := ⟨n.toNat, by omega⟩
    simp only [Int.toNat_natCast] at h0
    obtain ⟨v', w', E', hr, hE, hok⟩ := hk.make (P := X.P) (n := j) (c := enc z) hbig hft hfb hu (X.htab e _ hte) hz (Nat.le_of_ble_eq_true hpos) henc (by omega) ik ik
    refine wpList_step fun K hK => ?_
    rw [guardT_ok hk hg, if_pos rfl]
    unfold Oper.wp
    have hexec : (execOp a.eval o).run X.P w = .ok (.value v') w' := by
      unfold execOp
      simp only [ho, (hk.val hx).tv, Sem.run_bind, hr, Result.andThen_ok, Sem.run_pure]
    rw [hexec]
    refine hK _ _ (h l hmk y hy _ _ ⟨S, E', ?_⟩)
    rw [hd]
    have e1 : l.map enc = List.replicate j (enc z) := by rw [← h0]; simp
    have e2 : l.length = j := by rw [← h0]; simp
    rw [e1, e2]
    exact hok.put (Nat.le_of_ble_eq_true hdn) (.own id _ hE)
theorem TieO.copyO {t t2 e e' e2 n m2 s0 id : Nat} {z0 : List Value} {te : TI} {s x : Operand} {l r : List α} {enc : α → List Tree} {σ₁ : St}
    (ho : o.op = .call ⟨.builtin .copy, #[s, x], #[t, t2]⟩) (hg : guardT all.toList tm o.guard = some true)
    (hty : look X.tab t = some ⟨s0, .slice e', z0⟩) (hte : look X.tab e' = some te) (henc : ∀ y, (enc y).length = te.size) (hone : ∀ y, (enc y).all oneTree = true)
    (hs : val tm s = some (.own id)) (hb : look hp id = some (.rows e te.size n (l.map enc)))
    (hx : val tm x = some (.t (.sl m2 (r.map enc))) ∨ ∃ i2, val tm x = some (.own i2) ∧ look hp i2 = some (.rows e2 te.size m2 (r.map enc)))
    (hput : putT X.nt o.dst (.t (.v (.int .i64 (min r.length l.length : Nat)))) ⟨tm, hput hp id (.rows e te.size (copyL l r).length ((copyL l r).map enc))⟩ = some σ₁)
    (h : TieO X all rest ks σ₁ m Q) : TieO X all (o :: rest) ks ⟨tm, hp⟩ m Q := fun y hy a w ⟨S, E, hk⟩ => by
  obtain ⟨dd, hu, ho2⟩ : ∃ d, X.P.underlying t = some d ∧ TD.ok X.P (.slice e') d := by
    obtain ⟨i, d, _, _, hu, hdd, _⟩ := X.htab t _ hty
    exact ⟨d, hu, hdd⟩
  simp only [TD.ok] at ho2
  subst ho2
  have hsrc : Src w S (a.eval x) r.length te.size (r.map enc) := by
    rcases hx with hx | ⟨i2, hx, hb2⟩
    · have hv := hk.val hx
      generalize a.eval x = xv at hv
      cases hv with
      | t hv =>
        have := rows_cells hv (all_len henc r) (all_one hone r)
        have hm : m2 = r.length := by simpa using this.1
        subst hm
        exact ⟨by simp, this.2⟩
    · have hv := hk.val hx
      have hb := hk.hp i2 _ hb2
      generalize a.eval x = xv at hv
      cases hv with
      | own _ _ hE =>
        subst hE
        have := src_blk hb (all_one hone r)
        have hm : m2 = r.length := by simpa using this.1
        subst hm
        exact this
  have hn : n = l.length := by have := (hk.hp id _ hb).1; simpa using this
  have hsv : a.eval s = E id := by
    have hv := hk.val hs
    generalize a.eval s = sv at hv
    cases hv with | own _ _ hE => exact hE.symm
  obtain ⟨w', hr, hok⟩ := hk.copy (P := X.P) (ty := o.type) (t2 := t2) hb hu (X.htab e' _ hte) hsrc (all_len henc r)
  refine wpList_step fun K hK => ?_
  rw [guardT_ok hk hg, if_pos rfl]
  unfold Oper.wp
  have hexec : (execOp a.eval o).run X.P w = .ok (.value (.int .i64 (min r.length n : Nat))) w' := by
    unfold execOp
    simp only [ho, resolve, invoke, builtin, Sem.run_bind, Sem.run_pure, Result.andThen_ok, List.map_toArray, List.map_cons, List.map_nil, hsv, hr]
  rw [hexec]
  refine hK _ _ (h y hy _ _ ⟨S, E, ?_⟩)
  have hcl : (copyL l r).length = l.length := by simp [copyL]; omega
  have e1 : copyL (l.map enc) (r.map enc) = (copyL l r).map enc := by simp [copyL, List.map_take, List.map_drop]
  rw [e1] at hok
  rw [hcl, ← hn] at hput
  exact putT_ok hok (.t (.v _)) hput
theorem run_bounds {P : Program} {w : World} {lo hi : Option Value} {n c : Nat} {l h : Int} (hl : (lo = none ∧ l = 0) ∨ ∃ k, lo = some (.int k l)) (hh : (hi = none ∧ h = n) ∨ ∃ k, hi = some (.int k h)) (h0 : 0 ≤ l) (h1 : l ≤ h) (h2 : h ≤ c) :
    (Instr.sliceBounds true n c lo hi none).run P w = .ok (l.toNat, h.toNat, c) w := by
  have eh : (h.toNat : Int) = h := Int.toNat_of_nonneg (by omega)
  rcases hl with ⟨rfl, rfl⟩ | ⟨k, rfl⟩ <;> rcases hh with ⟨rfl, rfl⟩ | ⟨k', rfl⟩
  · simp [Instr.sliceBounds]
  · simp [Instr.sliceBounds, run_sliceBound, h1, h2]
  · simp [Instr.sliceBounds, run_sliceBound, h0, h1]
  · simp [Instr.sliceBounds, run_sliceBound, h0, h1, h2, eh, (by omega : 0 ≤ h)]
theorem optI_run {w0 : World} {L : Lim} {nt : Nat} {S : Nat → Prop} {E : Nat → Value} {a : Act} {w : World} (hk : Ok w0 L nt ⟨tm, hp⟩ S E a w) {x : Option Operand} {d i : Int} (h : optI tm d x = some i) : (x.map a.eval = none ∧ i = d) ∨ ∃ k, x.map a.eval = some (.int k i) := by
  cases x with
  | none => simp only [optI, Option.some.injEq] at h; exact .inl ⟨rfl, h.symm⟩
  | some x =>
    simp only [optI] at h
    split at h <;> try (cases h; done)
    rename_i k i' hv
    simp only [Option.some.injEq] at h
    subst h
    exact .inr ⟨k, by simp [(hk.val hv).tv]⟩
end
end Go.Pv
namespace Go.Pv
open Go.RowKit
section
variable {ρ α : Type} {X : Cx} {ks : List K} {tm : List (Nat × T)} {hp : List (Nat × Blk)} {m : Option ρ} {Q : ρ → Exit → St → Prop} {all : Array Oper} {o : Oper} {rest : List Oper}
end
end Go.Pv
namespace Go.Pv
open Go.RowKit Go.WideShapes Go.ChangeShapes
section
variable {ρ τ : Type} {X : Cx} {ks : List K} {tm tm' : List (Nat × T)} {hp hp' : List (Nat × Blk)} {m : Option ρ} {Q : ρ → Exit → St → Prop} {all : Array Oper} {ops : List Oper}
/-- What holds of every state that says no more holds here: the rules between statements, in the midst of operations. -/
theorem TieO.via {σ σ' : St} (h : ∀ {ρ : Type} {m : Option ρ} {Q : ρ → Exit → St → Prop} {e : Exit}, TieX X [] e σ' m Q → TieX X [] e σ m Q) (k : TieO X all ops ks σ' m Q) : TieO X all ops ks σ m Q := fun r hr a w hw => by
  have := h (ρ := Unit) (m := some ()) (e := .normal) (Q := fun _ _ σ'' => σ'' = σ') (fun r _ a w hw => ⟨σ', hw, rfl⟩) () rfl a w hw
  obtain ⟨σ'', hs, rfl⟩ := this
  exact k r hr a w hs
theorem TieO.nilP (k id e sz : Nat) (path : List Nat) {t u : T} (hk : look tm k = some t) (hu : setNil id path t = some u) (hbig : Nat.blt id big = true) (hft : freshT id tm = true) (hfb : freshB id hp = true)
    (h : TieO X all ops ks ⟨(k, u) :: tm, (id, .rows e sz 0 []) :: hp⟩ m Q) : TieO X all ops ks ⟨tm, hp⟩ m Q := TieO.via (fun x => TieX.nilP k id e sz path hk hu hbig hft hfb x) h
theorem TieO.nilB (b id e sz : Nat) (path : List Nat) {ts us : List T} (hk : look hp b = some (.box ts)) (hu : setNil id path (.agg ts) = some (.agg us)) (hbig : Nat.blt id big = true) (hft : freshT id tm = true) (hfb : freshB id hp = true)
    (h : TieO X all ops ks ⟨tm, (id, .rows e sz 0 []) :: hput hp b (.box us)⟩ m Q) : TieO X all ops ks ⟨tm, hp⟩ m Q := TieO.via (fun x => TieX.nilB b id e sz path hk hu hbig hft hfb x) h
theorem TieO.pre {σ : St} {m₁ : Option τ} {k : τ → Option ρ} (h : ∀ y, m₁ = some y → TieO X all ops ks σ (k y) Q) : TieO X all ops ks σ (m₁.bind k) Q := fun r hr a w hw => by
  cases hm : m₁ with
  | none => simp [hm] at hr
  | some y => exact h y hm r (by simpa [hm] using hr) a w hw
open Classical in
/-- What is known to be there need not be asked for. -/
theorem TieO.withH {σ : St} {m₁ : Option τ} {t : τ} (hm : m₁ = some t) (h : TieO X all ops ks σ (m₁.bind fun t' => if t' = t then m else none) Q) : TieO X all ops ks σ m Q := by
  subst hm; simpa using h
open Classical in
theorem TieO.ifH {σ₂ : τ → St} {t : τ} (h : TieO X all ops ks (σ₂ t) m Q) : ∀ t', TieO X all ops ks (σ₂ t') (if t' = t then m else none) Q := fun t' => by
  by_cases e : t' = t
  · subst e; simpa using h
  · simp only [e, if_false]; exact TieO.fail
open Classical in
theorem TieO.ifG {σ₂ : τ → St} {t : τ} {m₁ : Option τ} (h : TieO X all ops ks (σ₂ t) m Q) : ∀ t', m₁ = some t' → TieO X all ops ks (σ₂ t') (if t' = t then m else none) Q := fun t' _ => TieO.ifH h t'
end
section
variable {ρ τ : Type} {X : Cx} {ks : List K} {σ : St} {tm : List (Nat × T)} {hp : List (Nat × Blk)} {m m' : Option ρ} {Q : ρ → Exit → St → Prop} {all : Array Oper} {rest : List Oper} {o : Oper}
theorem TieX.model {e : Exit} (h : m = m') (k : TieX X ks e σ m' Q) : TieX X ks e σ m Q := h ▸ k
end
section
variable {τ α : Type} {X : Cx} {tmMin : List (Nat × T)} {hp : List (Nat × Blk)} {all : Array Oper} {o : Oper}
end
/-- From here on, whatever order the rest of the region draws, it comes to σ' with what le lists. l: what has come up. -/
def TieA (X : Cx) (ops : Array Oper) (fe : Nat) (le : List Bool) (fuel : Nat) (l : List Bool) (σ σ' : St) : Prop :=
  ∀ (Q : Exit → Act → World → Prop), (∀ c a w, ¬ Q (.panic c) a w) → (∀ a w, Sim X.w0 X.L X.nt σ' a w → wpAny X.P .any ops Q fe le.toArray a w) → ∀ a w, Sim X.w0 X.L X.nt σ a w → wpAny X.P .any ops Q fuel l.toArray a w
/-- Each of these operations may come next. -/
def AllA (X : Cx) (ops : Array Oper) (fe : Nat) (le : List Bool) (fuel : Nat) (l : List Bool) (σ σ' : St) (rs : List Nat) : Prop :=
  ∀ i ∈ rs, ∀ (Q : Exit → Act → World → Prop), (∀ c a w, ¬ Q (.panic c) a w) → (∀ a w, Sim X.w0 X.L X.nt σ' a w → wpAny X.P .any ops Q fe le.toArray a w) → ∀ a w, Sim X.w0 X.L X.nt σ a w → wpOp X.P ops Q i (wpAny X.P .any ops Q fuel (l.toArray.setIfInBounds i true)) a w
section
variable {ρ : Type} {X : Cx} {ks : List K} {ops : Array Oper} {fe fuel : Nat} {le l l' : List Bool} {σ σ₁ σ' : St} {m : Option ρ} {Q : ρ → Exit → St → Prop} {o : Oper}
theorem TieA.have_ {fuel₁ : Nat} {l₁ : List Bool} (h : TieA X ops fe le fuel₁ l₁ σ₁ σ') (k : TieA X ops fe le fuel₁ l₁ σ₁ σ' → TieA X ops fe le fuel l σ σ') : TieA X ops fe le fuel l σ σ' := k h
theorem TieA.done (hs : Sub σ' σ) : TieA X ops fe le fe le σ σ' := fun _ _ hQ a w hw => hQ a w (hw.sub hs)
theorem TieA.all (rs : List Nat) (hr : Region.ready .any ops l.toArray = rs) (hne : rs.isEmpty = false) (h : AllA X ops fe le fuel l σ σ' rs) : TieA X ops fe le (fuel + 1) l σ σ' := fun Q hp hQ a w hw =>
  wpAny_all hr (by rintro rfl; cases hne) fun i hi => h i hi Q hp hQ a w hw
theorem AllA.nil : AllA X ops fe le fuel l σ σ' [] := fun _ h => by cases h
theorem AllA.cons {i : Nat} {rs : List Nat} (l' : List Bool) (ho : ops[i]? = some o) (hl : l.set i true = l') (h₁ : TieO X ops [o] [] σ (some ()) (fun _ e σ'' => e = .normal ∧ Sub σ₁ σ'')) (h₂ : TieA X ops fe le fuel l' σ₁ σ') (h₃ : AllA X ops fe le fuel l σ σ' rs) : AllA X ops fe le fuel l σ σ' (i :: rs) := fun j hj Q hp hQ a w hw => by
  rcases List.mem_cons.1 hj with rfl | hj
  · have h := h₁ () rfl a w hw
    unfold wpOp
    simp only [ho]
    have next : ∀ a w, wpList X.P ops (after X.P [] (X.post fun e σ'' => e = .normal ∧ Sub σ₁ σ'')) [] a w → wpAny X.P .any ops Q fuel (l.toArray.setIfInBounds j true) a w := fun a w ⟨σ'', hs, _, e⟩ => by
      rw [List.setIfInBounds_toArray, hl]
      exact h₂ Q hp hQ a w (hs.sub e)
    unfold wpList at h
    split at h
    · rename_i hg
      rw [if_pos hg]
      rcases h with h | ⟨h1, h2⟩
      · refine .inl ?_
        revert h
        unfold Oper.wp
        generalize (execOp a.eval o).run X.P w = r
        intro h
        cases r with
        | ok n w' =>
          cases n <;> simp only [Oper.upon] at h ⊢
          all_goals first
            | exact next _ _ h
            | exact Calls.mono h (fun e w'' he => by cases e <;> first | exact next _ _ he | (obtain ⟨_, _, _, _, he, _⟩ := he; cases he) | (obtain ⟨_, _, he, _⟩ := he; cases he))
            | exact Rows.mono h (fun _ _ he => next _ _ he)
            | (obtain ⟨_, _, he, _⟩ := h; cases he)
            | exact h
        | halt x w' => cases x <;> simp only [Oper.upon] at h ⊢ <;> first | exact h | (obtain ⟨_, _, he, _⟩ := h; cases he)
      · obtain ⟨_, _, _, _, he, _⟩ := h2; cases he
    · rename_i hg
      rw [if_neg hg]
      exact next _ _ h
  · exact h₃ j hj Q hp hQ a w hw
theorem TieA.move {d : Nat} {x : Operand} {t : T} {tm : List (Nat × T)} {hp : List (Nat × Blk)} (i : Nat) (l' : List Bool) (ho : ops[i]? = some o) (hl : l.set i true = l') (hop : o.op = .move x ∨ o.op = .assign x) (hd : o.dst = some d) (hdn : Nat.blt d X.nt = true) (hg : o.guard = none)
    (hs : Region.noSelect ops = true) (hf : Region.free .any ops l.toArray i = true) (hr : (Region.ready .any ops l.toArray).contains i = true) (hx : val tm x = some t) (h : TieA X ops fe le fuel l' ⟨(d, t) :: tm, hp⟩ σ') :
    TieA X ops fe le (fuel + 1) l ⟨tm, hp⟩ σ' := fun Q hpn hQ a w ⟨S, E, hk⟩ => by
  have hv := hk.val hx
  refine wpAny_take ho hs hf hr (fun c a w hc => absurd hc (hpn _ _ _)) (v := a.eval x) (.inl ⟨?_, fun w' => ?_⟩) ?_
  · unfold Region.wanted; rw [hg]
  · rcases hop with hop | hop <;> (unfold execOp; rw [hop]; rfl)
  · rw [List.setIfInBounds_toArray, hl]
    exact h Q hpn hQ _ _ ⟨S, E, by rw [hd]; exact hk.put (Nat.le_of_ble_eq_true hdn) hv⟩
theorem TieA.take1 {d : Nat} {V : T} {tm : List (Nat × T)} {hp : List (Nat × Blk)} (i : Nat) (l' : List Bool) (ho : ops[i]? = some o) (hl : l.set i true = l') (hd : o.dst = some d) (hdn : Nat.blt d X.nt = true) (hg : o.guard = none)
    (hs : Region.noSelect ops = true) (hf : Region.free .any ops l.toArray i = true) (hr : (Region.ready .any ops l.toArray).contains i = true)
    (hx : ∀ S E a w, Ok X.w0 X.L X.nt ⟨tm, hp⟩ S E a w → ∃ v, (∀ w', (execOp a.eval o).run X.P w' = .ok (.value v) w') ∧ RV w S E v V) (h : TieA X ops fe le fuel l' ⟨(d, V) :: tm, hp⟩ σ') :
    TieA X ops fe le (fuel + 1) l ⟨tm, hp⟩ σ' := fun Q hpn hQ a w ⟨S, E, hk⟩ => by
  obtain ⟨v, hv, hr'⟩ := hx S E a w hk
  refine wpAny_take ho hs hf hr (fun c a w hc => absurd hc (hpn _ _ _)) (v := v) (.inl ⟨?_, hv⟩) ?_
  · unfold Region.wanted; rw [hg]
  · rw [List.setIfInBounds_toArray, hl]
    exact h Q hpn hQ _ _ ⟨S, E, by rw [hd]; exact hk.put (Nat.le_of_ble_eq_true hdn) hr'⟩
/-- A region that draws its order: its first operations come in any order, the rest (from h on) as they stand. -/
theorem TieS.draws {id : Nat} (h : Nat) (l lh : List Bool) (σ₁ : St) (hmx : X.P.follows .mixedOrders = true) (hQ : ∀ r c σ, ¬ Q r (.panic c) σ) (hl : (Array.replicate ops.size false).toList = l) (hle : Nat.ble h ops.size = true)
    (hlh : (List.range ops.size).map (fun j => Nat.blt j h) = lh) (ht : tailOk ops.toList h = true) (h₁ : TieA X ops (ops.size - h) lh ops.size l σ σ₁) (h₂ : TieO X ops (ops.toList.drop h) [] σ₁ m Q) : TieS X [.c (.region id ops true)] σ m Q := fun r hr a w ⟨S, E, hk⟩ => by
  have hle := Nat.le_of_ble_eq_true hle
  have hkeep : Keep (fun _ => False) w { w with drawn := w.drawn + 1 } := ⟨rfl, rfl, rfl, Nat.le_refl _, fun _ _ _ => rfl, Nat.le_succ _⟩
  have h3 := h₁ (X.post (Q r)) (fun c a w ⟨σ, _, hq⟩ => hQ r c σ hq) (fun a w hw => by
    refine any_tail ht (ops.size - h) h lh.toArray a w (Nat.le_refl _) (by omega) (by rw [← hlh]; simp) (fun j hj => ?_) (h₂ r hr a w hw)
    rw [← hlh, Array.getD_eq_getD_getElem?]
    simp only [List.getElem?_toArray, List.getElem?_map]
    rw [List.getElem?_range hj]
    simp only [Option.map_some, Option.getD_some]
    rw [Bool.eq_iff_iff, decide_eq_true_iff]
    exact ⟨fun c => Nat.le_of_ble_eq_true c, fun c => Nat.ble_eq_true_of_le c⟩) a _ ⟨S, E, hk.grow hkeep⟩
  rw [← hl, Array.toArray_toList] at h3
  exact wp_region_any (id := id) hmx h3
end
def ltM {α : Type} (g : α → α → Option Int) (x y : α) : Bool := decide ((g x y).getD 0 < 0)
end Go.Pv
namespace Go.Pv
def bitShl (k : IntKind) (x y : Int) : Int := k.wrap (x * 2 ^ (min y.toNat k.bits))
def bitShr (k : IntKind) (x y : Int) : Int := x.fdiv (2 ^ (min y.toNat k.bits))
/-- A list with other elements at some places. -/
abbrev lset {α : Type} (l : List α) (m : List (Nat × α)) : List α := m.foldl (fun l p => l.set p.1 p.2) l
/-- parts of rows: in bounds? -/
def chkM (lo hi : Int) (n : Nat) : Option Unit := if 0 ≤ lo ∧ lo ≤ hi ∧ hi ≤ n then some () else none
/-- A list with other elements from a place on. -/
def copyAt {α : Type} (l : List α) (lo : Nat) (r : List α) : List α := l.take lo ++ r ++ l.drop (lo + r.length)
abbrev copyVM {α : Type} (l : List α) (lo hi lo2 hi2 : Int) : List α := copyAt l lo.toNat (((l.drop lo2.toNat).take (hi2.toNat - lo2.toNat)).take (hi.toNat - lo.toNat))
/-- shifts by what may be negative; math/bits -/
def shlM (k : IntKind) (x y : Int) : Option Int := if y < 0 then none else some (bitShl k x y)
def shrM (k : IntKind) (x y : Int) : Option Int := if y < 0 then none else some (bitShr k x y)
def mul64M (x y : Int) : Option (Int × Int) := if (0 ≤ x ∧ x ≤ 18446744073709551615) ∧ (0 ≤ y ∧ y ≤ 18446744073709551615) then some (x * y / 18446744073709551616, x * y % 18446744073709551616) else none
end Go.Pv
namespace Go.Pv
open Go
def enc_u32 (n : Int) : List Tree := [tK .u32 n]
def enc_u64 (n : Int) : List Tree := [tK .u64 n]
@[ext] structure SMap where
  X : List Int
  Y : List Int
  Z : List (List Int)
def enc_SMap (x : SMap) : List Tree := [tS Pv.encI x.X, tS Pv.encI x.Y, tS (Pv.encS Pv.encI) x.Z]
abbrev A_SMap (x : SMap) : T := .agg [.t (tS Pv.encI x.X), .t (tS Pv.encI x.Y), .t (tS (Pv.encS Pv.encI) x.Z)]
@[ext] structure SCurve where
  X : List Int
  Y : List Int
def enc_SCurve (x : SCurve) : List Tree := [tS Pv.encI x.X, tS Pv.encI x.Y]
abbrev A_SCurve (x : SCurve) : T := .agg [.t (tS Pv.encI x.X), .t (tS Pv.encI x.Y)]
@[ext] structure SGain where
  P : Int
  I : Int
  Low : Int
  High : Int
def enc_SGain (x : SGain) : List Tree := [tI x.P, tI x.I, tI x.Low, tI x.High]
abbrev A_SGain (x : SGain) : T := .agg [.t (tI x.P), .t (tI x.I), .t (tI x.Low), .t (tI x.High)]
@[ext] structure STables where
  Air : SMap
  Spark : SMap
  Torque : SMap
  Wish : SMap
  AirTemp : SCurve
  Dwell : SCurve
  Dead : SCurve
  Efficiency : SCurve
  Idle : SGain
def enc_STables (x : STables) : List Tree := [tS Pv.encI x.Air.X, tS Pv.encI x.Air.Y, tS (Pv.encS Pv.encI) x.Air.Z, tS Pv.encI x.Spark.X, tS Pv.encI x.Spark.Y, tS (Pv.encS Pv.encI) x.Spark.Z, tS Pv.encI x.Torque.X, tS Pv.encI x.Torque.Y, tS (Pv.encS Pv.encI) x.Torque.Z, tS Pv.encI x.Wish.X, tS Pv.encI x.Wish.Y, tS (Pv.encS Pv.encI) x.Wish.Z, tS Pv.encI x.AirTemp.X, tS Pv.encI x.AirTemp.Y, tS Pv.encI x.Dwell.X, tS Pv.encI x.Dwell.Y, tS Pv.encI x.Dead.X, tS Pv.encI x.Dead.Y, tS Pv.encI x.Efficiency.X, tS Pv.encI x.Efficiency.Y, tI x.Idle.P, tI x.Idle.I, tI x.Idle.Low, tI x.Idle.High]
abbrev A_STables (x : STables) : T := .agg [.t (tS Pv.encI x.Air.X), .t (tS Pv.encI x.Air.Y), .t (tS (Pv.encS Pv.encI) x.Air.Z), .t (tS Pv.encI x.Spark.X), .t (tS Pv.encI x.Spark.Y), .t (tS (Pv.encS Pv.encI) x.Spark.Z), .t (tS Pv.encI x.Torque.X), .t (tS Pv.encI x.Torque.Y), .t (tS (Pv.encS Pv.encI) x.Torque.Z), .t (tS Pv.encI x.Wish.X), .t (tS Pv.encI x.Wish.Y), .t (tS (Pv.encS Pv.encI) x.Wish.Z), .t (tS Pv.encI x.AirTemp.X), .t (tS Pv.encI x.AirTemp.Y), .t (tS Pv.encI x.Dwell.X), .t (tS Pv.encI x.Dwell.Y), .t (tS Pv.encI x.Dead.X), .t (tS Pv.encI x.Dead.Y), .t (tS Pv.encI x.Efficiency.X), .t (tS Pv.encI x.Efficiency.Y), .t (tI x.Idle.P), .t (tI x.Idle.I), .t (tI x.Idle.Low), .t (tI x.Idle.High)]
abbrev B_STables (x : STables) : List T := [.t (tS Pv.encI x.Air.X), .t (tS Pv.encI x.Air.Y), .t (tS (Pv.encS Pv.encI) x.Air.Z), .t (tS Pv.encI x.Spark.X), .t (tS Pv.encI x.Spark.Y), .t (tS (Pv.encS Pv.encI) x.Spark.Z), .t (tS Pv.encI x.Torque.X), .t (tS Pv.encI x.Torque.Y), .t (tS (Pv.encS Pv.encI) x.Torque.Z), .t (tS Pv.encI x.Wish.X), .t (tS Pv.encI x.Wish.Y), .t (tS (Pv.encS Pv.encI) x.Wish.Z), .t (tS Pv.encI x.AirTemp.X), .t (tS Pv.encI x.AirTemp.Y), .t (tS Pv.encI x.Dwell.X), .t (tS Pv.encI x.Dwell.Y), .t (tS Pv.encI x.Dead.X), .t (tS Pv.encI x.Dead.Y), .t (tS Pv.encI x.Efficiency.X), .t (tS Pv.encI x.Efficiency.Y), .t (tI x.Idle.P), .t (tI x.Idle.I), .t (tI x.Idle.Low), .t (tI x.Idle.High)]
@[ext] structure SEngine where
  Order : List Int
  First : Int
def enc_SEngine (x : SEngine) : List Tree := [tS Pv.encI x.Order, tI x.First]
abbrev A_SEngine (x : SEngine) : T := .agg [.t (tS Pv.encI x.Order), .t (tI x.First)]
@[ext] structure SPedal where
  Value : Int
  Differ : Int
  Fault : Bool
def enc_SPedal (x : SPedal) : List Tree := [tI x.Value, tI x.Differ, tB x.Fault]
abbrev A_SPedal (x : SPedal) : T := .agg [.t (tI x.Value), .t (tI x.Differ), .t (tB x.Fault)]
@[ext] structure SIntegral where
  Sum : Int
def enc_SIntegral (x : SIntegral) : List Tree := [tI x.Sum]
abbrev A_SIntegral (x : SIntegral) : T := .agg [.t (tI x.Sum)]
@[ext] structure SKnock where
  Retard : Int
  Noise : Int
  Quiet : Int
def enc_SKnock (x : SKnock) : List Tree := [tI x.Retard, tI x.Noise, tI x.Quiet]
abbrev A_SKnock (x : SKnock) : T := .agg [.t (tI x.Retard), .t (tI x.Noise), .t (tI x.Quiet)]
@[ext] structure SCell where
  Value : Int
  Count : Int
def enc_SCell (x : SCell) : List Tree := [tI x.Value, tI x.Count]
abbrev A_SCell (x : SCell) : T := .agg [.t (tI x.Value), .t (tI x.Count)]
@[ext] structure SProbe where
  Active : Bool
  Rich : Bool
  Factor : Int
  Wait : Int
  Cells : List SCell
def enc_SProbe (x : SProbe) : List Tree := [tB x.Active, tB x.Rich, tI x.Factor, tI x.Wait, tS enc_SCell x.Cells]
abbrev A_SProbe (x : SProbe) : T := .agg [.t (tB x.Active), .t (tB x.Rich), .t (tI x.Factor), .t (tI x.Wait), .t (tS enc_SCell x.Cells)]
@[ext] structure SGrant where
  Torque : Int
  Source : Int
def enc_SGrant (x : SGrant) : List Tree := [tI x.Torque, tI x.Source]
abbrev A_SGrant (x : SGrant) : T := .agg [.t (tI x.Torque), .t (tI x.Source)]
@[ext] structure SControls where
  Pedal : SPedal
  Idle : SIntegral
  Knock : List SKnock
  Probe : SProbe
  Film : Int
  Grant : SGrant
def enc_SControls (x : SControls) : List Tree := [tI x.Pedal.Value, tI x.Pedal.Differ, tB x.Pedal.Fault, tI x.Idle.Sum, tS enc_SKnock x.Knock, tB x.Probe.Active, tB x.Probe.Rich, tI x.Probe.Factor, tI x.Probe.Wait, tS enc_SCell x.Probe.Cells, tI x.Film, tI x.Grant.Torque, tI x.Grant.Source]
abbrev A_SControls (x : SControls) : T := .agg [.t (tI x.Pedal.Value), .t (tI x.Pedal.Differ), .t (tB x.Pedal.Fault), .t (tI x.Idle.Sum), .t (tS enc_SKnock x.Knock), .t (tB x.Probe.Active), .t (tB x.Probe.Rich), .t (tI x.Probe.Factor), .t (tI x.Probe.Wait), .t (tS enc_SCell x.Probe.Cells), .t (tI x.Film), .t (tI x.Grant.Torque), .t (tI x.Grant.Source)]
abbrev B_SControls (x : SControls) : List T := [.t (tI x.Pedal.Value), .t (tI x.Pedal.Differ), .t (tB x.Pedal.Fault), .t (tI x.Idle.Sum), .t (tS enc_SKnock x.Knock), .t (tB x.Probe.Active), .t (tB x.Probe.Rich), .t (tI x.Probe.Factor), .t (tI x.Probe.Wait), .t (tS enc_SCell x.Probe.Cells), .t (tI x.Film), .t (tI x.Grant.Torque), .t (tI x.Grant.Source)]
@[ext] structure SRequest where
  Source : Int
  Kind : Int
  Torque : Int
  Priority : Int
def enc_SRequest (x : SRequest) : List Tree := [tI x.Source, tI x.Kind, tI x.Torque, tI x.Priority]
abbrev A_SRequest (x : SRequest) : T := .agg [.t (tI x.Source), .t (tI x.Kind), .t (tI x.Torque), .t (tI x.Priority)]
@[ext] structure SInputs where
  Pedal1 : Int
  Pedal2 : Int
  Speed : Int
  Pressure : Int
  AirTemp : Int
  Voltage : Int
  Lambda : Int
  Coolant : Int
  Intensity : List Int
  Requests : List SRequest
def enc_SInputs (x : SInputs) : List Tree := [tI x.Pedal1, tI x.Pedal2, tI x.Speed, tI x.Pressure, tI x.AirTemp, tI x.Voltage, tI x.Lambda, tI x.Coolant, tS Pv.encI x.Intensity, tS enc_SRequest x.Requests]
abbrev A_SInputs (x : SInputs) : T := .agg [.t (tI x.Pedal1), .t (tI x.Pedal2), .t (tI x.Speed), .t (tI x.Pressure), .t (tI x.AirTemp), .t (tI x.Voltage), .t (tI x.Lambda), .t (tI x.Coolant), .t (tS Pv.encI x.Intensity), .t (tS enc_SRequest x.Requests)]
abbrev B_SInputs (x : SInputs) : List T := [.t (tI x.Pedal1), .t (tI x.Pedal2), .t (tI x.Speed), .t (tI x.Pressure), .t (tI x.AirTemp), .t (tI x.Voltage), .t (tI x.Lambda), .t (tI x.Coolant), .t (tS Pv.encI x.Intensity), .t (tS enc_SRequest x.Requests)]
/-- magneto/events.angle -/
noncomputable def events_angle (a : Int) : Option Bool :=
  some ((decide (a ≥ 0)) && (decide (a < 46080)))
/-- slices.Index[[]int,int] -/
noncomputable def slices_Index_sint_b1 (s : List Int) (v : Int) (i : Int) (_ : Unit) : Option (Fl Unit Int) :=
  Option.bind (getI s i) fun x => bif (v == x) then (some (.ret i)) else (some (.next ()))
noncomputable def slices_Index_sint (s : List Int) (v : Int) : Option Int :=
  Option.bind (rangeN (s.length : Int) (slices_Index_sint_b1 s v) ()) fun (t : Unit ⊕ Int) => match t with | .inl _ => (some (-1)) | .inr r2 => some r2
/-- slices.Contains[[]int,int] -/
noncomputable def slices_Contains_sint (s : List Int) (v : Int) : Option Bool :=
  Option.bind (slices_Index_sint s v) fun v2 => some (decide (v2 ≥ 0))
/-- magneto/events.Valid -/
noncomputable def events_Valid_b1 (e2 : SEngine) (i : Int) : Option (Int ⊕ (Int ⊕ Bool)) :=
  bif (decide (i ≤ (e2.Order.length : Int))) then (Option.bind (slices_Contains_sint e2.Order i) fun v2 => bif (!v2) then (some (.inr (.inr false))) else (some (.inl (w64 (i + 1))))) else (some (.inr (.inl i)))
noncomputable def events_Valid (e2 : SEngine) : Option Bool :=
  Option.bind (bif ((decide ((e2.Order.length : Int) < 1)) || (decide ((e2.Order.length : Int) > 8))) then (some true) else (Option.bind (events_angle e2.First) fun v => some (!v))) fun b2 => bif b2 then (some false) else (Option.bind (loopM (events_Valid_b1 e2) 1) fun (t : Int ⊕ Bool) => match t with | .inl _ => (some true) | .inr r2 => some r2)
/-- math/bits.Mul64 -/
noncomputable def math_bits_Mul64 (x : Int) (y : Int) : Option (Int × Int) :=
  mul64M x y
/-- math/bits.Mul -/
noncomputable def math_bits_Mul (x : Int) (y : Int) : Option (Int × Int) :=
  Option.bind (math_bits_Mul64 x y) fun r2 => some (r2.1, r2.2)
/-- slices.Repeat[[]magneto/api.Knock,magneto/api.Knock] -/
noncomputable def slices_Repeat_sKnock_b1 (s3 : Int × List SKnock) : Option ((Int × List SKnock) ⊕ ((Int × List SKnock) ⊕ Empty)) :=
  bif (decide (s3.1 < (s3.2.length : Int))) then (Option.bind (Option.bind (chkM s3.1 (s3.2.length : Int) s3.2.length) fun _ => Option.bind (chkM 0 s3.1 s3.2.length) fun _ => some (w64 (s3.1 + ((min (Int.toNat s3.1 - Int.toNat 0) (Int.toNat (s3.2.length : Int) - Int.toNat s3.1) : Nat) : Int)), copyVM s3.2 s3.1 (s3.2.length : Int) 0 s3.1)) fun (s4 : Int × List SKnock) => some (.inl (s4.1, s4.2))) else (some (.inr (.inl (s3.1, s3.2))))
noncomputable def slices_Repeat_sKnock (x : List SKnock) (count : Int) : Option (List SKnock) :=
  Option.bind (bif (decide (count < 0)) then none else (some ())) fun (_ : Unit) => Option.bind (math_bits_Mul (IntKind.u64.wrap (x.length : Int)) (IntKind.u64.wrap count)) fun r2 => Option.bind (bif ((decide (r2.1 > 0)) || (decide (r2.2 > 9223372036854775807))) then none else (some ())) fun (_ : Unit) => Option.bind (makeM (w64 r2.2) (⟨0, 0, 0⟩ : SKnock)) fun l => Option.bind (loopM (slices_Repeat_sKnock_b1) ((min (x).length (l).length : Nat), copyL l x)) fun (t : (Int × List SKnock) ⊕ Empty) => match t with | .inl s5 => (some s5.2) | .inr r => r.elim
/-- magneto/knock.New -/
noncomputable def knock_New (n2 : Int) : Option (List SKnock × Int) :=
  bif ((decide (n2 < 1)) || (decide (n2 > 8))) then (some (([] : List SKnock), 2)) else (Option.bind (slices_Repeat_sKnock ([(⟨0, 100, 0⟩ : SKnock)] : List SKnock) n2) fun v => some (v, 0))
/-- magneto/pedal.New -/
noncomputable def pedal_New : Option SPedal :=
  some (⟨0, 0, false⟩ : SPedal)
/-- magneto/mixture.New -/
noncomputable def mixture_New : Option SProbe :=
  Option.bind (makeM 9 (⟨0, 0⟩ : SCell)) fun l => some (⟨false, false, 1000, 0, l⟩ : SProbe)
/-- magneto/control.New -/
noncomputable def control_New (e2 : SEngine) : Option (SControls × Int) :=
  Option.bind (events_Valid e2) fun v => bif (!v) then (some ((⟨(⟨0, 0, false⟩ : SPedal), (⟨0⟩ : SIntegral), ([] : List SKnock), (⟨false, false, 0, 0, ([] : List SCell)⟩ : SProbe), 0, (⟨0, 0⟩ : SGrant)⟩ : SControls), 1)) else (Option.bind (knock_New (e2.Order.length : Int)) fun r2 => bif (r2.2 != 0) then (some ((⟨(⟨0, 0, false⟩ : SPedal), (⟨0⟩ : SIntegral), ([] : List SKnock), (⟨false, false, 0, 0, ([] : List SCell)⟩ : SProbe), 0, (⟨0, 0⟩ : SGrant)⟩ : SControls), 1)) else (Option.bind (pedal_New) fun v2 => Option.bind (mixture_New) fun v3 => some ((⟨v2, (⟨0⟩ : SIntegral), r2.1, v3, 0, (⟨0, (-1)⟩ : SGrant)⟩ : SControls), 0)))
/-- magneto/pedal.Valid -/
noncomputable def pedal_Valid (p2 : SPedal) : Option Bool :=
  Option.bind (bif p2.Fault then (some 200) else (some 1000)) fun (most : Int) => some (((((decide (p2.Value ≥ 0)) && (decide (p2.Value ≤ most))) && (decide (p2.Differ ≥ 0))) && (decide (p2.Differ ≤ 3))) && (p2.Fault == (p2.Differ == 3)))
/-- magneto/mixture.in -/
noncomputable def mixture_in (x : Int) (low : Int) (high : Int) : Option Bool :=
  some ((decide (x ≥ low)) && (decide (x ≤ high)))
/-- slices.IndexFunc[[]magneto/api.Cell,magneto/api.Cell] -/
noncomputable def slices_IndexFunc_sCell_b1 (s : List SCell) (f2 : SCell → Option Bool) (i : Int) (_ : Unit) : Option (Fl Unit Int) :=
  Option.bind (getI s i) fun x => Option.bind (f2 x) fun v => bif v then (some (.ret i)) else (some (.next ()))
noncomputable def slices_IndexFunc_sCell (s : List SCell) (f2 : SCell → Option Bool) : Option Int :=
  Option.bind (rangeN (s.length : Int) (slices_IndexFunc_sCell_b1 s f2) ()) fun (t : Unit ⊕ Int) => match t with | .inl _ => (some (-1)) | .inr r2 => some r2
/-- slices.ContainsFunc[[]magneto/api.Cell,magneto/api.Cell] -/
noncomputable def slices_ContainsFunc_sCell (s : List SCell) (f2 : SCell → Option Bool) : Option Bool :=
  Option.bind (slices_IndexFunc_sCell s f2) fun v => some (decide (v ≥ 0))
/-- magneto/mixture.Valid$1 -/
noncomputable def mixture_Valid_1 (c : SCell) : Option Bool :=
  Option.bind (mixture_in c.Value (-100) 100) fun v => Option.bind (bif (!v) then (some true) else (Option.bind (mixture_in c.Count 0 1000) fun v2 => some (!v2))) fun b2 => some b2
/-- magneto/mixture.Valid -/
noncomputable def mixture_Valid (p2 : SProbe) : Option Bool :=
  Option.bind (mixture_in p2.Factor 750 1250) fun v => Option.bind (bif (!v) then (some true) else (Option.bind (mixture_in p2.Wait 0 1000) fun v2 => some (!v2))) fun b2 => bif (b2 || ((p2.Cells.length : Int) != 9)) then (some false) else (Option.bind (bif (!p2.Active) then (some (((p2.Factor != 1000) || (p2.Wait != 0)) || p2.Rich)) else (some false)) fun b3 => bif b3 then (some false) else (Option.bind (slices_ContainsFunc_sCell p2.Cells mixture_Valid_1) fun v3 => some (!v3)))
/-- slices.IndexFunc[[]magneto/api.Knock,magneto/api.Knock] -/
noncomputable def slices_IndexFunc_sKnock_b1 (s : List SKnock) (f2 : SKnock → Option Bool) (i : Int) (_ : Unit) : Option (Fl Unit Int) :=
  Option.bind (getI s i) fun x => Option.bind (f2 x) fun v => bif v then (some (.ret i)) else (some (.next ()))
noncomputable def slices_IndexFunc_sKnock (s : List SKnock) (f2 : SKnock → Option Bool) : Option Int :=
  Option.bind (rangeN (s.length : Int) (slices_IndexFunc_sKnock_b1 s f2) ()) fun (t : Unit ⊕ Int) => match t with | .inl _ => (some (-1)) | .inr r2 => some r2
/-- slices.ContainsFunc[[]magneto/api.Knock,magneto/api.Knock] -/
noncomputable def slices_ContainsFunc_sKnock (s : List SKnock) (f2 : SKnock → Option Bool) : Option Bool :=
  Option.bind (slices_IndexFunc_sKnock s f2) fun v => some (decide (v ≥ 0))
/-- magneto/knock.intensity -/
noncomputable def knock_intensity (n2 : Int) : Option Bool :=
  some ((decide (n2 ≥ 0)) && (decide (n2 ≤ 4095)))
/-- magneto/knock.Valid -/
noncomputable def knock_Valid (k : SKnock) : Option Bool :=
  Option.bind (bif ((decide (k.Retard ≥ 0)) && (decide (k.Retard ≤ 960))) then (Option.bind (knock_intensity k.Noise) fun v => some v) else (some false)) fun b2 => some ((b2 && (decide (k.Quiet ≥ 0))) && (decide (k.Quiet < 100)))
/-- magneto/control.Good$1 -/
noncomputable def control_Good_1 (k : SKnock) : Option Bool :=
  Option.bind (knock_Valid k) fun v => some (!v)
/-- magneto/control.in -/
noncomputable def control_in (x : Int) (low : Int) (high : Int) : Option Bool :=
  some ((decide (x ≥ low)) && (decide (x ≤ high)))
/-- magneto/control.Good -/
noncomputable def control_Good (e2 : SEngine) (c : SControls) : Option Bool :=
  Option.bind (events_Valid e2) fun v => Option.bind (bif (!v) then (some true) else (Option.bind (pedal_Valid c.Pedal) fun v2 => some (!v2))) fun b2 => Option.bind (bif b2 then (some true) else (Option.bind (mixture_Valid c.Probe) fun v3 => some (!v3))) fun b3 => bif (b3 || ((c.Knock.length : Int) != (e2.Order.length : Int))) then (some false) else (Option.bind (slices_ContainsFunc_sKnock c.Knock control_Good_1) fun v4 => bif v4 then (some false) else (Option.bind (control_in c.Idle.Sum (-4398046511104) 4398046511104) fun v5 => Option.bind (bif v5 then (Option.bind (control_in c.Film 0 1073741824) fun v6 => some v6) else (some false)) fun b4 => Option.bind (bif b4 then (Option.bind (control_in c.Grant.Torque (-5000) 10000) fun v7 => some v7) else (some false)) fun b5 => Option.bind (bif b5 then (Option.bind (control_in c.Grant.Source (-1) 15) fun v8 => some v8) else (some false)) fun b6 => some b6))
/-- magneto/magnetolaw38.awake -/
noncomputable def magnetolaw38_awake : Option Bool :=
  Option.bind (control_New (⟨([1] : List Int), 0⟩ : SEngine)) fun r2 => Option.bind (bif (r2.2 == 0) then (Option.bind (control_Good (⟨([1] : List Int), 0⟩ : SEngine) (⟨(⟨r2.1.Pedal.Value, r2.1.Pedal.Differ, r2.1.Pedal.Fault⟩ : SPedal), (⟨r2.1.Idle.Sum⟩ : SIntegral), r2.1.Knock, (⟨r2.1.Probe.Active, r2.1.Probe.Rich, r2.1.Probe.Factor, r2.1.Probe.Wait, r2.1.Probe.Cells⟩ : SProbe), r2.1.Film, (⟨r2.1.Grant.Torque, r2.1.Grant.Source⟩ : SGrant)⟩ : SControls)) fun v => some v) else (some false)) fun b2 => Option.bind (bif b2 then (Option.bind (control_Good (⟨([1] : List Int), 0⟩ : SEngine) (⟨(⟨0, 0, false⟩ : SPedal), (⟨0⟩ : SIntegral), ([] : List SKnock), (⟨false, false, 0, 0, ([] : List SCell)⟩ : SProbe), 0, (⟨0, 0⟩ : SGrant)⟩ : SControls)) fun v2 => some (!v2)) else (some false)) fun b3 => some (b3 && (r2.1.Grant.Source == (-1)))
/-- slices.IndexFunc[[]magneto/api.Map,magneto/api.Map] -/
noncomputable def slices_IndexFunc_sMap_b1 (s : List SMap) (f2 : SMap → Option Bool) (i : Int) (_ : Unit) : Option (Fl Unit Int) :=
  Option.bind (getI s i) fun x => Option.bind (f2 x) fun v => bif v then (some (.ret i)) else (some (.next ()))
noncomputable def slices_IndexFunc_sMap (s : List SMap) (f2 : SMap → Option Bool) : Option Int :=
  Option.bind (rangeN (s.length : Int) (slices_IndexFunc_sMap_b1 s f2) ()) fun (t : Unit ⊕ Int) => match t with | .inl _ => (some (-1)) | .inr r2 => some r2
/-- slices.ContainsFunc[[]magneto/api.Map,magneto/api.Map] -/
noncomputable def slices_ContainsFunc_sMap (s : List SMap) (f2 : SMap → Option Bool) : Option Bool :=
  Option.bind (slices_IndexFunc_sMap s f2) fun v => some (decide (v ≥ 0))
/-- slices.IndexFunc[[][]int,[]int] -/
noncomputable def slices_IndexFunc_ssint_b1 (s : List (List Int)) (f2 : (List Int) → Option Bool) (i : Int) (_ : Unit) : Option (Fl Unit Int) :=
  Option.bind (getI s i) fun x => Option.bind (f2 x) fun v => bif v then (some (.ret i)) else (some (.next ()))
noncomputable def slices_IndexFunc_ssint (s : List (List Int)) (f2 : (List Int) → Option Bool) : Option Int :=
  Option.bind (rangeN (s.length : Int) (slices_IndexFunc_ssint_b1 s f2) ()) fun (t : Unit ⊕ Int) => match t with | .inl _ => (some (-1)) | .inr r2 => some r2
/-- slices.ContainsFunc[[][]int,[]int] -/
noncomputable def slices_ContainsFunc_ssint (s : List (List Int)) (f2 : (List Int) → Option Bool) : Option Bool :=
  Option.bind (slices_IndexFunc_ssint s f2) fun v => some (decide (v ≥ 0))
/-- magneto/magnetolaw38.few$1$1 -/
noncomputable def magnetolaw38_few_1_1 (l : List Int) : Option Bool :=
  some (decide ((l.length : Int) > 40))
/-- magneto/magnetolaw38.few$1 -/
noncomputable def magnetolaw38_few_1 (m2 : SMap) : Option Bool :=
  Option.bind (bif (((decide ((m2.X.length : Int) > 40)) || (decide ((m2.Y.length : Int) > 40))) || (decide ((m2.Z.length : Int) > 40))) then (some true) else (Option.bind (slices_ContainsFunc_ssint m2.Z magnetolaw38_few_1_1) fun v => some v)) fun b2 => some b2
/-- slices.IndexFunc[[]magneto/api.Curve,magneto/api.Curve] -/
noncomputable def slices_IndexFunc_sCurve_b1 (s : List SCurve) (f2 : SCurve → Option Bool) (i : Int) (_ : Unit) : Option (Fl Unit Int) :=
  Option.bind (getI s i) fun x => Option.bind (f2 x) fun v => bif v then (some (.ret i)) else (some (.next ()))
noncomputable def slices_IndexFunc_sCurve (s : List SCurve) (f2 : SCurve → Option Bool) : Option Int :=
  Option.bind (rangeN (s.length : Int) (slices_IndexFunc_sCurve_b1 s f2) ()) fun (t : Unit ⊕ Int) => match t with | .inl _ => (some (-1)) | .inr r2 => some r2
/-- slices.ContainsFunc[[]magneto/api.Curve,magneto/api.Curve] -/
noncomputable def slices_ContainsFunc_sCurve (s : List SCurve) (f2 : SCurve → Option Bool) : Option Bool :=
  Option.bind (slices_IndexFunc_sCurve s f2) fun v => some (decide (v ≥ 0))
/-- magneto/magnetolaw38.few$2 -/
noncomputable def magnetolaw38_few_2 (c : SCurve) : Option Bool :=
  some ((decide ((c.X.length : Int) > 40)) || (decide ((c.Y.length : Int) > 40)))
/-- magneto/magnetolaw38.few -/
noncomputable def magnetolaw38_few (t2 : STables) : Option Bool :=
  Option.bind (slices_ContainsFunc_sMap ([t2.Air, t2.Spark, t2.Torque, t2.Wish] : List SMap) magnetolaw38_few_1) fun v => Option.bind (bif (!v) then (Option.bind (slices_ContainsFunc_sCurve ([t2.AirTemp, t2.Dwell, t2.Dead, t2.Efficiency] : List SCurve) magnetolaw38_few_2) fun v2 => some (!v2)) else (some false)) fun b2 => some b2
/-- magneto/magnetolaw38.small -/
noncomputable def magnetolaw38_small (e2 : SEngine) (c : SControls) (v_in : SInputs) : Option Bool :=
  some (((((decide ((e2.Order.length : Int) ≤ 40)) && (decide ((c.Knock.length : Int) ≤ 40))) && (decide ((c.Probe.Cells.length : Int) ≤ 40))) && (decide ((v_in.Intensity.length : Int) ≤ 40))) && (decide ((v_in.Requests.length : Int) ≤ 40)))
/-- magneto/magnetoref23.Angle -/
noncomputable def magnetoref23_Angle (a : Int) : Option Bool :=
  some ((decide (a ≥ 0)) && (decide (a < 46080)))
/-- magneto/magnetoref23.Valid -/
noncomputable def magnetoref23_Valid_b2 (e2 : SEngine) (i : Int) (x : Int) (k : Int) : Option (Int ⊕ (Int ⊕ Bool)) :=
  bif (decide (k < i)) then (Option.bind (getI e2.Order k) fun x2 => bif (x2 == x) then (some (.inr (.inr false))) else (some (.inl (w64 (k + 1))))) else (some (.inr (.inl k)))
noncomputable def magnetoref23_Valid_b1 (e2 : SEngine) (i : Int) : Option (Int ⊕ (Int ⊕ Bool)) :=
  bif (decide (i < (e2.Order.length : Int))) then (Option.bind (getI e2.Order i) fun x => Option.bind (bif (decide (x < 1)) then (some true) else (some (decide (x > (e2.Order.length : Int))))) fun b3 => bif b3 then (some (.inr (.inr false))) else (Option.bind (loopM (magnetoref23_Valid_b2 e2 i x) 0) fun (t : Int ⊕ Bool) => match t with | .inl _ => (some (.inl (w64 (i + 1)))) | .inr r2 => some (.inr (.inr r2)))) else (some (.inr (.inl i)))
noncomputable def magnetoref23_Valid (e2 : SEngine) : Option Bool :=
  Option.bind (bif ((decide ((e2.Order.length : Int) < 1)) || (decide ((e2.Order.length : Int) > 8))) then (some true) else (Option.bind (magnetoref23_Angle e2.First) fun v => some (!v))) fun b2 => bif b2 then (some false) else (Option.bind (loopM (magnetoref23_Valid_b1 e2) 0) fun (t : Int ⊕ Bool) => match t with | .inl _ => (some true) | .inr r3 => some r3)
/-- magneto/magnetoref34.New -/
noncomputable def magnetoref34_New : Option SProbe :=
  Option.bind (makeM 9 (⟨0, 0⟩ : SCell)) fun l => some (⟨false, false, 1000, 0, l⟩ : SProbe)
/-- magneto/magnetoref38.New -/
noncomputable def magnetoref38_New_b1 (e2 : SEngine) (s : Int × List SKnock) : Option ((Int × List SKnock) ⊕ ((Int × List SKnock) ⊕ Empty)) :=
  bif (decide (s.1 < (e2.Order.length : Int))) then (Option.bind (appendM s.2 ([(⟨0, 100, 0⟩ : SKnock)] : List SKnock)) fun l => some (.inl (w64 (s.1 + 1), l))) else (some (.inr (.inl (s.1, s.2))))
noncomputable def magnetoref38_New (e2 : SEngine) : Option (SControls × Int) :=
  Option.bind (magnetoref23_Valid e2) fun v => bif (!v) then (some ((⟨(⟨0, 0, false⟩ : SPedal), (⟨0⟩ : SIntegral), ([] : List SKnock), (⟨false, false, 0, 0, ([] : List SCell)⟩ : SProbe), 0, (⟨0, 0⟩ : SGrant)⟩ : SControls), 1)) else (Option.bind (magnetoref34_New) fun v2 => Option.bind (loopM (magnetoref38_New_b1 e2) (0, ([] : List SKnock))) fun (t : (Int × List SKnock) ⊕ Empty) => match t with | .inl s2 => (some ((⟨(⟨0, 0, false⟩ : SPedal), (⟨0⟩ : SIntegral), s2.2, v2, 0, (⟨0, (-1)⟩ : SGrant)⟩ : SControls), 0)) | .inr r => r.elim)
/-- slices.IndexFunc[[]int,int] -/
noncomputable def slices_IndexFunc_sint_b1 (s : List Int) (f2 : Int → Option Bool) (i : Int) (_ : Unit) : Option (Fl Unit Int) :=
  Option.bind (getI s i) fun x => Option.bind (f2 x) fun v => bif v then (some (.ret i)) else (some (.next ()))
noncomputable def slices_IndexFunc_sint (s : List Int) (f2 : Int → Option Bool) : Option Int :=
  Option.bind (rangeN (s.length : Int) (slices_IndexFunc_sint_b1 s f2) ()) fun (t : Unit ⊕ Int) => match t with | .inl _ => (some (-1)) | .inr r2 => some r2
/-- slices.ContainsFunc[[]int,int] -/
noncomputable def slices_ContainsFunc_sint (s : List Int) (f2 : Int → Option Bool) : Option Bool :=
  Option.bind (slices_IndexFunc_sint s f2) fun v => some (decide (v ≥ 0))
/-- magneto/surface.element -/
noncomputable def surface_element (n2 : Int) : Option Bool :=
  some ((decide (n2 ≥ (-1073741824))) && (decide (n2 ≤ 1073741824)))
/-- magneto/surface.axis -/
noncomputable def surface_axis_b1 (l : List Int) (i : Int) (_ : Unit) : Option (Fl Unit Bool) :=
  Option.bind (getI l i) fun x => Option.bind (surface_element x) fun v => Option.bind (bif (!v) then (some true) else (Option.bind (bif (decide (i > 0)) then (Option.bind (getI l (w64 (i - 1))) fun x2 => some (decide (x ≤ x2))) else (some false)) fun b2 => some b2)) fun b3 => bif b3 then (some (.ret false)) else (some (.next ()))
noncomputable def surface_axis (l : List Int) : Option Bool :=
  bif ((decide ((l.length : Int) < 2)) || (decide ((l.length : Int) > 32))) then (some false) else (Option.bind (rangeN (l.length : Int) (surface_axis_b1 l) ()) fun (t : Unit ⊕ Bool) => match t with | .inl _ => (some true) | .inr r2 => some r2)
/-- magneto/surface.Valid$1 -/
noncomputable def surface_Valid_1 (z : Int) : Option Bool :=
  Option.bind (surface_element z) fun v => some (!v)
/-- magneto/surface.Valid -/
noncomputable def surface_Valid_b1 (m2 : SMap) (_ : Int) (x : List Int) (_ : Unit) : Option (Fl Unit Bool) :=
  Option.bind (bif ((x.length : Int) != (m2.Y.length : Int)) then (some true) else (Option.bind (slices_ContainsFunc_sint x surface_Valid_1) fun v3 => some v3)) fun b3 => bif b3 then (some (.ret false)) else (some (.next ()))
noncomputable def surface_Valid (m2 : SMap) : Option Bool :=
  Option.bind (surface_axis m2.X) fun v => Option.bind (bif (!v) then (some true) else (Option.bind (surface_axis m2.Y) fun v2 => some (!v2))) fun b2 => bif (b2 || ((m2.Z.length : Int) != (m2.X.length : Int))) then (some false) else (Option.bind (rangeM m2.Z (surface_Valid_b1 m2) ()) fun (t : Unit ⊕ Bool) => match t with | .inl _ => (some true) | .inr r2 => some r2)
/-- magneto/curve.far -/
noncomputable def curve_far (n2 : Int) : Option Bool :=
  some ((decide (n2 < (-1073741824))) || (decide (n2 > 1073741824)))
/-- magneto/curve.axis -/
noncomputable def curve_axis_b1 (l : List Int) (i : Int) (_ : Unit) : Option (Fl Unit Bool) :=
  Option.bind (getI l i) fun x => Option.bind (getI l (w64 (i + 1))) fun x2 => bif (decide (x ≥ x2)) then (some (.ret false)) else (some (.next ()))
noncomputable def curve_axis (l : List Int) : Option Bool :=
  Option.bind (bif ((decide ((l.length : Int) < 2)) || (decide ((l.length : Int) > 32))) then (some true) else (Option.bind (slices_ContainsFunc_sint l curve_far) fun v => some v)) fun b2 => bif b2 then (some false) else (Option.bind (rangeN (w64 ((l.length : Int) - 1)) (curve_axis_b1 l) ()) fun (t : Unit ⊕ Bool) => match t with | .inl _ => (some true) | .inr r2 => some r2)
/-- magneto/curve.Valid -/
noncomputable def curve_Valid (c : SCurve) : Option Bool :=
  Option.bind (bif ((c.X.length : Int) == (c.Y.length : Int)) then (Option.bind (curve_axis c.X) fun v => some v) else (some false)) fun b2 => Option.bind (bif b2 then (Option.bind (slices_ContainsFunc_sint c.Y curve_far) fun v2 => some (!v2)) else (some false)) fun b3 => some b3
/-- cmp.isNaN[int] -/
noncomputable def cmp_isNaN_int (x : Int) : Option Bool :=
  some (x != x)
/-- cmp.Less[int] -/
noncomputable def cmp_Less_int (x : Int) (y : Int) : Option Bool :=
  Option.bind (cmp_isNaN_int x) fun v => Option.bind (bif v then (Option.bind (cmp_isNaN_int y) fun v2 => some (!v2)) else (some false)) fun b2 => some (b2 || (decide (x < y)))
/-- slices.IsSorted[[]int,int] -/
noncomputable def slices_IsSorted_sint_b1 (x : List Int) (i : Int) : Option (Int ⊕ (Int ⊕ Bool)) :=
  bif (decide (i > 0)) then (Option.bind (getI x i) fun x2 => Option.bind (getI x (w64 (i - 1))) fun x3 => Option.bind (cmp_Less_int x2 x3) fun v => bif v then (some (.inr (.inr false))) else (some (.inl (w64 (i - 1))))) else (some (.inr (.inl i)))
noncomputable def slices_IsSorted_sint (x : List Int) : Option Bool :=
  Option.bind (loopM (slices_IsSorted_sint_b1 x) (w64 ((x.length : Int) - 1))) fun (t : Int ⊕ Bool) => match t with | .inl _ => (some true) | .inr r2 => some r2
/-- magneto/air.between -/
noncomputable def air_between (n2 : Int) (low : Int) (high : Int) : Option Bool :=
  some ((decide (n2 ≥ low)) && (decide (n2 ≤ high)))
/-- magneto/air.Valid$1 -/
noncomputable def air_Valid_1 (y : Int) : Option Bool :=
  Option.bind (air_between y 100 3000) fun v => some (!v)
/-- magneto/air.Valid -/
noncomputable def air_Valid_b1 (_ : Int) (x : List Int) (_ : Unit) : Option (Fl Unit Bool) :=
  Option.bind (slices_IsSorted_sint x) fun v3 => Option.bind (bif (!v3) then (some true) else (Option.bind (getI x 0) fun x2 => Option.bind (air_between x2 0 1048576) fun v4 => some (!v4))) fun b3 => Option.bind (bif b3 then (some true) else (Option.bind (getI x (w64 ((x.length : Int) - 1))) fun x3 => Option.bind (air_between x3 0 1048576) fun v5 => some (!v5))) fun b4 => bif b4 then (some (.ret false)) else (some (.next ()))
noncomputable def air_Valid (t2 : STables) : Option Bool :=
  Option.bind (surface_Valid t2.Air) fun v => Option.bind (bif (!v) then (some true) else (Option.bind (curve_Valid t2.AirTemp) fun v2 => some (!v2))) fun b2 => bif b2 then (some false) else (Option.bind (rangeM t2.Air.Z (air_Valid_b1) ()) fun (t : Unit ⊕ Bool) => match t with | .inl _ => (Option.bind (slices_ContainsFunc_sint t2.AirTemp.Y air_Valid_1) fun v6 => some (!v6)) | .inr r2 => some r2)
/-- magneto/torque.within -/
noncomputable def torque_within (x : Int) (low : Int) (high : Int) : Option Bool :=
  some ((decide (x ≥ low)) && (decide (x ≤ high)))
/-- magneto/torque.outside$1 -/
noncomputable def torque_outside_1 (x : Int) (c : Int) (c2 : Int) : Option Bool :=
  Option.bind (torque_within x c c2) fun v => some (!v)
/-- magneto/torque.outside -/
noncomputable def torque_outside (l : List Int) (low : Int) (high : Int) : Option Bool :=
  Option.bind (slices_ContainsFunc_sint l (fun x0 => torque_outside_1 x0 low high)) fun v => some v
/-- slices.IsSortedFunc[[]int,int] -/
noncomputable def slices_IsSortedFunc_sint_b1 (x : List Int) (cmp : Int → Int → Option Int) (i : Int) : Option (Int ⊕ (Int ⊕ Bool)) :=
  bif (decide (i > 0)) then (Option.bind (getI x i) fun x2 => Option.bind (getI x (w64 (i - 1))) fun x3 => Option.bind (cmp x2 x3) fun v => bif (decide (v < 0)) then (some (.inr (.inr false))) else (some (.inl (w64 (i - 1))))) else (some (.inr (.inl i)))
noncomputable def slices_IsSortedFunc_sint (x : List Int) (cmp : Int → Int → Option Int) : Option Bool :=
  Option.bind (loopM (slices_IsSortedFunc_sint_b1 x cmp) (w64 ((x.length : Int) - 1))) fun (t : Int ⊕ Bool) => match t with | .inl _ => (some true) | .inr r2 => some r2
/-- magneto/torque.Valid$1 -/
noncomputable def torque_Valid_1 (a : Int) (b2 : Int) : Option Int :=
  some (w64 (b2 - a))
/-- magneto/torque.Valid$2 -/
noncomputable def torque_Valid_2 (row : List Int) : Option Bool :=
  Option.bind (torque_outside row 0 10000) fun v => Option.bind (bif v then (some true) else (Option.bind (slices_IsSorted_sint row) fun v2 => some (!v2))) fun b2 => some b2
/-- magneto/torque.Valid -/
noncomputable def torque_Valid (t2 : STables) : Option Bool :=
  Option.bind (surface_Valid t2.Torque) fun v => Option.bind (bif (!v) then (some true) else (Option.bind (curve_Valid t2.Efficiency) fun v2 => some (!v2))) fun b2 => Option.bind (bif b2 then (some true) else (Option.bind (torque_outside t2.Efficiency.Y 0 1000) fun v3 => some v3)) fun b3 => bif b3 then (some false) else (Option.bind (slices_IsSortedFunc_sint t2.Efficiency.Y torque_Valid_1) fun v4 => bif (!v4) then (some false) else (Option.bind (slices_ContainsFunc_ssint t2.Torque.Z torque_Valid_2) fun v5 => some (!v5)))
/-- magneto/control.all$1 -/
noncomputable def control_all_1 (x : Int) (c : Int) (c2 : Int) : Option Bool :=
  Option.bind (control_in x c c2) fun v => some (!v)
/-- magneto/control.all -/
noncomputable def control_all (l : List Int) (low : Int) (high : Int) : Option Bool :=
  Option.bind (slices_ContainsFunc_sint l (fun x0 => control_all_1 x0 low high)) fun v => some (!v)
/-- magneto/filter.ValidGain -/
noncomputable def filter_ValidGain (g : SGain) : Option Bool :=
  some (((((((decide (g.P ≥ 0)) && (decide (g.P ≤ 65536))) && (decide (g.I ≥ 0))) && (decide (g.I ≤ 65536))) && (decide (g.Low ≥ (-1073741824)))) && (decide (g.Low ≤ g.High))) && (decide (g.High ≤ 1073741824)))
/-- magneto/control.Valid -/
noncomputable def control_Valid_b1 (_ : Int) (x : List Int) (_ : Unit) : Option (Fl Unit Bool) :=
  Option.bind (control_all x (-1280) 3840) fun v7 => bif (!v7) then (some (.ret false)) else (some (.next ()))
noncomputable def control_Valid (t2 : STables) : Option Bool :=
  Option.bind (air_Valid t2) fun v => Option.bind (bif (!v) then (some true) else (Option.bind (torque_Valid t2) fun v2 => some (!v2))) fun b2 => Option.bind (bif b2 then (some true) else (Option.bind (surface_Valid t2.Spark) fun v3 => some (!v3))) fun b3 => Option.bind (bif b3 then (some true) else (Option.bind (surface_Valid t2.Wish) fun v4 => some (!v4))) fun b4 => Option.bind (bif b4 then (some true) else (Option.bind (curve_Valid t2.Dwell) fun v5 => some (!v5))) fun b5 => Option.bind (bif b5 then (some true) else (Option.bind (curve_Valid t2.Dead) fun v6 => some (!v6))) fun b6 => bif b6 then (some false) else (Option.bind (rangeM t2.Spark.Z (control_Valid_b1) ()) fun (t : Unit ⊕ Bool) => match t with | .inl _ => (Option.bind (control_all t2.Dwell.Y 500 10000) fun v8 => Option.bind (bif v8 then (Option.bind (control_all t2.Dead.Y 0 10000) fun v9 => some v9) else (some false)) fun b7 => Option.bind (bif b7 then (Option.bind (filter_ValidGain t2.Idle) fun v10 => some v10) else (some false)) fun b8 => some b8) | .inr r2 => some r2)
/-- magneto/magnetoref06.far -/
noncomputable def magnetoref06_far (n2 : Int) : Option Bool :=
  some ((decide (n2 < (-1073741824))) || (decide (n2 > 1073741824)))
/-- magneto/magnetoref06.Axis -/
noncomputable def magnetoref06_Axis_b1 (l : List Int) (i : Int) : Option (Int ⊕ (Int ⊕ Bool)) :=
  bif (decide (i < (l.length : Int))) then (Option.bind (Option.bind (getI l i) fun x => Option.bind (magnetoref06_far x) fun v => bif v then (some true) else (bif (decide (i > 0)) then (Option.bind (getI l (w64 (i - 1))) fun x2 => some (decide (x ≤ x2))) else (some false))) fun (v2 : Bool) => bif v2 then (some (.inr (.inr false))) else (some (.inl (w64 (i + 1))))) else (some (.inr (.inl i)))
noncomputable def magnetoref06_Axis (l : List Int) : Option Bool :=
  bif ((decide ((l.length : Int) < 2)) || (decide ((l.length : Int) > 32))) then (some false) else (Option.bind (loopM (magnetoref06_Axis_b1 l) 0) fun (t : Int ⊕ Bool) => match t with | .inl _ => (some true) | .inr r2 => some r2)
/-- magneto/magnetoref06.Valid -/
noncomputable def magnetoref06_Valid_b2 (m2 : SMap) (x : List Int) (j : Int) : Option (Int ⊕ (Int ⊕ Bool)) :=
  bif (decide (j < (m2.Y.length : Int))) then (Option.bind (getI x j) fun x2 => Option.bind (magnetoref06_far x2) fun v3 => bif v3 then (some (.inr (.inr false))) else (some (.inl (w64 (j + 1))))) else (some (.inr (.inl j)))
noncomputable def magnetoref06_Valid_b1 (m2 : SMap) (i : Int) : Option (Int ⊕ (Int ⊕ Bool)) :=
  bif (decide (i < (m2.Z.length : Int))) then (Option.bind (getI m2.Z i) fun x => bif ((x.length : Int) != (m2.Y.length : Int)) then (some (.inr (.inr false))) else (Option.bind (loopM (magnetoref06_Valid_b2 m2 x) 0) fun (t : Int ⊕ Bool) => match t with | .inl _ => (some (.inl (w64 (i + 1)))) | .inr r2 => some (.inr (.inr r2)))) else (some (.inr (.inl i)))
noncomputable def magnetoref06_Valid (m2 : SMap) : Option Bool :=
  Option.bind (magnetoref06_Axis m2.X) fun v => Option.bind (bif (!v) then (some true) else (Option.bind (magnetoref06_Axis m2.Y) fun v2 => some (!v2))) fun b2 => bif (b2 || ((m2.Z.length : Int) != (m2.X.length : Int))) then (some false) else (Option.bind (loopM (magnetoref06_Valid_b1 m2) 0) fun (t : Int ⊕ Bool) => match t with | .inl _ => (some true) | .inr r3 => some r3)
/-- magneto/magnetoref05.Fits -/
noncomputable def magnetoref05_Fits (x : Int) : Option Bool :=
  some ((decide (x ≥ (-1073741824))) && (decide (x ≤ 1073741824)))
/-- magneto/magnetoref05.Axis -/
noncomputable def magnetoref05_Axis_b1 (l : List Int) (i : Int) : Option (Int ⊕ (Int ⊕ Bool)) :=
  bif (decide (i < (l.length : Int))) then (Option.bind (Option.bind (getI l i) fun x => Option.bind (magnetoref05_Fits x) fun v => bif (!v) then (some true) else (bif (decide (i > 0)) then (Option.bind (getI l (w64 (i - 1))) fun x2 => some (decide (x ≤ x2))) else (some false))) fun (v2 : Bool) => bif v2 then (some (.inr (.inr false))) else (some (.inl (w64 (i + 1))))) else (some (.inr (.inl i)))
noncomputable def magnetoref05_Axis (l : List Int) : Option Bool :=
  bif ((decide ((l.length : Int) < 2)) || (decide ((l.length : Int) > 32))) then (some false) else (Option.bind (loopM (magnetoref05_Axis_b1 l) 0) fun (t : Int ⊕ Bool) => match t with | .inl _ => (some true) | .inr r2 => some r2)
/-- magneto/magnetoref05.Valid -/
noncomputable def magnetoref05_Valid_b1 (c : SCurve) (i : Int) : Option (Int ⊕ (Int ⊕ Bool)) :=
  bif (decide (i < (c.Y.length : Int))) then (Option.bind (getI c.Y i) fun x => Option.bind (magnetoref05_Fits x) fun v2 => bif (!v2) then (some (.inr (.inr false))) else (some (.inl (w64 (i + 1))))) else (some (.inr (.inl i)))
noncomputable def magnetoref05_Valid (c : SCurve) : Option Bool :=
  Option.bind (magnetoref05_Axis c.X) fun v => bif ((!v) || ((c.Y.length : Int) != (c.X.length : Int))) then (some false) else (Option.bind (loopM (magnetoref05_Valid_b1 c) 0) fun (t : Int ⊕ Bool) => match t with | .inl _ => (some true) | .inr r2 => some r2)
/-- magneto/magnetoref29.in -/
noncomputable def magnetoref29_in (x : Int) (low : Int) (high : Int) : Option Bool :=
  some ((decide (x ≥ low)) && (decide (x ≤ high)))
/-- magneto/magnetoref29.Valid -/
noncomputable def magnetoref29_Valid_b2 (t2 : STables) (i : Int) (j : Int) : Option (Int ⊕ (Int ⊕ Bool)) :=
  Option.bind (getI t2.Air.Z i) fun x => bif (decide (j < (x.length : Int))) then (Option.bind (Option.bind (getI x j) fun x2 => Option.bind (magnetoref29_in x2 0 1048576) fun v3 => bif (!v3) then (some true) else (bif (decide (j > 0)) then (Option.bind (getI x (w64 (j - 1))) fun x3 => some (decide (x2 < x3))) else (some false))) fun (v4 : Bool) => bif v4 then (some (.inr (.inr false))) else (some (.inl (w64 (j + 1))))) else (some (.inr (.inl j)))
noncomputable def magnetoref29_Valid_b1 (t2 : STables) (i : Int) : Option (Int ⊕ (Int ⊕ Bool)) :=
  bif (decide (i < (t2.Air.Z.length : Int))) then (Option.bind (loopM (magnetoref29_Valid_b2 t2 i) 0) fun (t : Int ⊕ Bool) => match t with | .inl _ => (some (.inl (w64 (i + 1)))) | .inr r2 => some (.inr (.inr r2))) else (some (.inr (.inl i)))
noncomputable def magnetoref29_Valid_b3 (t2 : STables) (i3 : Int) : Option (Int ⊕ (Int ⊕ Bool)) :=
  bif (decide (i3 < (t2.AirTemp.Y.length : Int))) then (Option.bind (getI t2.AirTemp.Y i3) fun x4 => Option.bind (magnetoref29_in x4 100 3000) fun v5 => bif (!v5) then (some (.inr (.inr false))) else (some (.inl (w64 (i3 + 1))))) else (some (.inr (.inl i3)))
noncomputable def magnetoref29_Valid (t2 : STables) : Option Bool :=
  Option.bind (magnetoref06_Valid t2.Air) fun v => Option.bind (bif (!v) then (some true) else (Option.bind (magnetoref05_Valid t2.AirTemp) fun v2 => some (!v2))) fun b2 => bif b2 then (some false) else (Option.bind (loopM (magnetoref29_Valid_b1 t2) 0) fun (t : Int ⊕ Bool) => match t with | .inl _ => (Option.bind (loopM (magnetoref29_Valid_b3 t2) 0) fun (t : Int ⊕ Bool) => match t with | .inl _ => (some true) | .inr r3 => some r3) | .inr r4 => some r4)
/-- magneto/magnetoref38.between -/
noncomputable def magnetoref38_between (n2 : Int) (low : Int) (high : Int) : Option Bool :=
  some ((decide (n2 ≥ low)) && (decide (n2 ≤ high)))
/-- magneto/magnetoref38.spark -/
noncomputable def magnetoref38_spark_b2 (t2 : STables) (i : Int) (j : Int) : Option (Int ⊕ (Int ⊕ Bool)) :=
  Option.bind (getI t2.Spark.Z i) fun x => bif (decide (j < (x.length : Int))) then (Option.bind (getI x j) fun x2 => Option.bind (magnetoref38_between x2 (-1280) 3840) fun v3 => bif (!v3) then (some (.inr (.inr false))) else (some (.inl (w64 (j + 1))))) else (some (.inr (.inl j)))
noncomputable def magnetoref38_spark_b1 (t2 : STables) (i : Int) : Option (Int ⊕ (Int ⊕ Bool)) :=
  bif (decide (i < (t2.Spark.Z.length : Int))) then (Option.bind (loopM (magnetoref38_spark_b2 t2 i) 0) fun (t : Int ⊕ Bool) => match t with | .inl _ => (some (.inl (w64 (i + 1)))) | .inr r2 => some (.inr (.inr r2))) else (some (.inr (.inl i)))
noncomputable def magnetoref38_spark_b3 (t2 : STables) (i3 : Int) : Option (Int ⊕ (Int ⊕ Bool)) :=
  bif (decide (i3 < (t2.Dwell.Y.length : Int))) then (Option.bind (getI t2.Dwell.Y i3) fun x3 => Option.bind (magnetoref38_between x3 500 10000) fun v4 => bif (!v4) then (some (.inr (.inr false))) else (some (.inl (w64 (i3 + 1))))) else (some (.inr (.inl i3)))
noncomputable def magnetoref38_spark (t2 : STables) : Option Bool :=
  Option.bind (magnetoref06_Valid t2.Spark) fun v => Option.bind (bif (!v) then (some true) else (Option.bind (magnetoref05_Valid t2.Dwell) fun v2 => some (!v2))) fun b2 => bif b2 then (some false) else (Option.bind (loopM (magnetoref38_spark_b1 t2) 0) fun (t : Int ⊕ Bool) => match t with | .inl _ => (Option.bind (loopM (magnetoref38_spark_b3 t2) 0) fun (t : Int ⊕ Bool) => match t with | .inl _ => (some true) | .inr r3 => some r3) | .inr r4 => some r4)
/-- magneto/magnetoref31.Falls -/
noncomputable def magnetoref31_Falls_b1 (l : List Int) (i : Int) : Option (Int ⊕ (Int ⊕ Bool)) :=
  bif (decide (i < (l.length : Int))) then (Option.bind (getI l i) fun x => Option.bind (getI l (w64 (i - 1))) fun x2 => bif (decide (x > x2)) then (some (.inr (.inr false))) else (some (.inl (w64 (i + 1))))) else (some (.inr (.inl i)))
noncomputable def magnetoref31_Falls (l : List Int) : Option Bool :=
  Option.bind (loopM (magnetoref31_Falls_b1 l) 1) fun (t : Int ⊕ Bool) => match t with | .inl _ => (some true) | .inr r2 => some r2
/-- magneto/magnetoref31.In -/
noncomputable def magnetoref31_In (x : Int) (low : Int) (high : Int) : Option Bool :=
  some ((decide (x ≥ low)) && (decide (x ≤ high)))
/-- magneto/magnetoref31.all -/
noncomputable def magnetoref31_all_b1 (l : List Int) (low : Int) (high : Int) (i : Int) : Option (Int ⊕ (Int ⊕ Bool)) :=
  bif (decide (i < (l.length : Int))) then (Option.bind (getI l i) fun x => Option.bind (magnetoref31_In x low high) fun v => bif (!v) then (some (.inr (.inr false))) else (some (.inl (w64 (i + 1))))) else (some (.inr (.inl i)))
noncomputable def magnetoref31_all (l : List Int) (low : Int) (high : Int) : Option Bool :=
  Option.bind (loopM (magnetoref31_all_b1 l low high) 0) fun (t : Int ⊕ Bool) => match t with | .inl _ => (some true) | .inr r2 => some r2
/-- magneto/magnetoref31.Curve -/
noncomputable def magnetoref31_Curve (c : SCurve) : Option Bool :=
  Option.bind (magnetoref05_Valid c) fun v => Option.bind (bif v then (Option.bind (magnetoref31_Falls c.Y) fun v2 => some v2) else (some false)) fun b2 => Option.bind (bif b2 then (Option.bind (magnetoref31_all c.Y 0 1000) fun v3 => some v3) else (some false)) fun b3 => some b3
/-- magneto/magnetoref35.Valid -/
noncomputable def magnetoref35_Valid_b2 (t2 : STables) (i : Int) (j : Int) : Option (Int ⊕ (Int ⊕ Bool)) :=
  bif (decide (j < (t2.Torque.Y.length : Int))) then (Option.bind (getI t2.Torque.Z i) fun x => Option.bind (getI x j) fun x2 => Option.bind (bif ((decide (x2 < 0)) || (decide (x2 > 10000))) then (some true) else (Option.bind (bif (decide (j > 0)) then (Option.bind (getI x (w64 (j - 1))) fun x3 => some (decide (x2 < x3))) else (some false)) fun b3 => some b3)) fun b4 => bif b4 then (some (.inr (.inr false))) else (some (.inl (w64 (j + 1))))) else (some (.inr (.inl j)))
noncomputable def magnetoref35_Valid_b1 (t2 : STables) (i : Int) : Option (Int ⊕ (Int ⊕ Bool)) :=
  bif (decide (i < (t2.Torque.Z.length : Int))) then (Option.bind (loopM (magnetoref35_Valid_b2 t2 i) 0) fun (t : Int ⊕ Bool) => match t with | .inl _ => (some (.inl (w64 (i + 1)))) | .inr r2 => some (.inr (.inr r2))) else (some (.inr (.inl i)))
noncomputable def magnetoref35_Valid (t2 : STables) : Option Bool :=
  Option.bind (magnetoref06_Valid t2.Torque) fun v => Option.bind (bif (!v) then (some true) else (Option.bind (magnetoref31_Curve t2.Efficiency) fun v2 => some (!v2))) fun b2 => bif b2 then (some false) else (Option.bind (loopM (magnetoref35_Valid_b1 t2) 0) fun (t : Int ⊕ Bool) => match t with | .inl _ => (some true) | .inr r3 => some r3)
/-- magneto/magnetoref30.Dead -/
noncomputable def magnetoref30_Dead_b1 (t2 : STables) (i : Int) : Option (Int ⊕ (Int ⊕ Bool)) :=
  bif (decide (i < (t2.Dead.Y.length : Int))) then (Option.bind (getI t2.Dead.Y i) fun x => Option.bind (bif (decide (x < 0)) then (some true) else (some (decide (x > 10000)))) fun b2 => bif b2 then (some (.inr (.inr false))) else (some (.inl (w64 (i + 1))))) else (some (.inr (.inl i)))
noncomputable def magnetoref30_Dead (t2 : STables) : Option Bool :=
  Option.bind (magnetoref05_Valid t2.Dead) fun v => bif (!v) then (some false) else (Option.bind (loopM (magnetoref30_Dead_b1 t2) 0) fun (t : Int ⊕ Bool) => match t with | .inl _ => (some true) | .inr r2 => some r2)
/-- magneto/magnetoref07.Gain -/
noncomputable def magnetoref07_Gain (g : SGain) : Option Bool :=
  some (((((((decide (g.P ≥ 0)) && (decide (g.P ≤ 65536))) && (decide (g.I ≥ 0))) && (decide (g.I ≤ 65536))) && (decide (g.Low ≥ (-1073741824)))) && (decide (g.Low ≤ g.High))) && (decide (g.High ≤ 1073741824)))
/-- magneto/magnetoref38.Valid -/
noncomputable def magnetoref38_Valid (t2 : STables) : Option Bool :=
  Option.bind (magnetoref29_Valid t2) fun v => Option.bind (bif v then (Option.bind (magnetoref38_spark t2) fun v2 => some v2) else (some false)) fun b2 => Option.bind (bif b2 then (Option.bind (magnetoref35_Valid t2) fun v3 => some v3) else (some false)) fun b3 => Option.bind (bif b3 then (Option.bind (magnetoref30_Dead t2) fun v4 => some v4) else (some false)) fun b4 => Option.bind (bif b4 then (Option.bind (magnetoref06_Valid t2.Wish) fun v5 => some v5) else (some false)) fun b5 => Option.bind (bif b5 then (Option.bind (magnetoref07_Gain t2.Idle) fun v6 => some v6) else (some false)) fun b6 => some b6
/-- magneto/magnetoref34.Same -/
noncomputable def magnetoref34_Same_b1 (a : SProbe) (b2 : SProbe) (i : Int) : Option (Int ⊕ (Int ⊕ Bool)) :=
  bif (decide (i < (a.Cells.length : Int))) then (Option.bind (getI a.Cells i) fun x => Option.bind (getI b2.Cells i) fun x2 => bif (!((x.Value == x2.Value) && ((x.Count == x2.Count) && true))) then (some (.inr (.inr false))) else (some (.inl (w64 (i + 1))))) else (some (.inr (.inl i)))
noncomputable def magnetoref34_Same (a : SProbe) (b2 : SProbe) : Option Bool :=
  bif (((((!(a.Active == b2.Active)) || (!(a.Rich == b2.Rich))) || (a.Factor != b2.Factor)) || (a.Wait != b2.Wait)) || ((a.Cells.length : Int) != (b2.Cells.length : Int))) then (some false) else (Option.bind (loopM (magnetoref34_Same_b1 a b2) 0) fun (t : Int ⊕ Bool) => match t with | .inl _ => (some true) | .inr r2 => some r2)
/-- magneto/magnetoref38.Same -/
noncomputable def magnetoref38_Same_b1 (a : SControls) (b2 : SControls) (i : Int) : Option (Int ⊕ (Int ⊕ Bool)) :=
  bif (decide (i < (a.Knock.length : Int))) then (Option.bind (getI a.Knock i) fun x => Option.bind (getI b2.Knock i) fun x2 => bif (!((x.Retard == x2.Retard) && ((x.Noise == x2.Noise) && ((x.Quiet == x2.Quiet) && true)))) then (some (.inr (.inr false))) else (some (.inl (w64 (i + 1))))) else (some (.inr (.inl i)))
noncomputable def magnetoref38_Same (a : SControls) (b2 : SControls) : Option Bool :=
  Option.bind (bif (!((a.Pedal.Value == b2.Pedal.Value) && ((a.Pedal.Differ == b2.Pedal.Differ) && ((a.Pedal.Fault == b2.Pedal.Fault) && true)))) then (some true) else (some (!((a.Idle.Sum == b2.Idle.Sum) && true)))) fun b3 => Option.bind (bif b3 then (some true) else (Option.bind (magnetoref34_Same a.Probe b2.Probe) fun v => some (!v))) fun b4 => Option.bind (bif (b4 || (a.Film != b2.Film)) then (some true) else (some (!((a.Grant.Torque == b2.Grant.Torque) && ((a.Grant.Source == b2.Grant.Source) && true))))) fun b5 => bif (b5 || ((a.Knock.length : Int) != (b2.Knock.length : Int))) then (some false) else (Option.bind (loopM (magnetoref38_Same_b1 a b2) 0) fun (t : Int ⊕ Bool) => match t with | .inl _ => (some true) | .inr r2 => some r2)
/-- magneto/magnetoref37.Valid -/
noncomputable def magnetoref37_Valid (p2 : SPedal) : Option Bool :=
  bif (((((decide (p2.Value < 0)) || (decide (p2.Value > 1000))) || (decide (p2.Differ < 0))) || (decide (p2.Differ > 3))) || (!(p2.Fault == (p2.Differ == 3)))) then (some false) else (some ((!p2.Fault) || (decide (p2.Value ≤ 200))))
/-- magneto/magnetoref34.between -/
noncomputable def magnetoref34_between (n2 : Int) (low : Int) (high : Int) : Option Bool :=
  some ((decide (n2 ≥ low)) && (decide (n2 ≤ high)))
/-- magneto/magnetoref34.Valid -/
noncomputable def magnetoref34_Valid_b1 (p2 : SProbe) (i : Int) : Option (Int ⊕ (Int ⊕ Bool)) :=
  bif (decide (i < 9)) then (Option.bind (getI p2.Cells i) fun x => Option.bind (magnetoref34_between x.Value (-100) 100) fun v3 => Option.bind (bif (!v3) then (some true) else (Option.bind (magnetoref34_between x.Count 0 1000) fun v4 => some (!v4))) fun b3 => bif b3 then (some (.inr (.inr false))) else (some (.inl (w64 (i + 1))))) else (some (.inr (.inl i)))
noncomputable def magnetoref34_Valid (p2 : SProbe) : Option Bool :=
  Option.bind (magnetoref34_between p2.Factor 750 1250) fun v => Option.bind (bif (!v) then (some true) else (Option.bind (magnetoref34_between p2.Wait 0 1000) fun v2 => some (!v2))) fun b2 => bif (b2 || ((p2.Cells.length : Int) != 9)) then (some false) else (Option.bind (loopM (magnetoref34_Valid_b1 p2) 0) fun (t : Int ⊕ Bool) => match t with | .inl _ => (Option.bind (bif p2.Active then (some true) else (some (((p2.Factor == 1000) && (p2.Wait == 0)) && (!p2.Rich)))) fun b4 => some b4) | .inr r2 => some r2)
/-- magneto/magnetoref07.Integral -/
noncomputable def magnetoref07_Integral (s : SIntegral) : Option Bool :=
  some ((decide (s.Sum ≥ (-4398046511104))) && (decide (s.Sum ≤ 4398046511104)))
/-- magneto/magnetoref32.Intensity -/
noncomputable def magnetoref32_Intensity (n2 : Int) : Option Bool :=
  some ((decide (n2 ≥ 0)) && (decide (n2 ≤ 4095)))
/-- magneto/magnetoref32.Valid -/
noncomputable def magnetoref32_Valid (k : SKnock) : Option Bool :=
  Option.bind (bif ((decide (k.Retard ≥ 0)) && (decide (k.Retard ≤ 960))) then (Option.bind (magnetoref32_Intensity k.Noise) fun v => some v) else (some false)) fun b2 => some ((b2 && (decide (k.Quiet ≥ 0))) && (decide (k.Quiet ≤ 99)))
/-- magneto/magnetoref36.Torque -/
noncomputable def magnetoref36_Torque (t2 : Int) : Option Bool :=
  some ((decide (t2 ≥ (-5000))) && (decide (t2 ≤ 10000)))
/-- magneto/magnetoref38.Good -/
noncomputable def magnetoref38_Good_b1 (c : SControls) (i : Int) : Option (Int ⊕ (Int ⊕ Bool)) :=
  bif (decide (i < (c.Knock.length : Int))) then (Option.bind (getI c.Knock i) fun x => Option.bind (magnetoref32_Valid x) fun v6 => bif (!v6) then (some (.inr (.inr false))) else (some (.inl (w64 (i + 1))))) else (some (.inr (.inl i)))
noncomputable def magnetoref38_Good (e2 : SEngine) (c : SControls) : Option Bool :=
  Option.bind (magnetoref23_Valid e2) fun v => Option.bind (bif (!v) then (some true) else (Option.bind (magnetoref37_Valid c.Pedal) fun v2 => some (!v2))) fun b2 => Option.bind (bif b2 then (some true) else (Option.bind (magnetoref34_Valid c.Probe) fun v3 => some (!v3))) fun b3 => Option.bind (bif b3 then (some true) else (Option.bind (magnetoref07_Integral c.Idle) fun v4 => some (!v4))) fun b4 => Option.bind (bif (b4 || ((c.Knock.length : Int) != (e2.Order.length : Int))) then (some true) else (Option.bind (magnetoref38_between c.Film 0 1073741824) fun v5 => some (!v5))) fun b5 => bif b5 then (some false) else (Option.bind (loopM (magnetoref38_Good_b1 c) 0) fun (t : Int ⊕ Bool) => match t with | .inl _ => (Option.bind (magnetoref36_Torque c.Grant.Torque) fun v7 => Option.bind (bif v7 then (Option.bind (magnetoref38_between c.Grant.Source (-1) 15) fun v8 => some v8) else (some false)) fun b6 => some b6) | .inr r2 => some r2)
/-- slices.IndexFunc[[]magneto/api.Request,magneto/api.Request] -/
noncomputable def slices_IndexFunc_sRequest_b1 (s : List SRequest) (f2 : SRequest → Option Bool) (i : Int) (_ : Unit) : Option (Fl Unit Int) :=
  Option.bind (getI s i) fun x => Option.bind (f2 x) fun v => bif v then (some (.ret i)) else (some (.next ()))
noncomputable def slices_IndexFunc_sRequest (s : List SRequest) (f2 : SRequest → Option Bool) : Option Int :=
  Option.bind (rangeN (s.length : Int) (slices_IndexFunc_sRequest_b1 s f2) ()) fun (t : Unit ⊕ Int) => match t with | .inl _ => (some (-1)) | .inr r2 => some r2
/-- slices.ContainsFunc[[]magneto/api.Request,magneto/api.Request] -/
noncomputable def slices_ContainsFunc_sRequest (s : List SRequest) (f2 : SRequest → Option Bool) : Option Bool :=
  Option.bind (slices_IndexFunc_sRequest s f2) fun v => some (decide (v ≥ 0))
/-- magneto/arbiter.torque -/
noncomputable def arbiter_torque (t2 : Int) : Option Bool :=
  some ((decide (t2 ≥ (-5000))) && (decide (t2 ≤ 10000)))
/-- magneto/arbiter.Valid -/
noncomputable def arbiter_Valid (r2 : SRequest) : Option Bool :=
  Option.bind (bif ((((decide (r2.Source < 0)) || (decide (r2.Source > 15))) || (decide (r2.Priority < 0))) || (decide (r2.Priority > 15))) then (some true) else (Option.bind (arbiter_torque r2.Torque) fun v => some (!v))) fun b2 => bif b2 then (some false) else (Option.bind (bif (r2.Kind == 1) then (some true) else (Option.bind (bif (decide (r2.Source ≤ 1)) then (some ((r2.Kind == 2) || (r2.Kind == 3))) else (some false)) fun b3 => some b3)) fun b4 => some b4)
/-- magneto/control.Check$1 -/
noncomputable def control_Check_1 (r2 : SRequest) : Option Bool :=
  Option.bind (arbiter_Valid r2) fun v => some (!v)
/-- magneto/control.Check -/
noncomputable def control_Check (i : SInputs) (cylinders : Int) : Option Bool :=
  Option.bind (control_in cylinders 1 8) fun v => bif (((!v) || ((i.Intensity.length : Int) != cylinders)) || (decide ((i.Requests.length : Int) > 30))) then (some false) else (Option.bind (control_in i.Speed 0 12000) fun v2 => Option.bind (bif v2 then (Option.bind (control_in i.Pressure 50 3000) fun v3 => some v3) else (some false)) fun b2 => Option.bind (bif b2 then (Option.bind (control_in i.AirTemp (-40) 150) fun v4 => some v4) else (some false)) fun b3 => Option.bind (bif b3 then (Option.bind (control_in i.Coolant (-40) 150) fun v5 => some v5) else (some false)) fun b4 => Option.bind (bif b4 then (Option.bind (control_in i.Voltage 0 20000) fun v6 => some v6) else (some false)) fun b5 => Option.bind (bif b5 then (Option.bind (control_in i.Lambda 0 20000) fun v7 => some v7) else (some false)) fun b6 => Option.bind (bif b6 then (Option.bind (control_all i.Intensity 0 4095) fun v8 => some v8) else (some false)) fun b7 => Option.bind (bif b7 then (Option.bind (slices_ContainsFunc_sRequest i.Requests control_Check_1) fun v9 => some (!v9)) else (some false)) fun b8 => some b8)
/-- magneto/magnetoref36.Valid -/
noncomputable def magnetoref36_Valid (r2 : SRequest) : Option Bool :=
  Option.bind (bif ((((decide (r2.Source < 0)) || (decide (r2.Source > 15))) || (decide (r2.Priority < 0))) || (decide (r2.Priority > 15))) then (some true) else (Option.bind (magnetoref36_Torque r2.Torque) fun v => some (!v))) fun b2 => bif ((b2 || (decide (r2.Kind < 1))) || (decide (r2.Kind > 3))) then (some false) else (some ((decide (r2.Source ≤ 1)) || (r2.Kind == 1)))
/-- magneto/magnetoref38.Check -/
noncomputable def magnetoref38_Check_b1 (v_in : SInputs) (n2 : Int) (i : Int) : Option (Int ⊕ (Int ⊕ Bool)) :=
  bif (decide (i < n2)) then (Option.bind (getI v_in.Intensity i) fun x => Option.bind (magnetoref32_Intensity x) fun v8 => bif (!v8) then (some (.inr (.inr false))) else (some (.inl (w64 (i + 1))))) else (some (.inr (.inl i)))
noncomputable def magnetoref38_Check_b2 (v_in : SInputs) (i3 : Int) : Option (Int ⊕ (Int ⊕ Bool)) :=
  bif (decide (i3 < (v_in.Requests.length : Int))) then (Option.bind (getI v_in.Requests i3) fun x2 => Option.bind (magnetoref36_Valid x2) fun v9 => bif (!v9) then (some (.inr (.inr false))) else (some (.inl (w64 (i3 + 1))))) else (some (.inr (.inl i3)))
noncomputable def magnetoref38_Check (v_in : SInputs) (n2 : Int) : Option Bool :=
  Option.bind (magnetoref38_between n2 1 8) fun v => Option.bind (bif (!v) then (some true) else (Option.bind (magnetoref38_between v_in.Speed 0 12000) fun v2 => some (!v2))) fun b2 => Option.bind (bif b2 then (some true) else (Option.bind (magnetoref38_between v_in.Pressure 50 3000) fun v3 => some (!v3))) fun b3 => Option.bind (bif b3 then (some true) else (Option.bind (magnetoref38_between v_in.AirTemp (-40) 150) fun v4 => some (!v4))) fun b4 => Option.bind (bif b4 then (some true) else (Option.bind (magnetoref38_between v_in.Coolant (-40) 150) fun v5 => some (!v5))) fun b5 => Option.bind (bif b5 then (some true) else (Option.bind (magnetoref38_between v_in.Voltage 0 20000) fun v6 => some (!v6))) fun b6 => Option.bind (bif b6 then (some true) else (Option.bind (magnetoref38_between v_in.Lambda 0 20000) fun v7 => some (!v7))) fun b7 => bif b7 then (some false) else (bif (((v_in.Intensity.length : Int) != n2) || (decide ((v_in.Requests.length : Int) > 30))) then (some false) else (Option.bind (loopM (magnetoref38_Check_b1 v_in n2) 0) fun (t : Int ⊕ Bool) => match t with | .inl _ => (Option.bind (loopM (magnetoref38_Check_b2 v_in) 0) fun (t : Int ⊕ Bool) => match t with | .inl _ => (some true) | .inr r2 => some r2) | .inr r3 => some r3))
/-- magneto/magnetolaw38.ControlStates -/
noncomputable def magnetolaw38_ControlStates (t2 : STables) (e2 : SEngine) (c : SControls) (v_in : SInputs) (cylinders : Int) : Option Bool :=
  Option.bind (magnetolaw38_awake) fun v => bif (!v) then (some false) else (Option.bind (magnetolaw38_few t2) fun v2 => Option.bind (bif (!v2) then (some true) else (Option.bind (magnetolaw38_small e2 c v_in) fun v3 => some (!v3))) fun b2 => bif b2 then (some true) else (Option.bind (control_New e2) fun r2 => Option.bind (magnetoref38_New e2) fun r3 => Option.bind (control_Valid t2) fun v4 => Option.bind (magnetoref38_Valid t2) fun v5 => bif (v4 == v5) then (bif (r2.2 == r3.2) then (Option.bind (magnetoref38_Same (⟨(⟨r2.1.Pedal.Value, r2.1.Pedal.Differ, r2.1.Pedal.Fault⟩ : SPedal), (⟨r2.1.Idle.Sum⟩ : SIntegral), r2.1.Knock, (⟨r2.1.Probe.Active, r2.1.Probe.Rich, r2.1.Probe.Factor, r2.1.Probe.Wait, r2.1.Probe.Cells⟩ : SProbe), r2.1.Film, (⟨r2.1.Grant.Torque, r2.1.Grant.Source⟩ : SGrant)⟩ : SControls) (⟨(⟨r3.1.Pedal.Value, r3.1.Pedal.Differ, r3.1.Pedal.Fault⟩ : SPedal), (⟨r3.1.Idle.Sum⟩ : SIntegral), r3.1.Knock, (⟨r3.1.Probe.Active, r3.1.Probe.Rich, r3.1.Probe.Factor, r3.1.Probe.Wait, r3.1.Probe.Cells⟩ : SProbe), r3.1.Film, (⟨r3.1.Grant.Torque, r3.1.Grant.Source⟩ : SGrant)⟩ : SControls)) fun v6 => bif v6 then (Option.bind (control_Good e2 c) fun v7 => Option.bind (magnetoref38_Good e2 c) fun v8 => bif (v7 == v8) then (Option.bind (control_Check v_in cylinders) fun v9 => Option.bind (magnetoref38_Check v_in cylinders) fun v10 => some (v9 == v10)) else (some false)) else (some false)) else (some false)) else (some false)))
end Go.Pv

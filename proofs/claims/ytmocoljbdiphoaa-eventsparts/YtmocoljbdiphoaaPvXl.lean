/- The value machine, part Xl: what grows from nil by zeros; cap and slicing of nil. -/
import Derived.Test.YtmocoljbdiphoaaPvXj
namespace Go.Pv
open Go.RowKit

/-- Zeros behind nil. -/
theorem run_append_zeros {P : Program} {w : World} (t u ty e : TypeId) (i : TypeInfo) (z : Value) (kk ik : IntKind) (ht : P.underlying t = some (.slice e)) (hu : P.underlying u = some (.int kk)) (hi : P.info? e = some i) (hz : i.zero = some z) (n : Nat) (h0 : 0 < n) (hs0 : 0 < i.size) (hn : n ≤ 1073741824) (hb : n * i.bytes ≤ 140737488355328) :
    (Builtin.append_ #[t, u] ty #[.slice none 0 0, .int ik n]).run P w =
      .ok (.slice (some ⟨w.heap.size, 0, none⟩) n (grownCap w n 0 e)) (w.drew.alloc (.cells (Builtin.zeroCells z.cells n ++ Builtin.zeroCells z.cells (grownCap w n 0 e - n)) e)) := by
  have hn0 : n ≠ 0 := by omega
  have hs1 : i.size ≠ 0 := by omega
  have hw : IntKind.i64.wrap (n : Int) = (n : Int) := w64_of (by omega) (by omega)
  have hneg : ¬ ((n : Int) < 0) := by omega
  have hbi : ¬ ((281474976710656 : Int) < (n : Int) * (i.bytes : Int)) := by
    have : ((n * i.bytes : Nat) : Int) ≤ 140737488355328 := by omega
    rw [Int.natCast_mul] at this
    omega
  have h63' : ¬ (9223372036854775807 < (n : Int)) := by omega
  have h48' : ¬ (281474976710656 < Builtin.nextslicecap n 0 * i.bytes) := by rw [nextslicecap_zero h0]; omega
  simp [Builtin.append_, run_underlying ht, run_underlying hu, sizeOf, typeInfo, zeroValue, hi, hz, Builtin.lenOf, Builtin.firstCells, hn0, hs1, hw, hneg, hbi, h63', h48', asInt, asIntOf, Question.forced, newRow, grownCap]
  intro h
  exact absurd h (Nat.mul_ne_zero hn0 hs1)

section
variable {ρ α : Type} {X : Cx} {ks : List K} {tm tm' : List (Nat × T)} {hp hp' : List (Nat × Blk)} {m : Option ρ} {Q : ρ → Exit → St → Prop} {all : Array Oper} {o : Oper} {rest : List Oper} {w0 : World} {L : Lim} {nt : Nat} {S : Nat → Prop} {E : Nat → Value} {a : Act} {w : World}

theorem Ok.zeros {P : Program} (h : Ok w0 L nt ⟨tm, hp⟩ S E a w) {id t u ty e n : Nat} {kk ik : IntKind} {ti : TI} {c : List Tree} (hbig : Nat.blt id big = true) (hf : freshT id tm = true) (hb : freshB id hp = true) (ht : P.underlying t = some (.slice e)) (hu : P.underlying u = some (.int kk)) (hte : TIok P e ti) (hz : ti.zero.length = ti.size) (hpos : 0 < ti.size)
    (hc : c = ti.zero.map fun v => nilTree (.v v)) (h0 : 0 < n) (hmax : n ≤ 1073741824) :
    ∃ v' w' E', (Builtin.append_ #[t, u] ty #[.slice none 0 0, .int ik n]).run P w = .ok v' w' ∧ E' id = v' ∧ Ok w0 L nt ⟨tm, (id, .rows e ti.size n (List.replicate n c)) :: hp⟩ S E' a w' := by
  obtain ⟨i, d, hi, hs, _, _, ⟨z, hzz, hzc⟩, hby⟩ := hte
  have hcl : c.length = ti.size := by rw [hc, List.length_map, hz]
  have hzs : z.cells.size = i.size := by rw [hs, ← hz, ← hzc]; simp
  have hbytes : n * i.bytes ≤ 140737488355328 := by
    have := Nat.mul_le_mul hmax hby
    omega
  have hr := run_append_zeros (P := P) (w := w) t u ty e i z kk ik ht hu hi hzz n h0 (by omega) hmax hbytes
  have hge := grownCap_ge w n 0 e
  have hcm : grownCap w n 0 e ≤ maxLen := grownCap_le_maxLen w n 0 e (by simp only [maxLen]; omega)
  generalize grownCap w n 0 e = cap at hr hge hcm
  have hget : ∀ k (hk : k < n * i.size) (hk2 : k < (Builtin.zeroCells z.cells n ++ Builtin.zeroCells z.cells (cap - n)).toList.length), (Builtin.zeroCells z.cells n ++ Builtin.zeroCells z.cells (cap - n)).toList[k] = ti.zero[k % ti.size]'(by rw [hz]; exact Nat.mod_lt _ hpos) := by
    intro k hk hk2
    have hm : k % z.cells.size < z.cells.size := Nat.mod_lt _ (by omega)
    have hk3 : k < (Builtin.zeroCells z.cells n).size := by rw [size_zeroCells, hzs]; exact hk
    rw [Array.getElem_toList, Array.getElem_append_left hk3]
    simp only [Builtin.zeroCells, Array.getElem_map, Array.getElem_range]
    rw [getElem!_pos z.cells _ hm]
    have : z.cells[k % z.cells.size] = z.cells.toList[k % z.cells.size]'(by simpa using hm) := by simp
    rw [this]
    simp only [hzc, hzs, hs]
  obtain ⟨E', hE, hok⟩ := h.regrow (w' := w.drew.alloc (.cells (Builtin.zeroCells z.cells n ++ Builtin.zeroCells z.cells (cap - n)) e)) (v := .slice none 0 0) (v' := .slice (some ⟨w.heap.size, 0, none⟩) n cap) (b := .rows e ti.size n (List.replicate n c)) hbig hf hb (fun β hβ => by cases hβ) (fun _ _ β _ hβ => by cases hβ)
    ⟨rfl, rfl, rfl, by simp, fun k hk _ => Below.heap_alloc w.drew _ _ hk, Nat.le_succ _⟩ (fun β hβ => by cases hβ; simp) (fun E' => by
    refine ⟨by simp, .inr ⟨w.heap.size, cap, (Builtin.zeroCells z.cells n ++ Builtin.zeroCells z.cells (cap - n)).toList, hcm, by simp, by rw [Array.toArray_toList]; exact heap_alloc_new w.drew _, ?_, by simpa using hge, ?_, ?_⟩⟩
    · rw [Array.length_toList, Array.size_append, size_zeroCells, size_zeroCells, hzs, ← Nat.add_mul, hs]
      congr 1
      omega
    · intro r hr; rw [(List.mem_replicate.1 hr).2]; exact hcl
    · intro i' j hi' hj hb'
      have hi2 : i' < n := by simpa using hi'
      simp only [List.getElem_replicate] at hj ⊢
      have hj2 : j < ti.size := by rw [← hcl]; exact hj
      have hlt : i' * ti.size + j < n * i.size := by
        have : (i' + 1) * ti.size ≤ n * ti.size := Nat.mul_le_mul_right _ (by omega)
        rw [Nat.succ_mul] at this
        rw [hs]; omega
      have e1 : (Builtin.zeroCells z.cells n ++ Builtin.zeroCells z.cells (cap - n)).toList[i' * ti.size + j] = ti.zero[j]'(by rw [hz]; exact hj2) := by
        rw [hget _ hlt hb']
        have : (i' * ti.size + j) % ti.size = j := by rw [Nat.mul_comm, Nat.mul_add_mod, Nat.mod_eq_of_lt hj2]
        simp only [this]
      rw [e1]
      have e2 : c[j] = nilTree (.v (ti.zero[j]'(by rw [hz]; exact hj2))) := by subst hc; simp
      rw [e2]
      exact nilTree_ok (.v _))
  exact ⟨_, _, E', hr, hE, hok⟩

theorem TieO.appendN {t u e d s0 s1 : Nat} {z0 z1 : List Value} {te : TI} {s x : Operand} {kk ik : IntKind} {n : Int} {enc : α → List Tree} {k : List α → Option ρ} (id : Nat) (z : α)
    (ho : o.op = .call ⟨.builtin .append, #[s, x], #[t, u]⟩) (hd : o.dst = some d) (hdn : Nat.blt d X.nt = true) (hg : guardT all.toList tm o.guard = some true) (hs : val tm s = some (.t (.v (.slice none 0 0)))) (hx : val tm x = some (.t (.v (.int ik n))))
    (hty : look X.tab t = some ⟨s0, .slice e, z0⟩) (htu : look X.tab u = some ⟨s1, .int kk, z1⟩) (hte : look X.tab e = some te) (hz : te.zero.length = te.size) (hpos : Nat.blt 0 te.size = true) (henc : enc z = te.zero.map fun v => nilTree (.v v)) (hbig : Nat.blt id big = true) (hft : freshT id tm = true) (hfb : freshB id hp = true)
    (h : ∀ y, zerosM n z = some y → TieO X all rest ks ⟨(d, .own id) :: tm, (id, .rows e te.size y.length (y.map enc)) :: hp⟩ (k y) Q) :
    TieO X all (o :: rest) ks ⟨tm, hp⟩ ((zerosM n z).bind k) Q := fun y hy a w ⟨S, E, hk⟩ => by
  cases hmk : zerosM n z with
  | none => simp [hmk] at hy
  | some l =>
    have h0 := hmk
    unfold zerosM at h0
    split at h0 <;> try (cases h0; done)
    rename_i hn
    simp only [Option.some.injEq] at h0
    simp only [hmk, Option.bind_some] at hy
    obtain ⟨dd, hu, ho2⟩ : ∃ d, X.P.underlying t = some d ∧ TD.ok X.P (.slice e) d := by
      obtain ⟨i, d, _, _, hu, hdd, _⟩ := X.htab t _ hty
      exact ⟨d, hu, hdd⟩
    simp only [TD.ok] at ho2
    subst ho2
    obtain ⟨du, hu2, ho3⟩ : ∃ d, X.P.underlying u = some d ∧ TD.ok X.P (.int kk) d := by
      obtain ⟨i, d, _, _, hu, hdd, _⟩ := X.htab u _ htu
      exact ⟨d, hu, hdd⟩
    simp only [TD.ok] at ho3
    subst ho3
    obtain ⟨j, rfl⟩ : ∃ j : Nat, n = (j : Int) := ⟨n.toNat, by omega⟩
    simp only [Int.toNat_natCast] at h0
    obtain ⟨v', w', E', hr, hE, hok⟩ := hk.zeros (P := X.P) (n := j) (c := enc z) (ty := o.type) (ik := ik) hbig hft hfb hu hu2 (X.htab e _ hte) hz (Nat.le_of_ble_eq_true hpos) henc (by omega) (by omega)
    refine wpList_step fun K hK => ?_
    rw [guardT_ok hk hg, if_pos rfl]
    unfold Oper.wp
    have hexec : (execOp a.eval o).run X.P w = .ok (.value v') w' := by
      unfold execOp
      simp only [ho, resolve, invoke, builtin, Sem.run_bind, Sem.run_pure, Result.andThen_ok, List.map_toArray, List.map_cons, List.map_nil, (hk.val hs).tv, (hk.val hx).tv, hr]
    rw [hexec]
    refine hK _ _ (h l hmk y hy _ _ ⟨S, E', ?_⟩)
    rw [hd]
    have e1 : l.map enc = List.replicate j (enc z) := by rw [← h0]; simp
    have e2 : l.length = j := by rw [← h0]; simp
    rw [e1, e2]
    exact hok.put (Nat.le_of_ble_eq_true hdn) (.own id _ hE)

theorem TieO.capNil {t e d s0 : Nat} {z0 : List Value} {x : Operand} (ho : o.op = .call ⟨.builtin .cap, #[x], #[t]⟩) (hd : o.dst = some d) (hdn : Nat.blt d X.nt = true) (hg : guardT all.toList tm o.guard = some true) (hx : val tm x = some (.t (.v (.slice none 0 0))))
    (hty : look X.tab t = some ⟨s0, .slice e, z0⟩) (h : TieO X all rest ks ⟨(d, .t (.v (.int .i64 0))) :: tm, hp⟩ m Q) : TieO X all (o :: rest) ks ⟨tm, hp⟩ m Q := by
  have := TieO.one (k := fun (_ : Unit) => m) (m₁ := some ()) (rest := rest) (ks := ks) (Q := Q) (all := all) (tm := tm) (hp := hp) hd hdn hg (fun _ => .t (.v (.int .i64 0))) (fun _ S E a w _ hk => by
    obtain ⟨dd, hdd, ho2⟩ := (X.htab t _ hty).run_under w
    simp only [TD.ok] at ho2
    subst ho2
    have hxv := (hk.val hx).tv
    refine ⟨.int .i64 0, ?_, .t (.v _)⟩
    unfold execOp
    simp [ho, resolve, invoke, builtin, hxv, Builtin.cap_, hdd, goInt]) (fun _ _ => h)
  exact this

theorem TieO.sliceNil {t e d s0 : Nat} {z0 : List Value} {te : TI} {x hi : Operand} {ik : IntKind} (ho : o.op = .slice t x none (some hi) none) (hd : o.dst = some d) (hdn : Nat.blt d X.nt = true) (hg : guardT all.toList tm o.guard = some true) (hx : val tm x = some (.t (.v (.slice none 0 0)))) (hh : val tm hi = some (.t (.v (.int ik 0))))
    (hty : look X.tab t = some ⟨s0, .slice e, z0⟩) (hte : look X.tab e = some te) (h : TieO X all rest ks ⟨(d, .t (.v (.slice none 0 0))) :: tm, hp⟩ m Q) : TieO X all (o :: rest) ks ⟨tm, hp⟩ m Q := by
  have := TieO.one (k := fun (_ : Unit) => m) (m₁ := some ()) (rest := rest) (ks := ks) (Q := Q) (all := all) (tm := tm) (hp := hp) hd hdn hg (fun _ => .t (.v (.slice none 0 0))) (fun _ S E a w _ hk => by
    obtain ⟨dd, hdd, ho2⟩ := (X.htab t _ hty).run_under w
    simp only [TD.ok] at ho2
    subst ho2
    have hsz := (X.htab e _ hte).run_size w
    have hxv := (hk.val hx).tv
    have hhv := (hk.val hh).tv
    refine ⟨.slice none 0 0, ?_, .t (.v _)⟩
    unfold execOp
    simp [ho, hxv, hhv, Instr.sliceAt, Instr.slice, Instr.sliceBounds, Instr.sliceBound, hdd, hsz, asIntOf]) (fun _ _ => h)
  exact this
end
end Go.Pv

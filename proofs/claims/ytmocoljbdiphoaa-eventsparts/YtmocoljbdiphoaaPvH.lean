/- The value machine, part H: one quiet operation in full. -/
import Derived.Test.YtmocoljbdiphoaaPvG
namespace Go.Pv
open Go.RowKit

section
variable {P : Program} {tab : Tab} {w0 : World} {L : Lim} {nt : Nat} {σ σ' : St} {S : Nat → Prop} {E : Nat → Value} {a : Act} {w : World} {t : T} {o : Oper}

theorem pure_ok {v : Value} (h : Ok w0 L nt σ S E a w) (hr : (execOp a.eval o).run P w = .ok (.value v) w) (hv : RV w S E v t) :
    ∃ v w' E', Does P o a w v w' ∧ Ok w0 L nt σ S E' a w' ∧ RV w' S E' v t := ⟨v, w, E, .inl hr, h, hv⟩

/-- The result of an optional slot content beside an unchanged state. -/
theorem map_inv {x : Option T} {σ σ' : St} {t : T} (h : x.map (·, σ) = some (t, σ')) : x = some t ∧ σ' = σ := by
  cases x with
  | none => simp at h
  | some y => simp only [Option.map_some, Option.some.injEq, Prod.mk.injEq] at h; exact ⟨by rw [h.1], h.2.symm⟩

theorem box_ok {vs : List Value} {l : List T} {d e : Nat} (h : Ok w0 L nt σ S E a w) (hr : RVL w S E vs l) (h1 : ∀ x ∈ vs, x.oneCell' = true) (hbig : Nat.blt d big = true) (hf : freshT d σ.tm = true) (hb : freshB d σ.hp = true) (hl : namesL d l = false) :
    ∃ E', Ok w0 L nt ⟨σ.tm, (d, .box l) :: σ.hp⟩ S E' a (w.alloc (.cells vs.toArray e)) ∧ RV (w.alloc (.cells vs.toArray e)) S E' (.pointer (some ⟨w.heap.size, 0, none⟩)) (.ptr d 0) := by
  obtain ⟨E', hE, _, hok⟩ := h.alloc (o := .cells vs.toArray e) (x := .pointer (some ⟨w.heap.size, 0, none⟩)) (b := .box l) hbig hf hb rfl (fun E' hE' => by
    refine ⟨w.heap.size, vs, e, rfl, heap_alloc_new w _, hr.1, fun j a b => ?_, h1⟩
    refine (hr.2 j a b).mono (fun _ x => x) (fun b hb => heap_alloc_old w _ b (h.stab b hb)) fun id hid => hE' id fun eq => ?_
    subst eq
    rw [namesL_get hl j b] at hid
    cases hid)
  exact ⟨E', hok, .ptr d 0 _ hE⟩

theorem RV.rtree {v : Value} {y : Tree} (h : RV w S E v (.t y)) : RT w S v y := by cases h with | t h => exact h

theorem fresh_val {d : Nat} {x : Operand} {t : T} (hf : freshT d σ.tm = true) (hx : val σ.tm x = some t) : names d t = false := by
  cases x with
  | tmp k => exact freshT_look hf k t hx
  | const v => cases hx; rfl
  | func f => cases hx; rfl
  | global g => cases hx; rfl

theorem fresh_cells {d : Nat} {hp : List (Nat × Blk)} {t : T} {l : List T} (hf : names d t = false) (hx : cellsT hp t = some l) : namesL d l = false := by
  cases t with
  | agg m =>
    simp only [cellsT] at hx
    cases ho : oneL hp m <;> rw [ho] at hx <;> simp at hx
    subst hx
    simpa [names] using hf
  | _ =>
    simp only [cellsT] at hx
    cases ho : Pv.one hp _ <;> rw [ho] at hx <;> simp at hx
    subst hx
    simpa [namesL] using hf

theorem tt_names (d : Nat) (l : List Value) : namesL d (l.map fun z => T.t (.v z)) = false := by
  induction l with
  | nil => rfl
  | cons x l ih => simpa [namesL, names] using ih

theorem evalOp_ok (htab : TabOk P tab) (h : Ok w0 L nt σ S E a w) (he : evalOp tab σ o = some (t, σ')) :
    ∃ v w' E', Does P o a w v w' ∧ Ok w0 L nt σ' S E' a w' ∧ RV w' S E' v t := by
  rw [evalOp_eq] at he
  obtain ⟨dst, op, type, pos, after, guard⟩ := o
  cases op <;> simp only [evalOp0, reduceCtorEq] at he
  case move x =>
    obtain ⟨hx, rfl⟩ := map_inv he
    exact pure_ok h rfl (h.val hx)
  case assign x =>
    obtain ⟨hx, rfl⟩ := map_inv he
    exact pure_ok h rfl (h.val hx)
  case pick c x y =>
    split at he
    · rename_i b hc
      obtain ⟨hx, rfl⟩ := map_inv he
      have hcv := (h.val hc).tv
      exact pure_ok h (by simp [execOp, hcv, asBool]) (pickT_ok (fun t ht => h.val ht) (fun t ht => h.val ht) hx)
    · cases he
  case alloc e =>
    split at he
    · rename_i d ti hti
      cases hb : (Nat.blt d big && freshT d σ.tm && freshB d σ.hp && ti.zero.all Value.oneCell') <;> simp only [hb, cond_true, cond_false, reduceCtorEq, Option.some.injEq, Prod.mk.injEq] at he
      obtain ⟨rfl, rfl⟩ := he
      simp only [Bool.and_eq_true] at hb
      obtain ⟨zv, hz, hzc⟩ := (htab e _ hti).run_zero w
      obtain ⟨E', hok, hv⟩ := box_ok (e := e) h (alloc_rvl ti.zero) (by simpa using hb.2) hb.1.1.1 hb.1.1.2 hb.1.2 (tt_names d _)
      refine ⟨_, _, E', .inl ?_, hok, hv⟩
      have : zv.cells = ti.zero.toArray := by rw [← hzc]
      simp [execOp, Instr.alloc, hz, newVar, newRow, this]
    · cases he
  case box e x =>
    split at he
    · rename_i d l hx
      cases hb : (Nat.blt d big && freshT d σ.tm && freshB d σ.hp) <;> simp only [hb, cond_true, cond_false, reduceCtorEq, Option.some.injEq, Prod.mk.injEq] at he
      obtain ⟨rfl, rfl⟩ := he
      simp only [Bool.and_eq_true] at hb
      cases hv : val σ.tm x with
      | none => simp [hv] at hx
      | some y =>
        simp only [hv, Option.bind_some] at hx
        obtain ⟨vs, hvs, hl, hr, h1⟩ := h.cells (h.val hv) hx
        obtain ⟨E', hok, hv'⟩ := box_ok (e := e) h ⟨hl, hr⟩ h1 hb.1.1 hb.1.2 hb.2 (fresh_cells (fresh_val hb.1.2 hv) hx)
        refine ⟨_, _, E', .inl ?_, hok, hv'⟩
        simp [execOp, Instr.box, newVar, newRow, hvs]
    · cases he
  case load ty x =>
    split at he
    · rename_i id off ti hx hti
      split at he
      · rename_i ts hb
        obtain ⟨hx', rfl⟩ := map_inv he
        obtain ⟨β, hpv, hE⟩ := (h.val hx).ptr_inv
        obtain ⟨β', vs, elem, hE', hh, hl, hr, _⟩ := h.hp id _ hb
        rw [hE] at hE'
        cases hE'
        obtain ⟨v, hv1, hv2⟩ := load_ok (P := P) (w := w) (b := β) (o := 0) (htab ty _ hti) hl (fun j h1 => by rw [cell_of_row w β (0 + j) _ elem _ hh]; simp [h1]) hr hx'
        rw [Nat.zero_add] at hv1
        exact pure_ok h (by simp [execOp, hpv, hv1]) hv2
      · cases he
    · rename_i cells ti hx hti
      obtain ⟨hx', rfl⟩ := map_inv he
      have hv := h.val hx
      obtain ⟨b, o, hpv⟩ := hv.el_inv
      rw [hpv] at hv
      cases hv with
      | el _ _ _ vs hS hc hr =>
        obtain ⟨v, hv1, hv2⟩ := load_ok (P := P) (w := w) (S := S) (E := E) (b := b) (o := o) (vs := (List.range cells.length).map vs) (l := mapT cells) (htab ty _ hti) (by simp [mapT_eq])
          (fun j h1 => by simp only [List.length_map, List.length_range] at h1; rw [hc j h1]; simp)
          (fun j h1 h2 => by
            simp only [List.length_map, List.length_range] at h1
            simp only [mapT_eq, List.getElem_map, List.getElem_range]
            exact .t (hr j h1)) hx'
        rw [Nat.add_zero] at hv1
        exact pure_ok h (by simp [execOp, hpv, hv1]) hv2
    · cases he
  case store ty x y =>
    split at he
    · rename_i id off ti l hx hti hy
      split at he
      · rename_i ts hb
        cases hc : (Nat.beq l.length ti.size && Nat.ble (off + l.length) ts.length) <;> simp only [hc, cond_true, cond_false, reduceCtorEq, Option.some.injEq, Prod.mk.injEq] at he
        obtain ⟨rfl, rfl⟩ := he
        simp only [Bool.and_eq_true] at hc
        cases hv : val σ.tm y with
        | none => simp [hv] at hy
        | some u =>
          simp only [hv, Option.bind_some] at hy
          obtain ⟨w', hs, hok⟩ := store_ok h (htab ty _ hti) hb (h.val hx) (h.val hv) hy (Nat.eq_of_beq_eq_true hc.1) (Nat.le_of_ble_eq_true hc.2)
          exact ⟨undef, w', E, .inr ⟨by simp [execOp, hs], rfl⟩, hok, .t (.v _)⟩
      · cases he
    · cases he
  case nilCheck x =>
    split at he
    · rename_i id off hx
      simp only [Option.some.injEq, Prod.mk.injEq] at he
      obtain ⟨rfl, rfl⟩ := he
      obtain ⟨β, hpv, _⟩ := (h.val hx).ptr_inv
      exact pure_ok (v := .pointer (some ⟨β, off, none⟩)) h (by simp [execOp, hpv]) (by rw [← hpv]; exact h.val hx)
    · rename_i cells hx
      simp only [Option.some.injEq, Prod.mk.injEq] at he
      obtain ⟨rfl, rfl⟩ := he
      obtain ⟨b, o, hpv⟩ := (h.val hx).el_inv
      exact pure_ok (v := .pointer (some ⟨b, o, none⟩)) h (by simp [execOp, hpv]) (by rw [← hpv]; exact h.val hx)
    · cases he
  case fieldAddr s x f =>
    split at he
    · rename_i id off sz fs z hx hti
      split at he
      · rename_i p n hf
        simp only [Option.some.injEq, Prod.mk.injEq] at he
        obtain ⟨rfl, rfl⟩ := he
        obtain ⟨β, hpv, hE⟩ := (h.val hx).ptr_inv
        exact pure_ok h (by simp [execOp, hpv, fieldAddr_ok (htab s _ hti) hf β off rfl]) (.ptr id _ β hE)
      · cases he
    · rename_i cells sz fs z hx hti
      split at he
      · rename_i p n hf
        simp only [Option.some.injEq, Prod.mk.injEq] at he
        obtain ⟨rfl, rfl⟩ := he
        have hv := h.val hx
        obtain ⟨b, o, hpv⟩ := hv.el_inv
        rw [hpv] at hv
        exact pure_ok h (by simp [execOp, hpv, fieldAddr_ok (htab s _ hti) hf b o rfl]) (hv.el_drop p)
      · cases he
    · rename_i id i sz' off sz fs z hx hti
      split at he
      · rename_i p n hf
        simp only [Option.some.injEq, Prod.mk.injEq] at he
        obtain ⟨rfl, rfl⟩ := he
        have hv := h.val hx
        generalize hpv : a.eval x = pv at hv
        cases hv with
        | pe _ _ _ _ β n' cap hE =>
          exact pure_ok (v := .pointer (some ⟨β, i * sz' + off + p, none⟩)) h (by simp [execOp, hpv, fieldAddr_ok (htab s _ hti) hf β _ rfl]) (by rw [Nat.add_assoc]; exact .pe id i sz' (off + p) β n' cap hE)
      · cases he
    · cases he
  case binOp op ty x y yt =>
    obtain ⟨hx, rfl⟩ := map_inv he
    obtain ⟨v, hv1, hv2⟩ := binT_ok htab (x := x) (y := y) (a := a) (fun t ht => h.val ht) (fun t ht => h.val ht) hx
    exact pure_ok h (by simp only [execOp, Sem.run_bind, hv1, Result.andThen_ok, Sem.run_pure]) hv2
  case unOp op ty x =>
    obtain ⟨hx, rfl⟩ := map_inv he
    obtain ⟨v, hv1, hv2⟩ := unT_ok (P := P) (fun t ht => h.val ht) hx
    exact pure_ok h (by simp only [execOp, Sem.run_bind, hv1, Result.andThen_ok, Sem.run_pure]) hv2
  case convert s d x =>
    split at he
    · rename_i ti hs
      obtain ⟨hx, rfl⟩ := map_inv he
      obtain ⟨i, u, _, _, hu, _⟩ := htab s _ hs
      obtain ⟨v, hv1, hv2⟩ := convT_ok (s := s) htab (fun t ht => h.val ht) hx ⟨u, hu⟩
      exact pure_ok h (by simp only [execOp, Sem.run_bind, hv1, Result.andThen_ok, Sem.run_pure]) hv2
    · cases he
  case extract x k =>
    split at he
    · rename_i l hx
      obtain ⟨hx', rfl⟩ := map_inv he
      have hv := h.val hx
      cases hxe : a.eval x <;> rw [hxe] at hv <;> try (cases hv; done)
      cases hv with
      | tup vs _ hl hr =>
        obtain ⟨hk, rfl⟩ := List.getElem?_eq_some_iff.1 hx'
        exact pure_ok h (by simp [execOp, hxe, Instr.extract, hl, hk]) (hr k (by omega) hk)
    · cases he
  case build ty parts =>
    split at he
    · rename_i sz fs z hti
      cases hf : fillT σ.hp σ.tm (fs[·]?) (z.map fun x => .t (.v x)) parts.toList with
      | none => simp [hf] at he
      | some l =>
        simp only [hf, Option.map_some, Option.some.injEq, Prod.mk.injEq] at he
        obtain ⟨rfl, rfl⟩ := he
        obtain ⟨v, hv1, hv2⟩ := build_ok htab h hti hf
        exact pure_ok h (by simp only [execOp, Sem.run_bind, hv1, Result.andThen_ok, Sem.run_pure]) hv2
    · rename_i sz n e z hti
      split at he <;> try (cases he; done)
      rename_i te hte
      cases hf : fillT σ.hp σ.tm (fun i => some (i * te.size, te.size)) (z.map fun x => .t (.v x)) parts.toList with
      | none => simp [hf] at he
      | some l =>
        simp only [hf, Option.map_some, Option.some.injEq, Prod.mk.injEq] at he
        obtain ⟨rfl, rfl⟩ := he
        obtain ⟨v, hv1, hv2⟩ := buildArr_ok htab h hti hte hf
        exact pure_ok h (by simp only [execOp, Sem.run_bind, hv1, Result.andThen_ok, Sem.run_pure]) hv2
    · cases he
  case indexAddr ty x ix =>
    split at he <;> try (cases he; done)
    all_goals
      rename_i hx hti hix
      split at he <;> try (cases he; done)
      rename_i te hte
    · rename_i id off sz n e z ik i _
      cases hb : Nat.blt i n <;> simp only [hb, cond_true, cond_false, reduceCtorEq, Option.some.injEq, Prod.mk.injEq] at he
      obtain ⟨rfl, rfl⟩ := he
      obtain ⟨β, hpv, hE⟩ := (h.val hx).ptr_inv
      exact pure_ok h (by simp only [execOp, hpv, (h.val hix).tv, arrAddr_ok htab hti hte (Nat.le_of_ble_eq_true hb), Sem.run_bind, Result.andThen_ok, Sem.run_pure]) (.ptr id _ β hE)
    · rename_i cells sz n e z ik i _
      cases hb : Nat.blt i n <;> simp only [hb, cond_true, cond_false, reduceCtorEq, Option.some.injEq, Prod.mk.injEq] at he
      obtain ⟨rfl, rfl⟩ := he
      have hv := h.val hx
      obtain ⟨b, o, hpv⟩ := hv.el_inv
      rw [hpv] at hv
      exact pure_ok h (by simp only [execOp, hpv, (h.val hix).tv, arrAddr_ok htab hti hte (Nat.le_of_ble_eq_true hb), Sem.run_bind, Result.andThen_ok, Sem.run_pure]) (hv.el_drop _)
    · rename_i id k sz' off sz n e z ik i _
      cases hb : Nat.blt i n <;> simp only [hb, cond_true, cond_false, reduceCtorEq, Option.some.injEq, Prod.mk.injEq] at he
      obtain ⟨rfl, rfl⟩ := he
      have hv := h.val hx
      generalize hpv : a.eval x = pv at hv
      cases hv with
      | pe _ _ _ _ β n' cap hE =>
        exact pure_ok (v := .pointer (some ⟨β, k * sz' + off + i * te.size, none⟩)) h (by simp only [execOp, hpv, (h.val hix).tv, arrAddr_ok htab hti hte (Nat.le_of_ble_eq_true hb), Sem.run_bind, Result.andThen_ok, Sem.run_pure]) (by rw [Nat.add_assoc]; exact .pe id k sz' (off + i * te.size) β n' cap hE)
  case index ty x ix =>
    split at he <;> try (cases he; done)
    rename_i l sz n e z ik i hx hti hix
    split at he <;> try (cases he; done)
    rename_i te hte
    cases hb : Nat.blt i n <;> simp only [hb, cond_true, cond_false, reduceCtorEq] at he
    obtain ⟨hx', rfl⟩ := map_inv he
    have hv := h.val hx
    generalize hpv : a.eval x = pv at hv
    cases hv with
    | agg vs _ hl hr =>
      obtain ⟨v, hv1, hv2⟩ := arrPart_ok (ik := ik) htab hti hte (Nat.le_of_ble_eq_true hb) ⟨hl, hr⟩ hx'
      exact pure_ok h (by simp only [execOp, hpv, (h.val hix).tv, hv1, Sem.run_bind, Result.andThen_ok, Sem.run_pure]) hv2
  case makeFunc fn first captured =>
    obtain ⟨hx, rfl⟩ := map_inv he
    cases fn <;> cases hfl : first.toList <;> simp only [funcT, hfl, reduceCtorEq] at hx
    · rename_i f
      cases hl : vals σ'.tm captured.toList with
      | none => simp [hl] at hx
      | some l =>
        simp only [hl, Option.map_some, Option.some.injEq] at hx
        subst hx
        have hr := vals_ok h _ l hl
        have hfirst : first = #[] := by simpa using hfl
        subst hfirst
        refine pure_ok h ?_ (.clo f (captured.toList.map a.eval) l hr.1 hr.2)
        simp [execOp, Instr.makeFunc]
        exact Array.ext' (by simp)
  case buildSlice ty n parts =>
    split at he
    · rename_i d sz e z hti
      split at he
      · rename_i ti hte
        split at he
        · rename_i l hf
          split at he
          · rename_i r hr
            cases hc : (Nat.blt d big && freshT d σ.tm && freshB d σ.hp && Nat.beq r.length (n * ti.size) && Nat.ble (n * ti.size) 1000000 && Nat.beq ti.zero.length ti.size && Nat.blt 0 ti.size) <;>
              simp only [hc, cond_true, cond_false, reduceCtorEq, Option.some.injEq, Prod.mk.injEq] at he
            obtain ⟨rfl, rfl⟩ := he
            simp only [Bool.and_eq_true] at hc
            obtain ⟨⟨⟨⟨⟨⟨c0, c1⟩, c2⟩, c3⟩, c4⟩, c5⟩, c6⟩ := hc
            have c3 := Nat.eq_of_beq_eq_true c3
            have c6 : 0 < ti.size := Nat.le_of_ble_eq_true c6
            obtain ⟨cs, hrun, hcl, hcr⟩ := buildSlice_ok htab h hti hte hf (Nat.le_of_ble_eq_true c4) (Nat.eq_of_beq_eq_true c5) c6
            have hlr := trees_ok hr
            have hlen : r.length = l.length := by have := congrArg List.length hlr; simpa using this.symm
            obtain ⟨E', hE, _, hok⟩ := h.alloc (o := .cells cs e) (x := .slice (some ⟨w.heap.size, 0, none⟩) n n) (b := .rows e ti.size n (chunk ti.size n r)) c0 c1 c2 rfl (fun E' hE' => by
              refine ⟨(chunk_length _ _ _).symm,   .inr ⟨w.heap.size, n, cs.toList, by have : n ≤ n * ti.size := Nat.le_mul_of_pos_right n c6; have := Nat.le_of_ble_eq_true c4; unfold maxLen; omega, by rw [chunk_length], by rw [heap_alloc_new], ?_, by rw [chunk_length]; exact Nat.le_refl _, chunk_sizes _ _ _ c3, ?_⟩⟩
              · rw [hcl, ← hlen]; simpa using c3
              · intro i j hi hj hb
                have hb' : i * ti.size + j < r.length := by rw [hcl, ← hlen] at hb; exact hb
                rw [chunk_get ti.size n r c3 i j hi hj hb']
                have h3 := nilT_ok (hcr (i * ti.size + j) hb (by rw [← hlen]; exact hb'))
                have h4 : nilT (l[i * ti.size + j]'(by rw [← hlen]; exact hb')) = T.t (r[i * ti.size + j]) := by
                  have h5 : (l.map nilT)[i * ti.size + j]? = (r.map T.t)[i * ti.size + j]? := by rw [hlr]
                  rw [List.getElem?_map, List.getElem?_map, List.getElem?_eq_getElem (by rw [← hlen]; exact hb'), List.getElem?_eq_getElem hb'] at h5
                  simpa using h5
                rw [h4] at h3
                exact h3.rtree.mono (fun _ x => x) fun b hb => heap_alloc_old w _ b (h.stab b hb))
            refine ⟨_, _, E', .inl ?_, hok, .own d _ hE⟩
            simp only [execOp, Sem.run_bind, hrun, Result.andThen_ok, Sem.run_pure]
          · cases he
        · cases he
      · cases he
    · cases he
  case call c =>
    obtain ⟨hx, rfl⟩ := map_inv he
    obtain ⟨callee, args, tys⟩ := c
    simp only at hx
    unfold callT at hx
    split at hx
    · rename_i x ty h1 h2
      obtain ⟨v, hv1, hv2⟩ := lenT_ok (type := type) htab h (fun t ht => h.val ht) hx
      obtain ⟨args⟩ := args
      obtain ⟨tys⟩ := tys
      simp only at h1 h2
      subst h1; subst h2
      refine pure_ok h ?_ hv2
      simp only [execOp, resolve, Sem.run_bind, Sem.run_pure, Result.andThen_ok, invoke, builtin]
      simp [hv1]
    · rename_i x rest h1
      obtain ⟨v, hv1, hv2⟩ := foldT_ok (P := P) (f := minI) (g := Builtin.min2) (fun _ _ _ _ => rfl) h rest (a.eval x) _ (fun t ht => h.val ht) t hx
      obtain ⟨args⟩ := args
      simp only at h1
      subst h1
      refine pure_ok h ?_ hv2
      simp only [execOp, resolve, Sem.run_bind, Sem.run_pure, Result.andThen_ok, invoke, builtin, Builtin.min_]
      simp [hv1]
    · rename_i x rest h1
      obtain ⟨v, hv1, hv2⟩ := foldT_ok (P := P) (f := maxI) (g := Builtin.max2) (fun _ _ _ _ => rfl) h rest (a.eval x) _ (fun t ht => h.val ht) t hx
      obtain ⟨args⟩ := args
      simp only at h1
      subst h1
      refine pure_ok h ?_ hv2
      simp only [execOp, resolve, Sem.run_bind, Sem.run_pure, Result.andThen_ok, invoke, builtin, Builtin.max_]
      simp [hv1]
    · cases hx
end
end Go.Pv

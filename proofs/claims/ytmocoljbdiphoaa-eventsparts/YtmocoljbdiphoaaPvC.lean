/- The value machine, part C: each quiet operation as a function on states, and that the machine does the same. -/
import Derived.Test.YtmocoljbdiphoaaPvB
namespace Go.Pv
open Go.RowKit

def val (tm : List (Nat × T)) : Operand → Option T
  | .tmp k => look tm k
  | .const v => some (.t (.v v))
  | .func f => some (.fz f [])
  | .global g => some (.t (.v (.pointer (some ⟨g, 0, none⟩))))

def one (hp : List (Nat × Blk)) : T → Bool
  | .t (.v x) => x.oneCell'
  | .own id => (look hp id).isSome
  | .agg _ | .tup _ | .any => false
  | _ => true

def oneL (hp : List (Nat × Blk)) : List T → Bool
  | [] => true
  | x :: r => one hp x && oneL hp r

def cellsT (hp : List (Nat × Blk)) : T → Option (List T)
  | .agg l => bif oneL hp l then some l else none
  | x => bif one hp x then some [x] else none

def takeT (ag : Bool) (n : Nat) (l : List T) (off : Nat) : Option T :=
  bif ag then (bif Nat.ble (off + n) l.length then some (.agg ((l.drop off).take n)) else none) else l[off]?

def mapT : List Tree → List T
  | [] => []
  | x :: r => .t x :: mapT r

theorem mapT_eq (l : List Tree) : mapT l = l.map T.t := by induction l <;> simp_all [mapT]

section
variable {P : Program} {w0 : World} {L : Lim} {nt : Nat} {σ : St} {S : Nat → Prop} {E : Nat → Value} {a : Act} {w : World}

theorem Ok.val (h : Ok w0 L nt σ S E a w) {x : Operand} {t : T} (hx : val σ.tm x = some t) : RV w S E (a.eval x) t := by
  cases x with
  | tmp k => exact h.tm k t hx
  | const v => cases hx; exact .t (.v v)
  | func f => cases hx; exact .fz f [] [] rfl (fun j h1 => by simp at h1)
  | global g => cases hx; exact .t (.v _)

theorem Ok.one (h : Ok w0 L nt σ S E a w) {v : Value} {t : T} (hv : RV w S E v t) (ht : one σ.hp t = true) : v.oneCell' = true := by
  cases hv with
  | t h => cases h <;> first | exact ht | rfl
  | own id _ hE =>
    subst hE
    simp only [Pv.one, Option.isSome_iff_exists] at ht
    obtain ⟨b, hb⟩ := ht
    have := h.hp id b hb
    cases b with
    | box ts => obtain ⟨β, vs, elem, hx, _⟩ := this; rw [hx]; rfl
    | rows elem sz n rs => obtain ⟨_, ⟨hx, _⟩ | ⟨β, cap, vs, _, hx, _⟩⟩ := this <;> rw [hx] <;> rfl
  | agg vs l => simp [Pv.one] at ht
  | tup vs l => simp [Pv.one] at ht
  | any => simp [Pv.one] at ht
  | _ => rfl

theorem oneL_get {hp : List (Nat × Blk)} : ∀ {l : List T}, oneL hp l = true → ∀ j (h : j < l.length), one hp (l[j]) = true
  | [], _, j, h => by simp at h
  | x :: r, hn, j, h => by
    simp only [oneL, Bool.and_eq_true] at hn
    cases j with
    | zero => exact hn.1
    | succ j => exact oneL_get hn.2 j (by simpa using h)

theorem cells_one {v : Value} (h : v.oneCell' = true) : v.cells = #[v] := by cases v <;> first | rfl | (simp [Value.oneCell'] at h)

theorem Ok.cells (h : Ok w0 L nt σ S E a w) {v : Value} {t : T} {l : List T} (hv : RV w S E v t) (ht : cellsT σ.hp t = some l) :
    ∃ vs : List Value, v.cells = vs.toArray ∧ vs.length = l.length ∧ (∀ j (h1 : j < vs.length) (h2 : j < l.length), RV w S E (vs[j]) (l[j])) ∧ ∀ x ∈ vs, x.oneCell' = true := by
  have plain : ∀ (hv : RV w S E v t) (ho : Pv.one σ.hp t = true) (hl : l = [t]), ∃ vs : List Value, v.cells = vs.toArray ∧ vs.length = l.length ∧ (∀ j (h1 : j < vs.length) (h2 : j < l.length), RV w S E (vs[j]) (l[j])) ∧ ∀ x ∈ vs, x.oneCell' = true := by
    intro hv ho hl
    subst hl
    have h1 := h.one hv ho
    refine ⟨[v], by rw [cells_one h1], rfl, fun j h1 h2 => ?_, by simpa using h1⟩
    have : j = 0 := by simp at h1; omega
    subst this
    exact hv
  cases t with
  | agg l' =>
    simp only [cellsT] at ht
    cases ho : oneL σ.hp l' <;> rw [ho] at ht <;> simp at ht
    subst ht
    cases hv with
    | agg vs l hl hr =>
      refine ⟨vs, rfl, hl, hr, fun x hx => ?_⟩
      obtain ⟨j, hj, rfl⟩ := List.getElem_of_mem hx
      exact h.one (hr j hj (by omega)) (oneL_get ho j (by omega))
  | _ =>
    simp only [cellsT] at ht
    cases ho : Pv.one σ.hp _ <;> rw [ho] at ht <;> simp at ht
    exact plain hv ho ht.symm

theorem addr_add (b o i : Nat) : (⟨b, o, none⟩ : Addr).add i = ⟨b, o + i, none⟩ := by unfold Addr.add; split <;> simp_all

/-- A load out of cells that read as l. -/
theorem load_ok {t : Nat} {ti : TI} (hti : TIok P t ti) {b o : Nat} {vs : List Value} {l : List T} (hl : vs.length = l.length)
    (hc : ∀ j (h1 : j < vs.length), w.cell? ⟨b, o + j, none⟩ = some (vs[j])) (hr : ∀ j (h1 : j < vs.length) (h2 : j < l.length), RV w S E (vs[j]) (l[j]))
    {off : Nat} {r : T} (hx : takeT ti.desc.isAgg ti.size l off = some r) : ∃ v, (Instr.loadAt t (.pointer (some ⟨b, o + off, none⟩))).run P w = .ok v w ∧ RV w S E v r := by
  simp only [Instr.loadAt, Instr.sureAddr, Sem.run_bind, Sem.run_pure, Result.andThen_ok, loadVar, hti.run_agg]
  unfold takeT at hx
  cases hag : ti.desc.isAgg
  · simp only [hag, cond_false] at hx
    obtain ⟨hlt, rfl⟩ := List.getElem?_eq_some_iff.1 hx
    have := hc off (by omega)
    simp only [Bool.false_eq_true, if_false, run_load, this]
    exact ⟨_, rfl, hr off (by omega) hlt⟩
  · simp only [hag, cond_true] at hx
    cases hle : Nat.ble (off + ti.size) l.length <;> simp only [hle, cond_true, cond_false, Option.some.injEq] at hx
    · cases hx
    subst hx
    have hle := Nat.le_of_ble_eq_true hle
    have hload : (loadCells ⟨b, o + off, none⟩ ti.size).run P w = .ok ((vs.drop off).take ti.size).toArray w := by
      have := run_loadCells_list (P := P) w ⟨b, o + off, none⟩ ((vs.drop off).take ti.size) (fun j v hv => by
        rw [addr_add, Nat.add_assoc]
        obtain ⟨hj, rfl⟩ := List.getElem?_eq_some_iff.1 hv
        simp only [List.length_take, List.length_drop] at hj
        rw [hc (off + j) (by omega)]
        simp)
      rw [show ((vs.drop off).take ti.size).length = ti.size by simp; omega] at this
      exact this
    simp only [if_true, Sem.run_bind, hti.run_size, Result.andThen_ok, hload, Sem.run_pure]
    refine ⟨_, rfl, .agg _ _ (by simp; omega) fun j h1 h2 => ?_⟩
    simp only [List.length_take, List.length_drop] at h1 h2
    have := hr (off + j) (by omega) (by omega)
    simpa using this

/-- A block of the call's own is written. -/
theorem Ok.setRow (h : Ok w0 L nt σ S E a w) {id β : Nat} {b b' : Blk} {cur cur' : Array Value} {elem : TypeId} (hb : look σ.hp id = some b) (hβ : blkOf (E id) = some β)
    (hh : w.heap[β]? = some (.cells cur elem (0, 0))) (hnew : (∀ b, S b → (w.setRow β cur').heap[b]? = w.heap[b]?) → (w.setRow β cur').heap[β]? = some (.cells cur' elem (0, 0)) → BlkOk (w.setRow β cur') S E (E id) b') :
    Ok w0 L nt ⟨σ.tm, hput σ.hp id b'⟩ S E a (w.setRow β cur') := by
  have hown := h.own id b β hb hβ
  have hne : ∀ k, k ≠ β → (w.setRow β cur').heap[k]? = w.heap[k]? := fun k hk => setRow_other w β k cur' hk
  have hS : ∀ b, S b → (w.setRow β cur').heap[b]? = w.heap[b]? := fun k hk => hne k fun e => hown.1 (e ▸ hk)
  refine { keep := ?_, stab := fun b hb => by simpa using h.stab b hb, base := h.base, size := h.size, defers := h.defers, tm := fun k t ht => (h.tm k t ht).mono (fun _ x => x) hS (fun _ _ => rfl), hp := ?_, own := ?_, dist := ?_, pin := h.pin }
  · exact h.keep.trans (L' := fun k => k = β) ⟨rfl, rfl, rfl, by simp, fun k _ hk => hne k hk, Nat.le_refl _⟩ fun x hx => by subst hx; exact hown.2.2.symm
  · intro id' blk hl
    rw [look_hput] at hl
    by_cases hid : id = id'
    · subst hid
      simp only [if_true, hb, Option.map_some, Option.some.injEq] at hl
      subst hl
      exact hnew hS (setRow_heap w β cur cur' elem _ hh)
    · simp only [hid, if_false] at hl
      refine (h.hp id' blk hl).mono (fun _ x => x) hS (fun β' hβ' => hne β' fun e => ?_) (fun _ _ => rfl)
      subst e
      exact hid (h.dist id id' b blk _ hb hl hβ hβ')
  · intro id' blk β' hl hβ'
    rw [look_hput] at hl
    have : ∃ b0, look σ.hp id' = some b0 := by
      by_cases hid : id = id'
      · subst hid; exact ⟨b, hb⟩
      · simp only [hid, if_false] at hl; exact ⟨_, hl⟩
    obtain ⟨b0, hb0⟩ := this
    simpa using h.own id' b0 β' hb0 hβ'
  · intro i i' x x' β' hl hl' hβ1 hβ2
    rw [look_hput] at hl hl'
    have some1 : ∀ j y, (if id = j then (look σ.hp j).map (fun _ => b') else look σ.hp j) = some y → ∃ b0, look σ.hp j = some b0 := by
      intro j y hj
      by_cases hid : id = j
      · subst hid; exact ⟨b, hb⟩
      · simp only [hid, if_false] at hj; exact ⟨_, hj⟩
    obtain ⟨b0, hb0⟩ := some1 i x hl
    obtain ⟨b1, hb1⟩ := some1 i' x' hl'
    exact h.dist i i' b0 b1 β' hb0 hb1 hβ1 hβ2

theorem store_ok (hok : Ok w0 L nt σ S E a w) {t : Nat} {ti : TI} (hti : TIok P t ti) {id off : Nat} {ts l : List T} {x : T} {v pv : Value}
    (hb : look σ.hp id = some (.box ts)) (hp : RV w S E pv (.ptr id off)) (hv : RV w S E v x) (hx : cellsT σ.hp x = some l) (hs : l.length = ti.size) (hle : off + l.length ≤ ts.length) :
    ∃ w', (Instr.storeAt t pv v).run P w = .ok () w' ∧ Ok w0 L nt ⟨σ.tm, hput σ.hp id (.box (ts.take off ++ l ++ ts.drop (off + l.length)))⟩ S E a w' := by
  obtain ⟨vs, hvs, hl, hr, h1⟩ := hok.cells hv hx
  obtain ⟨β, cs, elem, hE, hh, hcl, hcr, hc1⟩ := hok.hp id _ hb
  cases hp with
  | ptr _ _ β' hE' =>
    rw [hE] at hE'
    cases hE'
    have hst : (Instr.storeAt t (.pointer (some ⟨β, off, none⟩)) v).run P w = .ok () (w.setRow β (cs.take off ++ vs ++ cs.drop (off + vs.length)).toArray) := by
      have := run_storeCells_at (P := P) β off elem vs 0 cs.toArray w hh (by simp; omega) h1
      have hl2 : vs.length = ti.size := by omega
      simp only [Instr.storeAt, Instr.sureAddr, Sem.run_bind, Sem.run_pure, Result.andThen_ok, storeVar, hti.run_size, hvs]
      simpa [hl2] using this
    refine ⟨_, hst, hok.setRow hb (by rw [hE]; rfl) hh fun hS hnew => ⟨β, _, elem, hE, hnew, ?_, ?_, ?_⟩⟩
    · simp; omega
    · intro j hj1 hj2
      have key : RV w S E ((cs.take off ++ vs ++ cs.drop (off + vs.length))[j]'hj1) ((ts.take off ++ l ++ ts.drop (off + l.length))[j]'hj2) := by
        simp only [List.length_append, List.length_take, List.length_drop] at hj1 hj2
        by_cases c1 : j < off
        · have a1 : j < (cs.take off ++ vs).length := by simp; omega
          have a2 : j < (ts.take off ++ l).length := by simp; omega
          rw [List.getElem_append_left a1, List.getElem_append_left a2, List.getElem_append_left (by simp; omega), List.getElem_append_left (by simp; omega)]
          simpa using hcr j (by omega) (by omega)
        · by_cases c2 : j < off + vs.length
          · have a1 : j < (cs.take off ++ vs).length := by simp; omega
            have a2 : j < (ts.take off ++ l).length := by simp; omega
            rw [List.getElem_append_left a1, List.getElem_append_left a2, List.getElem_append_right (by simp; omega), List.getElem_append_right (by simp; omega)]
            have e1 : min off cs.length = off := by omega
            have e2 : min off ts.length = off := by omega
            simp only [List.length_take, e1, e2]
            exact hr (j - off) (by omega) (by omega)
          · rw [List.getElem_append_right (by simp; omega), List.getElem_append_right (by simp; omega)]
            have e1 : min off cs.length = off := by omega
            have e2 : min off ts.length = off := by omega
            simp only [List.length_append, List.length_take, e1, e2, List.getElem_drop]
            have := hcr j (by omega) (by omega)
            have e3 : off + vs.length + (j - (off + vs.length)) = j := by omega
            have e4 : off + l.length + (j - (off + l.length)) = j := by omega
            simpa only [e3, e4] using this
      exact key.mono (fun _ x => x) hS (fun _ _ => rfl)
    · intro x hx
      simp only [List.mem_append] at hx
      rcases hx with (hx | hx) | hx
      · exact hc1 x (List.mem_of_mem_take hx)
      · exact h1 x hx
      · exact hc1 x (List.mem_of_mem_drop hx)
end
end Go.Pv

/- Proved: TopReadiness, called with any arguments that its row admits, returns true, and every argument reads behind the call as it read before. Conditions: none beyond the row's own. Printed by law.py. This file joins: The plain law of TopReadiness. -/
import Derived.Test.YtjgoihfcmpjimaaTopReadinessE
import Derived.Test.YtjgoihfcmpjimaaRows
set_option linter.unusedSimpArgs false
set_option linter.unusedVariables false
set_option linter.unusedSimpArgs false
namespace Go.Pv
open Go Fr
theorem bitOr_nat (a b : Nat) (ha : a < 2 ^ 32) (hb : b < 2 ^ 32) : bitOr .i64 (a : Int) (b : Int) = ((a ||| b : Nat) : Int) := by
  have h := Nat.or_lt_two_pow ha hb
  unfold bitOr
  have e : (BitVec.ofInt 64 (a : Int) ||| BitVec.ofInt 64 (b : Int)).toNat = a ||| b := by
    rw [BitVec.toNat_or]
    congr 1
    · simp [BitVec.toNat_ofInt]; omega
    · simp [BitVec.toNat_ofInt]; omega
  show IntKind.i64.wrap ((BitVec.ofInt 64 (a : Int) ||| BitVec.ofInt 64 (b : Int)).toNat : Int) = _
  rw [e]
  exact w64_of (by omega) (by omega)
theorem shl_pow (j : Nat) (h : j < 32) : shlM .i64 1 (j : Int) = some ((2 ^ j : Nat) : Int) := by
  unfold shlM
  rw [if_neg (by omega)]
  unfold bitShl
  have e : (min (Int.toNat (j : Int)) IntKind.i64.bits) = j := by show min (Int.toNat (j : Int)) 64 = j; omega
  rw [e]
  have h2 : 2 ^ j < 2 ^ 32 := Nat.pow_lt_pow_right (by decide) h
  have e2 : (1 * 2 ^ j : Int) = ((2 ^ j : Nat) : Int) := by simp
  rw [e2]
  generalize 2 ^ j = m at h2 ⊢
  exact congrArg some (w64_of (by omega) (by omega))
/-- The sum of the bits at which d is false. -/
def dsum (d : Nat → Bool) : Nat → Nat
  | 0 => 0
  | j + 1 => dsum d j + bif d j then 0 else 2 ^ j
theorem dsum_lt (d : Nat → Bool) : ∀ j, dsum d j < 2 ^ j
  | 0 => by simp [dsum]
  | j + 1 => by
    have := dsum_lt d j
    simp only [dsum]
    rw [Nat.pow_succ]
    cases d j <;> simp only [cond_true, cond_false] <;> omega
theorem dsum_all : ∀ j, dsum (fun _ => false) j = 2 ^ j - 1
  | 0 => rfl
  | j + 1 => by
    simp only [dsum, cond_false]
    rw [dsum_all j, Nat.pow_succ]
    have : 0 < 2 ^ j := Nat.pow_pos (by decide)
    omega
theorem or_step (n j : Nat) (hn : n < 2 ^ j) (hj : j < 31) : bitOr .i64 (n : Int) ((2 ^ j : Nat) : Int) = ((n + 2 ^ j : Nat) : Int) := by
  have h2 : 2 ^ j < 2 ^ 31 := Nat.pow_lt_pow_right (by decide) hj
  rw [bitOr_nat n (2 ^ j) (by omega) (by omega)]
  congr 1
  have := Nat.two_pow_add_eq_or_of_lt hn 1
  rw [Nat.mul_one] at this
  rw [Nat.or_comm, ← this]; omega
def rdB (r : SReady) : Bool := ((((decide (r.Numerator ≥ 0)) && (decide (r.Numerator ≤ 65535))) && (decide (r.Denominator ≥ 0))) && (decide (r.Denominator ≤ 65535))) && (r.Done || (!r.Ran))
theorem rdvalid_eq (r : SReady) : readiness_Valid r = some (rdB r) := by
  unfold readiness_Valid rdB
  cases ((((decide (r.Numerator ≥ 0)) && (decide (r.Numerator ≤ 65535))) && (decide (r.Denominator ≥ 0))) && (decide (r.Denominator ≤ 65535))) <;> rfl
theorem code_eq (l : List SReady) (hl : l.length ≤ 16) (d : Nat → Bool) (h : ∀ i (hi : i < l.length), rdB l[i] = true ∧ l[i].Done = d i) : readiness_Code l = some ((dsum d l.length : Int), 0) := by
  unfold readiness_Code
  have e : decide ((l.length : Int) > 16) = false := by simp; omega
  rw [e]
  simp only [cond_false]
  obtain ⟨s, k1, k2⟩ := rangeN_inv (R := Int × Int) l.length (by omega) (readiness_Code_b1 l) (fun j s => s = (dsum d j : Int)) 0 rfl (fun j hj s hs => by
    subst hs
    obtain ⟨h1, h2⟩ := h j hj
    have hlt := dsum_lt d j
    unfold readiness_Code_b1
    rw [getI_get _ _ hj]
    simp only [Option.bind_some, rdvalid_eq, h1, h2, Bool.not_true, cond_false]
    refine ⟨_, ?_, rfl⟩
    simp only [dsum]
    cases d j
    · simp only [Bool.not_false, cond_true, cond_false]
      rw [shl_pow j (by omega)]
      simp only [Option.bind_some]
      rw [or_step _ _ hlt (by omega)]
    · rfl)
  rw [k1, k2]
  rfl
/-- A readiness in a cycle: t: in how many cycles a result was known; b: whether in this one; k: how many cycles went by. -/
def rdy (t k : Int) (b : Bool) : SReady := ⟨decide (t > 0) || b, b, t + (bif b then 1 else 0), k⟩
theorem rdy_valid {t k : Int} (b : Bool) (h0 : 0 ≤ t) (h1 : t ≤ 100) (h2 : 0 ≤ k) (h3 : k ≤ 100) : rdB (rdy t k b) = true := by
  unfold rdB rdy
  cases b <;> simp <;> omega
theorem step_rdy {t k : Int} (b b' : Bool) (hb : b = true → b' = true) (h0 : 0 ≤ t) (h1 : t ≤ 100) (h2 : 0 ≤ k) (h3 : k ≤ 100) : readiness_Step (rdy t k b) true b' = some (rdy t k b', 0) := by
  unfold readiness_Step
  rw [rdvalid_eq, rdy_valid b h0 h1 h2 h3]
  simp only [Option.bind_some, Bool.not_true, cond_false, Bool.and_false]
  cases b' with
  | false =>
    cases b with
    | false => rfl
    | true => have := hb rfl; cases this
  | true =>
    cases b with
    | true => simp [rdy]
    | false =>
      unfold readiness_count_a2
      have e : ((rdy t k false).Numerator == 65535) = false := by simp [rdy]; omega
      rw [e]
      simp only [rdy, Bool.not_false, cond_true, cond_false, Option.bind_some]
      rw [w64_of (by omega) (by omega)]
      simp
theorem cycle_rdy {t k : Int} (b : Bool) (h0 : 0 ≤ t) (h1 : t ≤ 99) (h2 : 0 ≤ k) (h3 : k ≤ 99) : readiness_Cycle (rdy t k b) true = some (rdy (t + bif b then 1 else 0) (k + 1) false, 0) := by
  unfold readiness_Cycle
  rw [rdvalid_eq, rdy_valid b h0 (by omega) h2 (by omega)]
  simp only [Option.bind_some, Bool.not_true, cond_false, cond_true]
  unfold readiness_count_a3
  have e : ((rdy t k b).Denominator == 65535) = false := by simp [rdy]; omega
  rw [e]
  simp only [rdy, cond_false, Option.bind_some]
  rw [w64_of (by omega) (by omega)]
  cases b
  · simp
  · have : decide (t + 1 > 0) = true := by simp; omega
    simp [this]
/-- How the lists stand in a cycle. -/
structure InC (l : List SConfig) (T : List Int) (k : Nat) (f : SFaults) (R : List SReady) (tb : Nat → Bool) : Prop where
  inv : Inv l f ((k : Int) + 1) true tb
  len : T.length = l.length
  rng : ∀ t ∈ T, 0 ≤ t ∧ t ≤ k
  rd : ∀ i : Nat, R[i]? = (T[i]?).map fun t => rdy t k (tb i)
/-- .. and between cycles. -/
structure OutC (l : List SConfig) (T : List Int) (k : Nat) (f : SFaults) (R : List SReady) : Prop where
  inv : ∃ tb, Inv l f (k : Int) false tb
  len : T.length = l.length
  rng : ∀ t ∈ T, 0 ≤ t ∧ t ≤ k
  rd : ∀ i : Nat, R[i]? = (T[i]?).map fun t => rdy t k false
theorem InC.rlen {l : List SConfig} {T : List Int} {k : Nat} {f : SFaults} {R : List SReady} {tb : Nat → Bool} (h : InC l T k f R tb) : R.length = T.length := by
  have key : ∀ i : Nat, i < R.length ↔ i < T.length := fun i => by
    have := h.rd i
    constructor
    · intro hi
      rw [List.getElem?_eq_getElem hi] at this
      cases hT : T[i]? with
      | none => rw [hT] at this; cases this
      | some t => exact (List.getElem?_eq_some_iff.1 hT).1
    · intro hi
      rw [List.getElem?_eq_getElem hi] at this
      exact (List.getElem?_eq_some_iff.1 this).1
  have h1 := key R.length; have h2 := key T.length
  omega
theorem u8_wf {x : Int} (h : (Lit.int .u8 x).wf = true) : 0 ≤ x ∧ x ≤ 255 := by
  have m0 : IntKind.min .u8 = 0 := rfl
  have m1 : IntKind.max .u8 = 255 := rfl
  simpa [Lit.wf, m0, m1] using h
theorem b2_ok {l : List SConfig} {T : List Int} {k : Nat} (hc : Cfs l) (hl0 : 1 ≤ l.length) (hk : k ≤ 30) (i x : Int) (hx : 0 ≤ x ∧ x ≤ 255) (s : SFaults × List SReady) (tb : Nat → Bool) (h : InC l T k s.1 s.2 tb) :
    ∃ s' tb', magnetotop_TopReadiness_b2 l i x s = some (.next s') ∧ InC l T k s'.1 s'.2 tb' := by
  have hlen := hc.len
  have hrl := h.rlen
  obtain ⟨q, hq, hql⟩ : ∃ q : Nat, remM (w64 (bitShr .u8 x 1)) (l.length : Int) = some (q : Int) ∧ q < l.length := by
    have e : bitShr .u8 x 1 = x / 2 := by
      unfold bitShr; show x.fdiv 2 = x / 2
      exact Int.fdiv_eq_ediv_of_nonneg x (by decide)
    rw [e, w64_of (by omega) (by omega)]
    unfold remM
    rw [if_neg (by omega)]
    obtain ⟨n, hn⟩ : ∃ n : Nat, x / 2 = n := ⟨(x / 2).toNat, by omega⟩
    rw [hn]
    exact ⟨n % l.length, rfl, Nat.mod_lt _ (by omega)⟩
  have hcf := hc.ok hql
  have hfrm := hcf.frame
  obtain ⟨n, hn⟩ : ∃ n : Nat, l[q].Frame = n := ⟨l[q].Frame.toNat, by omega⟩
  have hmk : makeM (maxI 0 (minI l[q].Frame 8)) (0 : Int) = some (List.replicate n 0) := by
    have : maxI 0 (minI l[q].Frame 8) = (n : Int) := by
      rw [hn]; unfold maxI minI; split <;> split <;> omega
    rw [this]; exact makeM_nat n (by omega) 0
  have hfo : FrOk (l[q]) (List.replicate n 0) := ⟨by simp [hn], fun y hy => by have := List.eq_of_mem_replicate hy; subst this; decide⟩
  obtain ⟨f', b, e1, e2, e3⟩ := result_ok (bad := bitAnd .u8 x 1 == 1) hc h.inv (by omega) (by omega) hql hfo
  have hf'l : f'.L.length = l.length := e2.len
  have hqT : q < T.length := by rw [h.len]; exact hql
  have hqR : q < s.2.length := by omega
  have hR : s.2[q] = rdy T[q] k (tb q) := by
    have := h.rd q
    rw [List.getElem?_eq_getElem hqR, List.getElem?_eq_getElem hqT] at this
    exact Option.some.inj this
  have hT := h.rng _ (List.getElem_mem hqT)
  have hbit := (e2.rt q hql (by omega)).bit
  simp only [if_true] at hbit
  unfold magnetotop_TopReadiness_b2
  rw [hq]
  simp only [Option.bind_some]
  rw [getI_get _ _ hql]
  simp only [Option.bind_some]
  rw [hmk]
  simp only [Option.bind_some]
  rw [e1]
  simp only [Option.bind_some, bne_self_eq_false, Bool.false_or]
  have e4 : ((f'.L.length : Int) != (l.length : Int)) = false := by rw [hf'l]; simp
  rw [e4]
  simp only [cond_false]
  rw [getI_get _ _ (by omega), getI_get _ _ hqR]
  simp only [Option.bind_some]
  rw [hbit, hR, step_rdy (tb q) b e3 hT.1 (by omega) (by omega) (by omega)]
  simp only [Option.bind_some]
  rw [setM_nat _ _ _ hqR]
  refine ⟨_, _, rfl, e2, h.len, h.rng, fun i => ?_⟩
  simp only
  rw [List.getElem?_set]
  by_cases hi : q = i
  · subst hi
    rw [if_pos rfl, if_pos hqR, List.getElem?_eq_getElem hqT]
    simp
  · rw [if_neg hi, h.rd i, if_neg (fun e => hi e.symm)]
theorem results_ok {l : List SConfig} {T : List Int} {k : Nat} (hc : Cfs l) (hl0 : 1 ≤ l.length) (hk : k ≤ 30) : ∀ (xs : List Int) (i : Int) (s : SFaults × List SReady) (tb : Nat → Bool), (∀ x ∈ xs, 0 ≤ x ∧ x ≤ 255) → InC l T k s.1 s.2 tb →
    ∃ s' tb', stepsL (magnetotop_TopReadiness_b2 l) xs i s = some (.inl s') ∧ InC l T k s'.1 s'.2 tb'
  | [], i, s, tb, _, h => ⟨s, tb, rfl, h⟩
  | x :: xs, i, s, tb, hx, h => by
    obtain ⟨s1, tb1, h1, h2⟩ := b2_ok hc hl0 hk i x (hx x (List.mem_cons_self ..)) s tb h
    simp only [stepsL, h1, Option.bind_some]
    exact results_ok hc hl0 hk xs (i + 1) s1 tb1 (fun y hy => hx y (List.mem_cons_of_mem _ hy)) h2
theorem getI?_some {α : Type} {l : List α} {i : Nat} {x : α} (h : l[i]? = some x) : getI l (i : Int) = some x := by rw [getI_nat]; exact h
theorem b3_loop {l : List SConfig} {T : List Int} {k : Nat} (hc : Cfs l) (hk : k ≤ 30) (s : SFaults × List SReady) (tb : Nat → Bool) (h : InC l T k s.1 s.2 tb) :
    ∃ s' : List SReady × List Int, rangeN (l.length : Int) (magnetotop_TopReadiness_b3 s) (s.2, T) = some (.inl s') ∧ s'.2.length = l.length ∧ (∀ t ∈ s'.2, 0 ≤ t ∧ t ≤ ((k + 1 : Nat) : Int)) ∧ ∀ i : Nat, s'.1[i]? = (s'.2[i]?).map fun t => rdy t ((k + 1 : Nat) : Int) false := by
  have hlen := hc.len
  have hrl := h.rlen
  have hTl := h.len
  have hfl := h.inv.len
  obtain ⟨s', k1, k2⟩ := rangeN_inv (R := Bool) l.length (by omega) (magnetotop_TopReadiness_b3 s)
    (fun j u => u.1.length = l.length ∧ u.2.length = l.length ∧ (∀ i : Nat, i < j → ∃ t : Int, u.2[i]? = some t ∧ 0 ≤ t ∧ t ≤ k + 1 ∧ u.1[i]? = some (rdy t ((k : Int) + 1) false)) ∧ ∀ i : Nat, j ≤ i → u.1[i]? = s.2[i]? ∧ u.2[i]? = T[i]?)
    (s.2, T) ⟨by show s.2.length = _; omega, by show T.length = _; omega, fun i hi => by omega, fun i _ => ⟨rfl, rfl⟩⟩ (fun j hj u ⟨i1, i2, i3, i4⟩ => by
      have hjT : j < T.length := by omega
      have hT := h.rng _ (List.getElem_mem hjT)
      obtain ⟨g1, g2⟩ := i4 j (Nat.le_refl _)
      have hR : s.2[j]? = some (rdy T[j] k (tb j)) := by rw [h.rd j, List.getElem?_eq_getElem hjT]; rfl
      rw [hR] at g1
      rw [List.getElem?_eq_getElem hjT] at g2
      have hbit := (h.inv.rt j hj (by omega)).bit
      have e2 : (bif tb j then (Option.bind (getI u.2 (j : Int)) fun x7 => Option.bind (setM u.2 (j : Int) (w64 (x7 + 1))) fun l7 => some l7) else (some u.2)) = some (u.2.set j (T[j] + bif tb j then 1 else 0)) := by
        cases tb j
        · simp only [cond_false, Int.add_zero]
          have hj2 : j < u.2.length := by omega
          have : u.2[j] = T[j] := by rw [List.getElem?_eq_getElem hj2] at g2; exact Option.some.inj g2
          rw [← this, set_same]
        · simp only [cond_true]
          rw [getI?_some g2]
          simp only [Option.bind_some]
          rw [setM_nat _ _ _ (by omega), w64_of (by omega) (by omega)]
          rfl
      unfold magnetotop_TopReadiness_b3
      rw [getI_get _ _ (by omega)]
      simp only [Option.bind_some, hbit]
      rw [e2]
      simp only [Option.bind_some]
      rw [getI?_some g1]
      simp only [Option.bind_some]
      rw [cycle_rdy (tb j) hT.1 (by omega) (by omega) (by omega)]
      simp only [Option.bind_some]
      rw [setM_nat _ _ _ (by omega)]
      refine ⟨_, rfl, by simp [i1], by simp [i2], fun i hi => ?_, fun i hi => ?_⟩
      · simp only [List.getElem?_set]
        by_cases e : j = i
        · subst e
          rw [if_pos rfl, if_pos (by omega), if_pos rfl, if_pos (by omega)]
          refine ⟨_, rfl, ?_, ?_, rfl⟩
          · cases tb j <;> simp <;> omega
          · cases tb j <;> simp <;> omega
        · rw [if_neg e, if_neg e]; exact i3 i (by omega)
      · simp only [List.getElem?_set]
        rw [if_neg (by omega), if_neg (by omega)]; exact i4 i (by omega))
  obtain ⟨j1, j2, j3, _⟩ := k2
  refine ⟨s', k1, j2, fun t ht => ?_, fun i => ?_⟩
  · obtain ⟨i, hi, rfl⟩ := List.mem_iff_getElem.1 ht
    obtain ⟨t, a, b, c, _⟩ := j3 i (by omega)
    rw [List.getElem?_eq_getElem hi] at a
    cases a
    exact ⟨b, by push_cast; omega⟩
  · by_cases hi : i < l.length
    · obtain ⟨t, a, _, _, d⟩ := j3 i hi
      rw [a, d]; push_cast; rfl
    · rw [List.getElem?_eq_none (by omega), List.getElem?_eq_none (by omega)]; rfl
theorem b1_ok {l : List SConfig} {k : Nat} (hc : Cfs l) (hl0 : 1 ≤ l.length) (hk : k < 30) (i : Int) (xs : List Int) (hx : ∀ x ∈ xs, 0 ≤ x ∧ x ≤ 255) (s : SFaults × List SReady × List Int) (h : OutC l s.2.2 k s.1 s.2.1) :
    magnetotop_TopReadiness_b1 l i xs s = some (.ret true) ∨ ∃ s', magnetotop_TopReadiness_b1 l i xs s = some (.next s') ∧ OutC l s'.2.2 (k + 1) s'.1 s'.2.1 := by
  unfold magnetotop_TopReadiness_b1
  cases h10 : decide ((xs.length : Int) > 10)
  · right
    have h10 : xs.length ≤ 10 := by simp at h10; omega
    obtain ⟨tb0, hinv⟩ := h.inv
    obtain ⟨f1, b1, b2⟩ := begin_ok hc hinv (by omega) (by omega)
    have hin : InC l s.2.2 k f1 s.2.1 (fun _ => false) := ⟨b2, h.len, h.rng, h.rd⟩
    simp only [cond_false]
    rw [b1]
    simp only [Option.bind_some, bne_self_eq_false, Bool.false_or]
    have e4 : ((f1.L.length : Int) != (l.length : Int)) = false := by rw [b2.len]; simp
    rw [e4]
    simp only [cond_false]
    rw [rangeM_steps _ (by omega)]
    obtain ⟨s1, tb1, c1, c2⟩ := results_ok hc hl0 (by omega) xs 0 (f1, s.2.1) (fun _ => false) hx hin
    rw [c1]
    simp only [Option.bind_some]
    obtain ⟨s2, d1, d2, d3, d4⟩ := b3_loop hc (by omega) s1 tb1 c2
    rw [d1]
    simp only [Option.bind_some]
    obtain ⟨f2, t2, g1, g2⟩ := end_ok hc c2.inv (by omega) (by omega)
    rw [g1]
    exact ⟨_, rfl, ⟨t2, by push_cast; exact g2⟩, d2, d3, d4⟩
  · left; rfl
theorem cycles_ok {l : List SConfig} (hc : Cfs l) (hl0 : 1 ≤ l.length) : ∀ (cs : List (List Int)) (k : Nat) (i : Int) (s : SFaults × List SReady × List Int), k + cs.length ≤ 30 → (∀ xs ∈ cs, ∀ x ∈ xs, 0 ≤ x ∧ x ≤ 255) → OutC l s.2.2 k s.1 s.2.1 →
    stepsL (magnetotop_TopReadiness_b1 l) cs i s = some (.inr true) ∨ ∃ s', stepsL (magnetotop_TopReadiness_b1 l) cs i s = some (.inl s') ∧ OutC l s'.2.2 (k + cs.length) s'.1 s'.2.1
  | [], k, i, s, _, _, h => .inr ⟨s, rfl, h⟩
  | xs :: cs, k, i, s, hk, hx, h => by
    simp only [List.length_cons] at hk
    rcases b1_ok hc hl0 (by omega) i xs (hx xs (List.mem_cons_self ..)) s h with h1 | ⟨s1, h1, h2⟩
    · left; simp only [stepsL, h1, Option.bind_some]
    · simp only [stepsL, h1, Option.bind_some, List.length_cons]
      have := cycles_ok hc hl0 cs (k + 1) (i + 1) s1 (by omega) (fun y hy => hx y (List.mem_cons_of_mem _ hy)) h2
      rw [show k + 1 + cs.length = k + (cs.length + 1) by omega] at this
      exact this
theorem clear_eq (R : List SReady) (h : R.length ≤ 1000) : readiness_Clear R = some (R.map fun r => ⟨false, false, r.Numerator, r.Denominator⟩) := by
  unfold readiness_Clear
  rw [rangeM_steps _ (by omega)]
  have key : ∀ (r : List SReady) (i : Int) (out : List SReady), out.length + r.length ≤ 1000 → stepsL readiness_Clear_b1 r i out = some (.inl (out ++ r.map fun r => (⟨false, false, r.Numerator, r.Denominator⟩ : SReady))) := by
    intro r
    induction r with
    | nil => intro i out _; simp [stepsL]
    | cons x r ih =>
      intro i out hl
      simp only [List.length_cons] at hl
      simp only [stepsL, readiness_Clear_b1]
      rw [appendM_ok _ _ (by simp; omega)]
      simp only [Option.bind_some]
      rw [ih _ _ (by simp; omega)]
      simp
  rw [key R 0 [] (by simpa using h)]
  rfl
theorem plain_TopReadiness (x0 : List SConfig) (x1 : List (List Int)) (g0 : (wfL wf_SConfig) x0) (g1 : (wfL (wfL (fun n => (Lit.int .u8 n).wf = true))) x1)  : magnetotop_TopReadiness x0 x1 = some true := by
  unfold magnetotop_TopReadiness
  rw [show (3 : Int) = ((3 : Nat) : Int) from rfl, makeM_nat 3 (by decide)]
  simp only [Option.bind_some]
  rw [code_eq (List.replicate 3 ⟨false, false, 0, 0⟩) (by decide) (fun _ => false) (fun i hi => by rw [List.getElem_replicate]; exact ⟨rfl, rfl⟩)]
  simp only [Option.bind_some, List.length_replicate]
  have e7 : (((((dsum (fun _ => false) 3 : Nat) : Int), (0 : Int)).2 != 0) || ((((dsum (fun _ => false) 3 : Nat) : Int), (0 : Int)).1 != 7)) = false := by rw [dsum_all]; rfl
  simp only at e7
  rw [e7]
  simp only [cond_false]
  cases hb : (((decide ((x0.length : Int) < 1)) || (decide ((x0.length : Int) > 16))) || (decide ((x1.length : Int) > 30)))
  · simp only [Bool.or_eq_false_iff, decide_eq_false_iff_not] at hb
    obtain ⟨⟨hb1, hb2⟩, hb3⟩ := hb
    simp only [cond_false]
    rcases new_ok (l := x0) (by omega) with ⟨e, h1, h2⟩ | ⟨hc, f, h1, h2⟩
    · rw [h1]
      have : (e != 0) = true := by simpa using h2
      simp only [Option.bind_some, this, cond_true]
      rfl
    · rw [h1]
      simp only [Option.bind_some, bne_self_eq_false, cond_false]
      rw [makeM_nat x0.length (by omega), makeM_nat x0.length (by omega)]
      simp only [Option.bind_some]
      rw [rangeM_steps _ (by omega)]
      have hout : OutC x0 (List.replicate x0.length 0) 0 f (List.replicate x0.length ⟨false, false, 0, 0⟩) := ⟨⟨_, h2⟩, by simp, fun t ht => by have := List.eq_of_mem_replicate ht; subst this; decide, fun i => by
        simp only [List.getElem?_replicate]
        split <;> rfl⟩
      rcases cycles_ok hc (by omega) x1 0 0 (f, List.replicate x0.length ⟨false, false, 0, 0⟩, List.replicate x0.length 0) (by omega) (fun xs hxs x hx => u8_wf ((g1.2 xs hxs).2 x hx)) hout with hr | ⟨s, hr, ho⟩
      · rw [hr]; rfl
      · rw [hr]
        simp only [Option.bind_some]
        rw [Nat.zero_add] at ho
        have hTl := ho.len
        have hRl : s.2.1.length = x0.length := by
          have key : ∀ i : Nat, i < s.2.1.length ↔ i < s.2.2.length := fun i => by
            have := ho.rd i
            constructor
            · intro hi
              rw [List.getElem?_eq_getElem hi] at this
              cases hT : s.2.2[i]? with
              | none => rw [hT] at this; cases this
              | some t => exact (List.getElem?_eq_some_iff.1 hT).1
            · intro hi
              rw [List.getElem?_eq_getElem hi] at this
              exact (List.getElem?_eq_some_iff.1 this).1
          have a1 := key s.2.1.length; have a2 := key s.2.2.length
          omega
        have hR : ∀ i (hi : i < s.2.1.length) (hi2 : i < s.2.2.length), s.2.1[i] = rdy s.2.2[i] x1.length false := fun i hi hi2 => by
          have := ho.rd i
          rw [List.getElem?_eq_getElem hi, List.getElem?_eq_getElem hi2] at this
          exact Option.some.inj this
        have hrng : ∀ i (hi2 : i < s.2.2.length), 0 ≤ s.2.2[i] ∧ s.2.2[i] ≤ (x1.length : Int) := fun i hi2 => ho.rng _ (List.getElem_mem hi2)
        let d : Nat → Bool := fun i => match s.2.2[i]? with | some t => decide (t > 0) | none => false
        have hd : ∀ i (hi2 : i < s.2.2.length), d i = decide (s.2.2[i] > 0) := fun i hi2 => by simp only [d]; rw [List.getElem?_eq_getElem hi2]
        obtain ⟨w, w1, w2⟩ := rangeN_inv (R := Bool) s.2.1.length (by omega) (magnetotop_TopReadiness_b4 x1 s) (fun j u => u = (dsum d j : Int)) 0 rfl (fun j hj u hu => by
          subst hu
          have hj2 : j < s.2.2.length := by omega
          have hlt := dsum_lt d j
          have hr1 := hrng j hj2
          have hpow : (2 : Nat) ^ j < 2 ^ 16 := Nat.pow_lt_pow_right (by decide) (by omega)
          unfold magnetotop_TopReadiness_b4
          rw [getI_get _ _ hj, getI_get _ _ hj2]
          simp only [Option.bind_some]
          rw [hR j hj hj2]
          simp only [rdy, Bool.or_false, cond_false, Int.add_zero, beq_self_eq_true, Bool.not_true, bne_self_eq_false, Option.bind_some]
          refine ⟨_, ?_, rfl⟩
          simp only [dsum]
          rw [hd j hj2]
          by_cases ht : s.2.2[j] = 0
          · have e1 : (s.2.2[j] == 0) = true := by simpa using ht
            have e2 : decide (s.2.2[j] > 0) = false := by simp [ht]
            rw [e1, e2]
            simp only [cond_true, cond_false]
            rw [shl_pow j (by omega)]
            simp only [Option.bind_some]
            rw [w64_of (by omega) (by omega)]
            push_cast
            rfl
          · have e1 : (s.2.2[j] == 0) = false := by simpa using ht
            have e2 : decide (s.2.2[j] > 0) = true := by simp; omega
            rw [e1, e2]
            rfl)
        rw [w1]
        simp only [Option.bind_some]
        rw [code_eq s.2.1 (by omega) d (fun i hi => by
          have hi2 : i < s.2.2.length := by omega
          have := hrng i hi2
          rw [hR i hi hi2]
          exact ⟨rdy_valid false this.1 (by omega) (by omega) (by omega), by rw [hd i hi2]; simp [rdy]⟩), clear_eq _ (by omega)]
        simp only [Option.bind_some]
        rw [code_eq _ (by simp; omega) (fun _ => false) (fun i hi => by
          simp only [List.length_map] at hi
          have hi2 : i < s.2.2.length := by omega
          have := hrng i hi2
          simp only [List.getElem_map]
          rw [hR i hi hi2]
          refine ⟨?_, trivial⟩
          unfold rdB rdy
          simp
          omega)]
        simp only [Option.bind_some, List.length_map]
        rw [w2]
        simp only [beq_self_eq_true, Bool.and_self, cond_true]
        rw [shl_pow _ (by omega), dsum_all, hRl]
        have hp : 0 < 2 ^ x0.length := Nat.pow_pos (by decide)
        have hpow : (2 : Nat) ^ x0.length ≤ 2 ^ 16 := Nat.pow_le_pow_right (by decide) (by omega)
        simp only [Option.bind_some]
        rw [w64_of (by omega) (by omega)]
        have : (((2 ^ x0.length - 1 : Nat) : Int) == ((2 ^ x0.length : Nat) : Int) - 1) = true := by
          simp only [beq_iff_eq]; omega
        rw [this]
  · rfl
end Go.Pv
namespace Go.Proofs.Ytjgoihfcmpjimaa.topReadiness
open Go Go.Pv Go.Proofs Go.ChangeShapes Go.WideShapes Go.ChangeAt Go.RowKit Go.Proofs.Ytjgoihfcmpjimaa
theorem own : ownKnob Try.prog.godebug = none := by kernel_rfl
theorem laidOut : laidOutB Try.prog = true := by kernel_rfl
set_option maxRecDepth 100000 in
theorem lifted (os : Os) (started : os.Started) (H : Type) (enc : TypeId × Value → H) :
    ReturnsInHanded {} Try.checked os 3 .any (Rows.topReadinessSpec.pre6 enc Try.prog Try.f3 Rows.topReadinessRow.domain false) (Rows.topReadinessSpec.post enc Try.prog Try.f3 false true false false) := by
  refine returnsInHanded_of_change (C := Try.checked) own started (by kernel_rfl) Try.func3
    (ChangeSpec.witness6 (enc := enc) (C := Try.checked) false ⟨#[], #[.slice none 0 0, .slice none 0 0], []⟩ 16 (by kernel_rfl) (by kernel_rfl) (by kernel_rfl) (by kernel_rfl)) ?_
  intro W base args ds gs before hval0 hW hcnd _
  have hval : ∀ (j : Nat) t v, Try.f3.params[j]? = some t → args[j]? = some v → Value.okWide Try.prog W .any base t v := hval0
  have hW' := hW
  obtain ⟨p, q, hA0, hV, rfl, hfz, hnd⟩ := hW
  have hA : DataW.TrodAll enc Try.prog W 0 (fun _ => true) true Try.f3.params.toList args.toList ds p := hA0
  rw [Try.params3] at hA hval
  obtain ⟨v0, vs0, d0, ds0, p0, q0, hargs, rfl, rfl, h0, r0⟩ := trodAll_cons hA
  obtain ⟨v1, vs1, d1, ds1, p1, q1, rfl, rfl, rfl, h1, r1⟩ := trodAll_cons r0
  obtain ⟨rfl, rfl, rfl⟩ := trodAll_nil r1
  obtain rfl : args = #[v0, v1] := by cases args; simp_all
  obtain ⟨rfl, rfl⟩ := trodVars_none hV
  have k0 := h0
  have lt0 : ∀ x ∈ p0, x.block < W.heap.size := by obtain ⟨m, hm⟩ := k0; exact DataW.trod_lt m _ _ _ hm
  obtain ⟨x0, g0, a0⟩ := arg_22 _ _ W _ _ _ _ (hval 0 22 v0 rfl rfl) h0
  have k1 := h1
  have lt1 : ∀ x ∈ p1, x.block < W.heap.size := by obtain ⟨m, hm⟩ := k1; exact DataW.trod_lt m _ _ _ hm
  obtain ⟨x1, g1, a1⟩ := arg_23 _ _ W _ _ _ _ (hval 1 23 v1 rfl rfl) h1
  clear hA0 hval0
  refine (TieF.calls (tie_magnetotop_TopReadiness x0 x1) (plain_TopReadiness x0 x1 g0 g1) (rvl_cons (a0 _) (rvl_cons (a1 _) rvl_nil))).mono fun e W' ⟨he, bel⟩ => ?_
  subst he
  exact ⟨_, rfl, _, _, _, [], _, [], hW', trodAll_mk1 (shut_bool Try.underlying4 _), (trodAll_cons_mk (Below.trod laidOut (by kernel_rfl) (of_decide_eq_true (by kernel_rfl)) k0 bel lt0) (trodAll_cons_mk (Below.trod laidOut (by kernel_rfl) (of_decide_eq_true (by kernel_rfl)) k1 bel lt1) trodAll_mk0)), rfl, bel.frame _, fun h => by cases h⟩
end Go.Proofs.Ytjgoihfcmpjimaa.topReadiness
namespace Go.Proofs.Ytjgoihfcmpjimaa
theorem topReadiness_holds : Rows.TopReadinessSaid :=
  OpenClaim.holds_of_wide 3 Try.f3 rfl rfl rfl rfl rfl rfl rfl ⟨rfl, rfl, rfl, rfl, rfl⟩ rfl rfl rfl rfl rfl (by kernel_rfl) Try.func3 (by kernel_rfl)
    (of_decide_eq_true (by kernel_rfl)) (by unfold Func.isWrapper; first | (rw [if_pos (by decide +kernel)]; kernel_rfl) | (rw [if_neg (by decide +kernel)]; exact ⟨rfl, rfl⟩))
    (fun os started H enc _ => topReadiness.lifted os started H enc)
#print axioms topReadiness_holds
end Go.Proofs.Ytjgoihfcmpjimaa

/- This file joins: Plain Lean: what pedal, idle, knock, mixture, fuel and spark answer for valid states. The arbiter's functions, as they compute. Plain Lean. Plain Lean: what a step of all control functions answers. Plain Lean: the laws of a step of all control functions. Plain Lean: the laws of a step of all control functions: runs. The plain law of ControlRuns. -/
import Derived.Test.YtalanclpiojanaaGreatControlRunsI
import Derived.KernelRfl
set_option linter.unusedSimpArgs false
set_option linter.unusedVariables false
set_option linter.unusedSimpArgs false
namespace Go.Pv
open Go
structure PedOk (p : SPedal) : Prop where
  v : 0 ≤ p.Value ∧ p.Value ≤ 1000
  d : 0 ≤ p.Differ ∧ p.Differ ≤ 3
  f : p.Fault = true ↔ p.Differ = 3
  l : p.Fault = true → p.Value ≤ 200
theorem pedOk {p : SPedal} : pedB p = true ↔ PedOk p := by
  unfold pedB
  rw [decide_eq_true_eq]
  exact ⟨fun ⟨a, b, c, d, e, f⟩ => ⟨⟨a, b⟩, ⟨c, d⟩, e, f⟩, fun ⟨⟨a, b⟩, ⟨c, d⟩, e, f⟩ => ⟨a, b, c, d, e, f⟩⟩
def pedV (p : SPedal) (a b : Int) : SPedal :=
  let f := min (max a 0) 1000
  let s := 2 * min (max b 0) 500
  let w := decide (max (f - s) (s - f) > 50)
  let d := if w then min 3 (p.Differ + 1) else if p.Fault then p.Differ else 0
  if d = 3 then ⟨min (min f s) 200, d, true⟩ else if w then ⟨min (min f s) p.Value, d, false⟩ else ⟨f, d, false⟩
theorem q458 {p : SPedal} (h : pedB p = true) (a b : Int) : q307 p a b = some (pedV p a b, 0) ∧ pedB (pedV p a b) = true := by
  have k := pedOk.1 h
  have k1 := k.v; have k2 := k.d; have k3 := k.f; have k4 := k.l
  constructor
  · unfold q307 pedV
    rw [ped_eq, h, q64, q64]
    simp only [Option.bind_some, Bool.not_true, cond_false, minI_eq, maxI_eq]
    have f0 : 0 ≤ min (max a 0) 1000 ∧ min (max a 0) 1000 ≤ 1000 := by omega
    have s0 : 0 ≤ min (max b 0) 500 ∧ min (max b 0) 500 ≤ 500 := by omega
    generalize min (max a 0) 1000 = f at f0
    generalize min (max b 0) 500 = s at s0
    rw [w64_of (n := 2 * s) (by omega) (by omega), w64_of (n := f - 2 * s) (by omega) (by omega), w64_of (n := 2 * s - f) (by omega) (by omega), w64_of (n := p.Differ + 1) (by omega) (by omega)]
    cases hw : decide (max (f - 2 * s) (2 * s - f) > 50)
    · simp only [cond_false, Bool.false_eq_true, if_false]
      cases hf : p.Fault
      · simp only [Bool.not_false, cond_true, Option.bind_some, Bool.false_eq_true, if_false]
        rfl
      · have := k3.1 hf
        simp only [Bool.not_true, cond_false, Option.bind_some, if_true]
        rw [this]
        rfl
    · simp only [cond_true, Option.bind_some, if_true]
      by_cases hd : min 3 (p.Differ + 1) = 3
      · rw [hd]; rfl
      · rw [if_neg hd, show (min 3 (p.Differ + 1) == 3) = false from beq_eq_false_iff_ne.2 hd]; rfl
  · rw [pedOk]
    unfold pedV
    simp only
    have f0 : 0 ≤ min (max a 0) 1000 ∧ min (max a 0) 1000 ≤ 1000 := by omega
    have s0 : 0 ≤ min (max b 0) 500 ∧ min (max b 0) 500 ≤ 500 := by omega
    generalize min (max a 0) 1000 = f at f0
    generalize min (max b 0) 500 = s at s0
    have hd : ∀ w : Bool, 0 ≤ (if w = true then min 3 (p.Differ + 1) else if p.Fault = true then p.Differ else 0) ∧ (if w = true then min 3 (p.Differ + 1) else if p.Fault = true then p.Differ else 0) ≤ 3 := by
      intro w; split
      · omega
      · split <;> omega
    have hd := hd (decide (max (f - 2 * s) (2 * s - f) > 50))
    generalize (if decide (max (f - 2 * s) (2 * s - f) > 50) = true then min 3 (p.Differ + 1) else if p.Fault = true then p.Differ else 0) = d at hd
    by_cases h3 : d = 3
    · rw [if_pos h3]; exact ⟨by simp only; omega, hd, ⟨fun _ => h3, fun _ => rfl⟩, fun _ => by simp only; omega⟩
    · rw [if_neg h3]
      split
      · exact ⟨by simp only; omega, hd, ⟨fun h => (by cases h), fun h => absurd h h3⟩, fun h => (by cases h)⟩
      · exact ⟨by simp only; omega, hd, ⟨fun h => (by cases h), fun h => absurd h h3⟩, fun h => (by cases h)⟩
noncomputable def wishV (t : STables) (v s : Int) : Int := min (max (sAt t.Wish s v) (-5000)) 10000
theorem wish_eq {t : STables} (h : mapB t.Wish = true) {v s : Int} (v0 : 0 ≤ v ∧ v ≤ 1000) (s0 : 0 ≤ s ∧ s ≤ 12000) : q309 t v s = some (wishV t v s, 0) := by
  unfold q309
  rw [q62, h, sAt_eq h]
  simp only [Option.bind_some, Bool.not_true, cond_false]
  rw [show (((decide (v < 0)) || (decide (v > 1000))) || (decide (s < 0))) = false by simp only [Bool.or_eq_false_iff, decide_eq_false_iff_not]; omega, show decide (s > 12000) = false from decide_eq_false (by omega), q64, minI_eq, maxI_eq]
  rfl
theorem q519 (t : STables) (v s : Int) : -5000 ≤ wishV t v s ∧ wishV t v s ≤ 10000 := by unfold wishV; omega
def tgtV (c : Int) : Int := if c ≤ -20 then 1200 else if c ≥ 70 then 800 else 1200 - 400 * (c + 20) / 90
theorem tgt_eq {c : Int} (h : -40 ≤ c ∧ c ≤ 150) : q215 c = some (tgtV c) ∧ 800 ≤ tgtV c ∧ tgtV c ≤ 1200 := by
  unfold q215 tgtV
  by_cases h1 : c ≤ -20
  · rw [decide_eq_true h1, if_pos h1]; exact ⟨rfl, by omega, by omega⟩
  · by_cases h2 : c ≥ 70
    · rw [decide_eq_false h1, decide_eq_true h2, if_neg h1, if_pos h2]; exact ⟨rfl, by omega, by omega⟩
    · rw [decide_eq_false h1, decide_eq_false h2, if_neg h1, if_neg h2, w64_of (n := c + 20) (by omega) (by omega), w64_of (n := 400 * (c + 20)) (by omega) (by omega), Int.tdiv_eq_ediv_of_nonneg (by omega), w64_of (n := 400 * (c + 20) / 90) (by omega) (by omega), w64_of (by omega) (by omega)]
      exact ⟨rfl, by omega, by omega⟩
def actV (v s c : Int) : Bool := inR 0 19 v && (inR 0 12000 s && decide (s < tgtV c + 300))
theorem act_eq {v s c : Int} (h : -40 ≤ c ∧ c ≤ 150) : q279 v s c = some (actV v s c) := by
  obtain ⟨h1, h2⟩ := tgt_eq h
  unfold q279 q404 actV
  rw [h1, show (decide (v ≥ 0) && decide (v < 20)) = inR 0 19 v by unfold inR; congr 1; rw [decide_eq_decide]; omega, show q131 s = some (inR 0 12000 s) from rfl]
  simp only [Option.bind_some]
  rw [w64_of (by omega) (by omega)]
  cases inR 0 19 v <;> cases inR 0 12000 s <;> rfl
def sumOk (s : SIntegral) : Prop := -4398046511104 ≤ s.Sum ∧ s.Sum ≤ 4398046511104
theorem ictl_eq {s : SIntegral} {g : SGain} (hg : gainB g = true) (hs : sumOk s) {e : Int} (e0 : -1048576 ≤ e ∧ e ≤ 1048576) : ∃ s' u, q195 s g e = some (s', u, 0) ∧ sumOk s' := by
  have hs' := hs
  unfold sumOk at hs'
  unfold q195
  rw [show q63 g = some (gainB g) from rfl, hg]
  simp only [Option.bind_some]
  rw [show ((!true || decide (s.Sum < (-4398046511104))) || decide (s.Sum > 4398046511104)) = false by simp only [Bool.not_true, Bool.false_or, Bool.or_eq_false_iff, decide_eq_false_iff_not]; omega]
  rw [show (decide (e < (-1048576)) || decide (e > 1048576)) = false by simp only [Bool.or_eq_false_iff, decide_eq_false_iff_not]; omega]
  simp only [cond_false]
  generalize bitShr .i64 (w64 ((w64 (g.P * e)) + s.Sum)) 10 = u
  generalize (decide (u ≤ g.High) || decide (e ≤ 0)) = A
  generalize (decide (u ≥ g.Low) || decide (e ≥ 0)) = B
  cases A
  · exact ⟨s, _, rfl, hs⟩
  · cases B
    · exact ⟨s, _, rfl, hs⟩
    · refine ⟨⟨_⟩, _, rfl, ?_⟩
      unfold sumOk
      simp only [minI_eq, maxI_eq]
      omega
theorem q558 {s : SIntegral} {g : SGain} (hg : gainB g = true) (hs : sumOk s) {c v : Int} (c0 : -40 ≤ c ∧ c ≤ 150) (v0 : 0 ≤ v ∧ v ≤ 12000) : ∃ s' u, q189 s g (tgtV c) v = some (s', u, 0) ∧ sumOk s' := by
  obtain ⟨_, t0, t1⟩ := tgt_eq c0
  obtain ⟨s', u, h1, h2⟩ := ictl_eq hg hs (e := tgtV c - v) (by omega)
  refine ⟨s', u, ?_, h2⟩
  unfold q189
  rw [show q63 g = some (gainB g) from rfl, hg, show q131 (tgtV c) = some (inR 0 12000 (tgtV c)) from rfl, show q131 v = some (inR 0 12000 v) from rfl, in_true (show 0 ≤ tgtV c by omega) (by omega), in_true v0.1 v0.2, w64_of (by omega) (by omega)]
  simp only [Option.bind_some, Bool.not_true, cond_false]
  rw [h1]; rfl
structure KnOk (k : SKnock) : Prop where
  r : 0 ≤ k.Retard ∧ k.Retard ≤ 960
  n : 0 ≤ k.Noise ∧ k.Noise ≤ 4095
  q : 0 ≤ k.Quiet ∧ k.Quiet ≤ 99
theorem knOk {k : SKnock} : knB k = true ↔ KnOk k := by
  unfold knB
  simp only [Bool.and_eq_true, inR_iff, decide_eq_true_eq]
  exact ⟨fun ⟨⟨⟨a, b⟩, c⟩, d⟩ => ⟨a, b, c, d⟩, fun ⟨a, b, c, d⟩ => ⟨⟨⟨a, b⟩, c⟩, d⟩⟩
def kst (k : SKnock) (n : Int) : SKnock :=
  if n > 3 * k.Noise + 40 then ⟨min (k.Retard + 96) 960, k.Noise, 0⟩
  else if k.Quiet + 1 = 100 then ⟨max (k.Retard - 16) 0, k.Noise + (n - k.Noise) / 8, 0⟩ else ⟨k.Retard, k.Noise + (n - k.Noise) / 8, k.Quiet + 1⟩
theorem kst_eq {k : SKnock} {n : Int} (h : knB k = true) (n0 : inR 0 4095 n = true) : (∃ b, q248 k n = some (kst k n, b)) ∧ knB (kst k n) = true := by
  have o := knOk.1 h
  have o1 := o.r; have o2 := o.n; have o3 := o.q
  have n1 := inR_iff.1 n0
  constructor
  · unfold q248 kst
    rw [w64_of (n := 3 * k.Noise) (by omega) (by omega), w64_of (n := 3 * k.Noise + 40) (by omega) (by omega)]
    by_cases h1 : n > 3 * k.Noise + 40
    · rw [decide_eq_true h1, if_pos h1, w64_of (n := k.Retard + 96) (by omega) (by omega), minI_eq]
      exact ⟨_, rfl⟩
    · rw [decide_eq_false h1, if_neg h1, w64_of (n := k.Quiet + 1) (by omega) (by omega), w64_of (n := k.Retard - 16) (by omega) (by omega), w64_of (n := n - k.Noise) (by omega) (by omega), q370 _ _ (by omega) (by omega) (by omega) (by omega), maxI_eq]
      by_cases h2 : k.Quiet + 1 = 100
      · rw [show (k.Quiet + 1 == 100) = true from beq_iff_eq.2 h2, if_pos h2]
        simp only [cond_false, cond_true, Option.bind_some]
        rw [w64_of (by omega) (by omega)]
        exact ⟨_, rfl⟩
      · rw [show (k.Quiet + 1 == 100) = false from beq_eq_false_iff_ne.2 h2, if_neg h2]
        simp only [cond_false, cond_true, Option.bind_some]
        rw [w64_of (by omega) (by omega)]
        exact ⟨_, rfl⟩
  · rw [knOk]
    unfold kst
    split
    · exact ⟨by simp only; omega, by simp only; omega, by simp only; omega⟩
    · split
      · exact ⟨by simp only; omega, by simp only; omega, by simp only; omega⟩
      · exact ⟨by simp only; omega, by simp only; omega, by simp only; omega⟩
def ksV (l : List SKnock) (m : List Int) : List SKnock := List.zipWith kst l m
theorem ks_eq {l : List SKnock} {m : List Int} (h : l.all knB = true) (hm : m.all (inR 0 4095) = true) (hl : 1 ≤ l.length ∧ l.length ≤ 8) (he : m.length = l.length) :
    q347 l m = some (ksV l m, 0) ∧ (ksV l m).all knB = true ∧ (ksV l m).length = l.length := by
  rw [List.all_eq_true] at h hm
  have hlen : (ksV l m).length = l.length := by unfold ksV; rw [List.length_zipWith]; omega
  have hget : ∀ j (h1 : j < l.length) (h2 : j < m.length), (ksV l m)[j]? = some (kst l[j] m[j]) := by
    intro j h1 h2
    unfold ksV
    rw [List.getElem?_zipWith, List.getElem?_eq_getElem h1, List.getElem?_eq_getElem h2]
  have hk : ∀ j (h1 : j < l.length) (h2 : j < m.length), (∃ b, q248 l[j] m[j] = some (kst l[j] m[j], b)) ∧ knB (kst l[j] m[j]) = true := fun j h1 h2 => kst_eq (h _ (List.getElem_mem h1)) (hm _ (List.getElem_mem h2))
  refine ⟨?_, ?_, hlen⟩
  · have a1 : q44 l q164 = some (l.any fun k => !knB k) := index_any l (by omega) q164 _ (fun k _ => by unfold q164; rw [kn_eq]; rfl)
    have a2 : q19 m q210 = some (m.any fun k => !inR 0 4095 k) := q88 m (by omega) q210 _ (fun k _ => rfl)
    have b1 : (l.any fun k => !knB k) = false := by rw [List.any_eq_false]; intro x hx; rw [h x hx]; simp
    have b2 : (m.any fun k => !inR 0 4095 k) = false := by rw [List.any_eq_false]; intro x hx; rw [hm x hx]; simp
    unfold q347
    rw [show (((decide ((l.length : Int) < 1)) || (decide ((l.length : Int) > 8))) || ((m.length : Int) != (l.length : Int))) = false by simp; omega, a1, b1, a2, b2]
    simp only [cond_false, Option.bind_some]
    unfold q168
    rw [appendM_ok _ _ (by simp; omega)]
    simp only [Option.bind_some, List.nil_append]
    obtain ⟨u, e, hu⟩ := rangeN_inv l.length (by omega) (q316 l m) (fun i u => u.length = l.length ∧ ∀ j, j < i → u[j]? = (ksV l m)[j]?) l ⟨rfl, fun j hj => by omega⟩ (fun j hj u hu => by
      obtain ⟨⟨b, hb⟩, _⟩ := hk j hj (by omega)
      unfold q316
      rw [getI_get _ _ hj, getI_get _ _ (show j < m.length by omega)]
      simp only [Option.bind_some]
      rw [hb]
      simp only [Option.bind_some]
      rw [getI_get _ _ (by omega)]
      simp only [Option.bind_some]
      rw [setM_nat _ _ _ (by omega)]
      refine ⟨_, rfl, by simp [hu.1], fun i hi => ?_⟩
      rcases Nat.lt_or_ge i j with h | h
      · rw [List.getElem?_set_ne (by omega)]; exact hu.2 i h
      · have : i = j := by omega
        subst this
        rw [List.getElem?_set_self (by omega), hget i hj (by omega)])
    rw [e]
    have : u = ksV l m := by
      apply List.ext_getElem?
      intro i
      rcases Nat.lt_or_ge i l.length with h | h
      · exact hu.2 i h
      · rw [List.getElem?_eq_none (by omega), List.getElem?_eq_none (by omega)]
    rw [this]
    rfl
  · rw [List.all_eq_true]
    intro x hx
    obtain ⟨j, hj, rfl⟩ := List.mem_iff_getElem.1 hx
    have h1 : j < l.length := by omega
    have := hget j h1 (by omega)
    rw [List.getElem?_eq_getElem hj] at this
    rw [Option.some.inj this]
    exact (hk j h1 (by omega)).2
structure MixOk (p : SProbe) : Prop where
  f : 750 ≤ p.Factor ∧ p.Factor ≤ 1250
  w : 0 ≤ p.Wait ∧ p.Wait ≤ 1000
  n : p.Cells.length = 9
  a : p.Active = true ∨ (p.Factor = 1000 ∧ p.Wait = 0 ∧ p.Rich = false)
  c : p.Cells.all cellB = true
theorem mixOk {p : SProbe} : mixB p = true ↔ MixOk p := by
  unfold mixB
  simp only [Bool.and_eq_true, inR_iff, decide_eq_true_eq, Bool.or_eq_true, Bool.not_eq_true']
  exact ⟨fun ⟨⟨⟨⟨a, b⟩, c⟩, d⟩, e⟩ => ⟨a, b, c, d.imp_right (fun h => ⟨h.1.1, h.1.2, h.2⟩), e⟩, fun ⟨a, b, c, d, e⟩ => ⟨⟨⟨⟨a, b⟩, c⟩, d.imp_right (fun h => ⟨⟨h.1, h.2.1⟩, h.2.2⟩)⟩, e⟩⟩
def mxR (p : SProbe) (m : Int) : Bool := decide (m > 500) || (decide (m ≥ 400) && p.Rich)
def mxV (p : SProbe) (m : Int) : SProbe :=
  bif p.Active then
    (bif mxR p m == p.Rich then ⟨true, mxR p m, min (max (p.Factor + bif mxR p m then -1 else 1) 750) 1250, min 1000 (p.Wait + 1), p.Cells⟩
    else ⟨true, mxR p m, min (max (p.Factor + bif mxR p m then -15 else 15) 750) 1250, 0, p.Cells⟩)
  else ⟨decide (m < 300) || decide (m > 600), decide (m > 600), p.Factor, p.Wait, p.Cells⟩
theorem m_in (x lo hi : Int) : q54 x lo hi = some (inR lo hi x) := rfl
theorem q498 (s c : Int) : q118 s c = some (inR 0 12000 s && inR 0 1048576 c) := by
  unfold q118
  rw [m_in, m_in]
  cases inR 0 12000 s <;> rfl
theorem q475 {p : SProbe} (h : mixB p = true) {m s c : Int} (m0 : 0 ≤ m ∧ m ≤ 20000) (s0 : 0 ≤ s ∧ s ≤ 12000) (c0 : 0 ≤ c ∧ c ≤ 1048576) : q247 p m s c = some (mxV p m, 0) ∧ mixB (mxV p m) = true := by
  have k := mixOk.1 h
  have k1 := k.f; have k2 := k.w; have k3 := k.n
  constructor
  · unfold q247 q268 q191 mxV
    rw [mix_eq, h, q498, in_true s0.1 s0.2, in_true c0.1 c0.2, m_in, in_true m0.1 m0.2, appendM_ok _ _ (by simp; omega)]
    simp only [Option.bind_some, Bool.not_true, cond_false, Bool.and_self, List.nil_append]
    cases ha : p.Active
    · rfl
    · simp only [Bool.not_true, cond_false, cond_true]
      have hr : (bif (decide (m > 500)) then (some true) else (some ((decide (m ≥ 400)) && p.Rich))) = some (mxR p m) := by unfold mxR; cases decide (m > 500) <;> rfl
      rw [hr, w64_of (n := p.Wait + 1) (by omega) (by omega)]
      simp only [Option.bind_some, minI_eq]
      cases mxR p m == p.Rich
      · simp only [Bool.not_false, cond_true, cond_false, Option.bind_some]
        cases mxR p m
        · simp only [cond_false, Option.bind_some, q64, minI_eq, maxI_eq]
          rw [w64_of (by omega) (by omega)]
        · simp only [cond_true, Option.bind_some, q64, minI_eq, maxI_eq]
          rw [w64_of (n := 0 - 15) (by omega) (by omega), w64_of (by omega) (by omega)]
          rfl
      · simp only [Bool.not_true, cond_true, cond_false, Option.bind_some]
        cases mxR p m
        · simp only [cond_false, Option.bind_some, q64, minI_eq, maxI_eq]
          rw [w64_of (by omega) (by omega)]
        · simp only [cond_true, Option.bind_some, q64, minI_eq, maxI_eq]
          rw [w64_of (n := 0 - 1) (by omega) (by omega), w64_of (by omega) (by omega)]
          rfl
  · rw [mixOk]
    unfold mxV
    cases ha : p.Active
    · have a := k.a
      rw [ha] at a
      obtain ⟨a1, a2, a3⟩ := a.resolve_left (by simp)
      refine ⟨k1, k2, k3, ?_, k.c⟩
      by_cases hm : m > 600
      · exact .inl (by show (decide (m < 300) || decide (m > 600)) = true; rw [decide_eq_true hm, Bool.or_true])
      · exact .inr ⟨a1, a2, decide_eq_false hm⟩
    · simp only [cond_true]
      cases mxR p m == p.Rich
      · exact ⟨by simp only [cond_false]; omega, by simp only [cond_false]; omega, k3, .inl rfl, k.c⟩
      · exact ⟨by simp only [cond_true]; omega, by simp only [cond_true]; omega, k3, .inl rfl, k.c⟩
def clsV (x a b : Int) : Nat := if x ≥ b then 2 else if x ≥ a then 1 else 0
theorem cls_eq (x a b : Int) (hab : a ≤ b) : q159 x [a, b] = some (clsV x a b : Int) := by
  have w1 : w64 ((0 : Int) + 1) = 1 := by decide
  have w2 : w64 ((1 : Int) + 1) = 2 := by decide
  unfold q159 clsV
  rw [rangeM_steps _ (by simp)]
  simp only [stepsL, q319]
  by_cases h1 : x ≥ a
  · by_cases h2 : x ≥ b
    · rw [decide_eq_true h1, decide_eq_true h2, if_pos h2]
      simp only [cond_true, Option.bind_some, w1, w2]; rfl
    · rw [decide_eq_true h1, decide_eq_false h2, if_neg h2, if_pos h1]
      simp only [cond_true, cond_false, Option.bind_some, w1]; rfl
  · have h2 : ¬ x ≥ b := by omega
    rw [decide_eq_false h1, decide_eq_false h2, if_neg h2, if_neg h1]
    simp only [cond_false, Option.bind_some]; rfl
theorem q478 (x a b : Int) : clsV x a b ≤ 2 := by unfold clsV; split; omega; split <;> omega
def cellV (s c : Int) : Nat := 3 * clsV s 1500 3500 + clsV c 150000 350000
def facV (p : SProbe) (s c : Int) : Int := min (max (p.Factor + (p.Cells.getD (cellV s c) ⟨0, 0⟩).Value) 700) 1300
theorem fac_eq {p : SProbe} (h : mixB p = true) {s c : Int} (s0 : 0 ≤ s ∧ s ≤ 12000) (c0 : 0 ≤ c ∧ c ≤ 1048576) : q192 p s c = some (facV p s c, 0) := by
  have k := mixOk.1 h
  have k1 := k.f; have k3 := k.n
  have q1 := q478 s 1500 3500
  have q2 := q478 c 150000 350000
  have hc : cellV s c < p.Cells.length := by unfold cellV; omega
  have hcell := List.all_eq_true.1 k.c _ (List.getElem_mem hc)
  unfold cellB at hcell
  rw [Bool.and_eq_true, inR_iff] at hcell
  have hv := hcell.1
  unfold q192 q332
  rw [mix_eq, h, q498, in_true s0.1 s0.2, in_true c0.1 c0.2, cls_eq _ _ _ (by omega), cls_eq _ _ _ (by omega)]
  simp only [Option.bind_some, Bool.not_true, cond_false, Bool.and_self]
  rw [w64_of (n := 3 * (clsV s 1500 3500 : Int)) (by omega) (by omega), w64_of (by omega) (by omega), show 3 * (clsV s 1500 3500 : Int) + (clsV c 150000 350000 : Int) = ((cellV s c : Nat) : Int) by unfold cellV; omega, getI_get _ _ hc]
  simp only [Option.bind_some]
  unfold facV
  rw [w64_of (by omega) (by omega), q64, minI_eq, maxI_eq, List.getD_eq_getElem?_getD, List.getElem?_eq_getElem hc]
  rfl
theorem q532 (p : SProbe) (s c : Int) : 700 ≤ facV p s c ∧ facV p s c ≤ 1300 := by unfold facV; omega
theorem f_in (x lo hi : Int) : fuel_in x lo hi = some (inR lo hi x) := rfl
theorem q567 {c : Int} (c0 : 0 ≤ c ∧ c ≤ 1048576) : q340 c 1000 = some (c * 10000 / 147000, 0) := by
  unfold q340
  rw [f_in, f_in, in_true c0.1 c0.2, show inR 500 2000 1000 = true from rfl]
  simp only [Option.bind_some, Bool.not_true, cond_false]
  rw [w64_of (n := c * 10000) (by omega) (by omega), w64_of (n := 1000 * 147) (by omega) (by omega), quoE (by omega) (by omega) (by omega)]
  rfl
theorem q505 {b : SBody} (h : bodyB b = true) : q286 b = some true := by
  have k := bodyOk h
  have k1 := k.fi; have k2 := k.ev
  unfold q286
  rw [f_in, f_in, in_true k1.1 k1.2, in_true (show 0 ≤ b.Evaporate by omega) k2.2]
  rfl
def wallV (b : SBody) (i : Int) : Int := i * b.Film / 1024
def leaveV (b : SBody) (f : Int) : Int := f * b.Evaporate / 1024
theorem q451 {b : SBody} (h : bodyB b = true) {i : Int} (i0 : 0 ≤ i) : 0 ≤ wallV b i ∧ wallV b i ≤ i := by
  have k := (bodyOk h).fi
  have b1 := prod_le (A := i) i0 (Int.le_refl i) k.1 k.2
  unfold wallV; omega
theorem q274 {b : SBody} (h : bodyB b = true) {i : Int} (i0 : 0 ≤ i) : 0 ≤ leaveV b i ∧ leaveV b i ≤ i := by
  have k := (bodyOk h).ev
  have b1 := prod_le (A := i) i0 (Int.le_refl i) (show 0 ≤ b.Evaporate by omega) k.2
  unfold leaveV; omega
theorem q434 {b : SBody} (h : bodyB b = true) {f i : Int} (f0 : 0 ≤ f ∧ f ≤ 1073741824) (i0 : 0 ≤ i ∧ i ≤ 1048576) : q239 b f i = some (i - wallV b i + leaveV b f, f + wallV b i - leaveV b f) := by
  have k := bodyOk h
  have k1 := k.fi; have k2 := k.ev
  have b1 := prod_le i0.1 i0.2 k1.1 k1.2
  have b2 := prod_le f0.1 f0.2 (show 0 ≤ b.Evaporate by omega) k2.2
  have r1 := q451 h i0.1
  have r2 := q274 h f0.1
  have e1 : w64 (Int.tdiv (w64 (i * b.Film)) 1024) = wallV b i := by
    unfold wallV at r1 ⊢
    rw [w64_of (n := i * b.Film) (by omega) (by omega), Int.tdiv_eq_ediv_of_nonneg b1.1, w64_of (by omega) (by omega)]
  have e2 : w64 (Int.tdiv (w64 (f * b.Evaporate)) 1024) = leaveV b f := by
    unfold leaveV at r2 ⊢
    rw [w64_of (n := f * b.Evaporate) (by omega) (by omega), Int.tdiv_eq_ediv_of_nonneg b2.1, w64_of (by omega) (by omega)]
  unfold q239
  rw [e1, e2, w64_of (n := i - wallV b i) (by omega) (by omega), w64_of (n := f + wallV b i) (by omega) (by omega), w64_of (by omega) (by omega), w64_of (by omega) (by omega)]
theorem q570 {b : SBody} (h : bodyB b = true) {f : Int} (f0 : 0 ≤ f ∧ f ≤ 1073741824) : q287 b f 0 = some (leaveV b f, f - leaveV b f, 0) := by
  have r2 := q274 h f0.1
  have e0 : wallV b 0 = 0 := by unfold wallV; rw [Int.zero_mul]; rfl
  unfold q287
  rw [q505 h, f_in, f_in, in_true f0.1 f0.2, show inR 0 1048576 0 = true from rfl, q434 h f0 ⟨by omega, by omega⟩, e0]
  simp only [Option.bind_some, Bool.not_true, cond_false]
  rw [decide_eq_false (show ¬ (f + 0 - leaveV b f > 1073741824) by omega), show (0 : Int) - 0 + leaveV b f = leaveV b f by omega, show f + 0 - leaveV b f = f - leaveV b f by omega]
  rfl
theorem find_b1 (f : Int → Option Int) : q324 f = q69 (fun x => Option.bind (f x) fun v => some (!decide (v > 0))) := by
  funext s
  unfold q324 q69
  cases decide (s.1 < s.2)
  · rfl
  · simp only [cond_true]
    cases f (w64 (bitShr .u64 (IntKind.u64.wrap (w64 (s.1 + s.2))) 1)) with
    | none => rfl
    | some v => simp only [Option.bind_some, Bool.not_not]
theorem q523 (n : Nat) (hn : n ≤ 2305843009213693951) (f : Int → Option Int) (g : Nat → Int) (hf : ∀ i, i < n → f (i : Int) = some (g i)) :
    ∃ (k : Nat) (b : Bool), k ≤ n ∧ q285 (n : Int) f = some ((k : Int), b) ∧ (0 < k → g (k - 1) > 0) ∧ (k < n → g k ≤ 0) := by
  obtain ⟨k, k1, k2, k3, k4⟩ := q133 n hn (fun x => Option.bind (f x) fun v => some (!decide (v > 0))) (fun i => !decide (g i > 0)) (fun i hi => by simp only [hf i hi, Option.bind_some])
  unfold q46 at k2
  have h3 : 0 < k → g (k - 1) > 0 := fun h => by have := k3 h; simp at this; omega
  have h4 : k < n → g k ≤ 0 := fun h => by have := k4 h; simp at this; omega
  unfold q285
  rw [find_b1]
  cases hl : loopM (q69 (fun x => Option.bind (f x) fun v => some (!decide (v > 0)))) (0, (n : Int)) with
  | none => rw [hl] at k2; cases k2
  | some t =>
    rw [hl] at k2
    cases t with
    | inr r => exact r.elim
    | inl s2 =>
      simp only [Option.bind_some, Option.some.injEq] at k2
      simp only [Option.bind_some]
      rw [k2]
      rcases Nat.lt_or_ge k n with h | h
      · rw [decide_eq_true (show (k : Int) < (n : Int) by omega), hf k h]
        exact ⟨k, _, k1, rfl, h3, h4⟩
      · rw [decide_eq_false (show ¬ (k : Int) < (n : Int) by omega)]
        exact ⟨k, _, k1, rfl, h3, h4⟩
structure WantOk (b : SBody) (f m i x e : Int) : Prop where
  out : e = 0 ∨ e = 9
  inj : e = 0 → 0 ≤ i ∧ i ≤ 1048576
  film : e = 0 → x = f + wallV b i - leaveV b f
  ran : e = 0 → 0 ≤ x ∧ x ≤ 1073741824
  fit : e = 0 → m ≤ i - wallV b i + leaveV b f
  low : e = 0 → 0 < i → (i - 1) - wallV b (i - 1) + leaveV b f < m
  big : e = 9 → 1048576 - wallV b 1048576 + leaveV b f < m ∨ ∃ j, 0 ≤ j ∧ j ≤ 1048576 ∧ m ≤ j - wallV b j + leaveV b f ∧ (0 < j → (j - 1) - wallV b (j - 1) + leaveV b f < m) ∧ 1073741824 < f + wallV b j - leaveV b f
theorem q560 {b : SBody} (h : bodyB b = true) {f m : Int} (f0 : 0 ≤ f ∧ f ≤ 1073741824) (m0 : 0 ≤ m ∧ m ≤ 1048576) : ∃ i x e, q240 b f m = some (i, x, e) ∧ WantOk b f m i x e := by
  have r2 := q274 h f0.1
  have r1 : ∀ i : Int, 0 ≤ i → 0 ≤ wallV b i ∧ wallV b i ≤ i := fun i hi => q451 h hi
  unfold q240
  rw [q505 h, f_in, f_in, in_true f0.1 f0.2, in_true m0.1 m0.2]
  simp only [Option.bind_some, Bool.not_true, cond_false]
  obtain ⟨k, q, k1, k2, k3, k4⟩ := q523 1048577 (by omega) (fun x0 => q165 x0 b f m) (fun i => m - ((i : Int) - wallV b (i : Int) + leaveV b f)) (fun i hi => by
    have := r1 (i : Int) (by omega)
    unfold q165
    rw [q434 h f0 ⟨by omega, by omega⟩]
    simp only [Option.bind_some]
    rw [w64_of (by omega) (by omega)])
  have k2' : q285 1048577 (fun x0 => q165 x0 b f m) = some ((k : Int), q) := k2
  rw [k2']
  simp only [Option.bind_some]
  by_cases hk : k = 1048577
  · subst hk
    refine ⟨0, 0, 9, rfl, .inr rfl, fun h => (by cases h), fun h => (by cases h), fun h => (by cases h), fun h => (by cases h), fun h => (by cases h), fun _ => .inl ?_⟩
    have := k3 (by omega)
    rw [show (((1048577 - 1 : Nat) : Int)) = 1048576 by omega] at this
    omega
  · have k4' := k4 (by omega)
    have rk := r1 (k : Int) (by omega)
    rw [decide_eq_false (show ¬ ((k : Int) > 1048576) by omega), q434 h f0 ⟨by omega, by omega⟩]
    simp only [cond_false, Option.bind_some]
    have hlow : 0 < (k : Int) → ((k : Int) - 1) - wallV b ((k : Int) - 1) + leaveV b f < m := fun hp => by
      have := k3 (by omega)
      rw [show ((k - 1 : Nat) : Int) = (k : Int) - 1 by omega] at this
      omega
    by_cases hb : f + wallV b (k : Int) - leaveV b f > 1073741824
    · rw [decide_eq_true hb]
      exact ⟨0, 0, 9, rfl, .inr rfl, fun h => (by cases h), fun h => (by cases h), fun h => (by cases h), fun h => (by cases h), fun h => (by cases h), fun _ => .inr ⟨(k : Int), by omega, by omega, by omega, hlow, by omega⟩⟩
    · rw [decide_eq_false hb]
      exact ⟨(k : Int), _, 0, rfl, .inl rfl, fun _ => ⟨by omega, by omega⟩, fun _ => rfl, fun _ => ⟨by omega, by omega⟩, fun _ => by omega, fun _ => hlow, fun h => (by cases h)⟩
theorem dead_eq {t : STables} (h : (curB t.Dead && t.Dead.Y.all (inR 0 10000)) = true) {a v : Int} (a0 : 0 ≤ a ∧ a ≤ 1048576) (v0 : 0 ≤ v ∧ v ≤ 20000) : q348 t a v = some (cAt t.Dead v, 0) ∧ 0 ≤ cAt t.Dead v ∧ cAt t.Dead v ≤ 10000 := by
  rw [Bool.and_eq_true] at h
  obtain ⟨h1, h2⟩ := h
  have hl := (curOk h1).yl
  have hx := (curOk h1).x.most
  have hb := q363 h1 v (y_in h1 h2)
  refine ⟨?_, hb⟩
  have e : q19 t.Dead.Y q278 = some (t.Dead.Y.any fun y => !inR 0 10000 y) := q88 _ (by omega) _ _ (fun y _ => rfl)
  have e2 : (t.Dead.Y.any fun y => !inR 0 10000 y) = false := by
    rw [List.any_eq_false]
    intro y hy
    rw [List.all_eq_true.1 h2 y hy]; simp
  unfold q348
  rw [q68, h1, e, e2, f_in, f_in, in_true a0.1 a0.2, in_true v0.1 v0.2, cAt_eq h1]
  rfl
def upV3 (m : Int) : Int := -((-m) / 3)
theorem q571 {t : STables} (h : (curB t.Dead && t.Dead.Y.all (inR 0 10000)) = true) {a v : Int} (a0 : 0 < a ∧ a ≤ 1048576) (v0 : 0 ≤ v ∧ v ≤ 20000) : q283 t a v = some (cAt t.Dead v + upV3 a, 0) := by
  obtain ⟨h1, h2⟩ := dead_eq h (a := a) (by omega) v0
  unfold q283 q180 upV3
  rw [h1, q406 _ _ 2 (by omega) (by omega) (by omega) (by omega) (.inr rfl)]
  simp only [Option.bind_some]
  rw [show (((0 : Int) != 0) || (a == 0)) = false by rw [Bool.or_eq_false_iff]; exact ⟨rfl, beq_eq_false_iff_ne.2 (by omega)⟩]
  simp only [cond_false]
  rw [if_neg (by decide), w64_of (by omega) (by omega)]
theorem q269 (x lo hi : Int) : q72 x lo hi = some (inR lo hi x) := rfl
theorem q398 (l : List Int) (h : l.length ≤ 9223372036854775807) (lo hi : Int) : q115 l lo hi = some (!l.all (inR lo hi)) := by
  unfold q115
  rw [q88 l h (fun x0 => q172 x0 lo hi) (fun x => !inR lo hi x) (fun y _ => rfl), Option.bind_some, List.any_eq_not_all_not]
  simp only [Bool.not_not]
theorem q494 {t : STables} (h : sparkB t = true) (ht : torB t = true) : q218 t = some true := by
  have hc := q502 ht
  unfold sparkB at h
  unfold torB at ht
  simp only [Bool.and_eq_true] at h ht
  obtain ⟨⟨⟨h1, h2⟩, h3⟩, h4⟩ := h
  obtain ⟨⟨⟨⟨_, _⟩, t3⟩, t4⟩, _⟩ := ht
  have hm := mapOk h1
  have zl := hm.zl
  have xm := hm.x.most
  have ym := hm.y.most
  have a1 := (curOk h2).x.most
  have a2 := (curOk h2).yl
  have b0 := curOk hc
  have b1 := b0.x.most
  have b2 := b0.yl
  have hf : q282 t.Efficiency.Y = some true := by
    have e : q41 t.Efficiency.Y q227 = some (descB t.Efficiency.Y) := q474 t.Efficiency.Y (by omega) (fun i hi => b0.el i (by omega))
    unfold q282
    rw [e, t4]; rfl
  have hz : q31 t.Spark.Z q162 = some (t.Spark.Z.any fun r => !r.all (inR (-1280) 3840)) := index_any _ (by omega) _ _ (fun r hr => by
    obtain ⟨k, hk, rfl⟩ := List.mem_iff_getElem.1 hr
    have rl := hm.rl k hk
    unfold q162
    rw [q398 _ (by omega)]; rfl)
  have hz2 : (t.Spark.Z.any fun r => !r.all (inR (-1280) 3840)) = false := by
    rw [List.any_eq_false]
    intro r hr
    rw [List.all_eq_true.1 h3 r hr]; simp
  unfold q218
  rw [q62, h1, q68, h2, q68, hc, hf, hz, hz2, q398 _ (by omega), q398 _ (by omega), h4, t3]
  rfl
noncomputable def dwellV (t : STables) (v k : Int) : Int := min (cAt t.Dwell v) (3 * k / 4)
theorem q500 {t : STables} (h : sparkB t = true) (ht : torB t = true) {v k : Int} (v0 : 0 ≤ v ∧ v ≤ 20000) (k0 : 4000 ≤ k ∧ k ≤ 1000000) : q276 t v k = some (dwellV t v k, 0) ∧ 500 ≤ dwellV t v k ∧ dwellV t v k ≤ 10000 := by
  have hh := h
  unfold sparkB at hh
  simp only [Bool.and_eq_true] at hh
  have hb := q363 hh.1.1.2 v (y_in hh.1.1.2 hh.2)
  unfold q276 dwellV
  rw [q494 h ht, q269, q269, in_true v0.1 v0.2, in_true k0.1 k0.2, cAt_eq hh.1.1.2]
  simp only [Option.bind_some, Bool.not_true, cond_false]
  rw [w64_of (n := 3 * k) (by omega) (by omega), Int.tdiv_eq_ediv_of_nonneg (by omega), w64_of (by omega) (by omega), minI_eq]
  exact ⟨rfl, by omega, by omega⟩
noncomputable def angV (t : STables) (s c q r : Int) : Int :=
  min (max (sAt t.Spark s c + (if q < 20 then 2 * (20 - q) else if q > 100 then -(8 * (q - 100)) else 0) - r) (-1280)) 3840
theorem q554 {t : STables} (h : sparkB t = true) (ht : torB t = true) {s c q r : Int} (s0 : 0 ≤ s ∧ s ≤ 12000) (c0 : 0 ≤ c ∧ c ≤ 1048576) (q0 : -40 ≤ q ∧ q ≤ 150) (r0 : 0 ≤ r ∧ r ≤ 1280) : q277 t s c q r = some (angV t s c q r, 0) := by
  have hh := h
  unfold sparkB at hh
  simp only [Bool.and_eq_true] at hh
  have hb := q366 hh.1.1.1 s c (z_in hh.1.1.1 (fun r hr => List.all_eq_true.1 hh.1.2 r hr))
  have e : q310 t s c = some (sAt t.Spark s c, 0) := by
    unfold q310
    rw [q494 h ht, q269, q269, in_true s0.1 s0.2, in_true c0.1 c0.2, sAt_eq hh.1.1.1]
    rfl
  unfold q277 angV
  rw [e]
  simp only [Option.bind_some]
  rw [show (((0 : Int) != 0)) = false from rfl, q269, q269, in_true q0.1 q0.2, in_true r0.1 r0.2]
  simp only [cond_false, Option.bind_some, Bool.not_true]
  generalize sAt t.Spark s c = z at hb
  by_cases h1 : q < 20
  · rw [decide_eq_true h1, if_pos h1]
    simp only [cond_true]
    rw [w64_of (n := 20 - q) (by omega) (by omega), w64_of (n := 2 * (20 - q)) (by omega) (by omega), w64_of (n := z + 2 * (20 - q)) (by omega) (by omega), w64_of (by omega) (by omega), q64, minI_eq, maxI_eq]
    rfl
  · rw [decide_eq_false h1, if_neg h1]
    simp only [cond_false]
    by_cases h2 : q > 100
    · rw [decide_eq_true h2, if_pos h2]
      simp only [cond_true]
      rw [w64_of (n := q - 100) (by omega) (by omega), w64_of (n := 8 * (q - 100)) (by omega) (by omega), w64_of (n := z - 8 * (q - 100)) (by omega) (by omega), w64_of (by omega) (by omega), q64, minI_eq, maxI_eq]
      rfl
    · rw [decide_eq_false h2, if_neg h2]
      simp only [cond_false]
      rw [w64_of (by omega) (by omega), q64, minI_eq, maxI_eq, Int.add_zero]
      rfl
theorem q473 (t : STables) (s c q r : Int) : -1280 ≤ angV t s c q r ∧ angV t s c q r ≤ 3840 := by unfold angV; omega
end Go.Pv
set_option linter.unusedSimpArgs false
namespace Go.Pv.Ar
open Go Go.Pv
theorem bsome {α : Type} (c : Bool) (x y : α) : (bif c then some x else some y) = some (bif c then x else y) := by cases c <;> rfl
def reqP (r : SRequest) : Prop := (0 ≤ r.Source ∧ r.Source ≤ 15) ∧ (0 ≤ r.Priority ∧ r.Priority ≤ 15) ∧ (-5000 ≤ r.Torque ∧ r.Torque ≤ 10000) ∧ (r.Kind = 1 ∨ (r.Source ≤ 1 ∧ (r.Kind = 2 ∨ r.Kind = 3)))
instance (r : SRequest) : Decidable (reqP r) := by unfold reqP; infer_instance
theorem q62 (r : SRequest) : q98 r = some (decide (reqP r)) := by
  unfold q98 q66
  simp only [Option.bind_some, bsome]
  rw [Option.some.injEq, Bool.eq_iff_iff, decide_eq_true_eq]
  unfold reqP
  simp only [Bool.cond_true_left, Bool.cond_false_left, Bool.cond_true_right, Bool.cond_false_right, Bool.or_eq_true, Bool.and_eq_true, Bool.not_eq_true', Bool.or_eq_false_iff, Bool.and_eq_false_iff, Bool.not_eq_false', decide_eq_true_eq, decide_eq_false_iff_not, bne_iff_ne, bne_eq_false_iff_eq, beq_iff_eq, beq_eq_false_iff_ne, ne_eq, ge_iff_le]
  omega
def torB (t : Int) : Bool := decide (t ≥ -5000) && decide (t ≤ 10000)
def rngB (low high : Int) : Bool := (!torB low || !torB high) || decide (low > high)
def badR (l : List SRequest) : Bool := l.any fun r => !decide (reqP r)
def chk (l : List SRequest) (low high : Int) : Int := bif badR l then 1 else bif decide ((l.length : Int) > 32) then 5 else bif rngB low high then 2 else 0
theorem tail_eq (low high : Int) : (Option.bind (some (torB low)) fun v2 => Option.bind (bif (!v2) then (some true) else (Option.bind (some (torB high)) fun v3 => some (!v3))) fun b2 => bif (b2 || (decide (low > high))) then (some (2 : Int)) else (some 0)) = some (bif rngB low high then 2 else 0) := by
  unfold rngB
  cases torB low <;> cases torB high <;> cases decide (low > high) <;> rfl
theorem q563 (l : List SRequest) (low high : Int) (hl : l.length ≤ 1000) : q230 l low high = some (chk l low high) := by
  unfold q230 chk
  have k := index_any l (by omega) q93 (fun r => !decide (reqP r)) (fun y _ => by unfold q93; rw [q62]; rfl)
  have k' : q39 l q93 = some (badR l) := k
  rw [k']
  simp only [Option.bind_some]
  cases badR l
  · simp only [cond_false]
    cases decide ((l.length : Int) > 32)
    · simp only [cond_false]
      exact tail_eq low high
    · rfl
  · rfl
structure Fine (l : List SRequest) (low high : Int) : Prop where
  req : ∀ r ∈ l, reqP r
  len : l.length ≤ 32
  lo : -5000 ≤ low
  hi : high ≤ 10000
  ord : low ≤ high
theorem q546 {l : List SRequest} {low high : Int} : chk l low high = 0 ↔ Fine l low high := by
  have hb : badR l = false ↔ ∀ r ∈ l, reqP r := by
    unfold badR
    rw [List.any_eq_false]
    constructor
    · intro h r hr; simpa using h r hr
    · intro h r hr; simpa using h r hr
  have hr : rngB low high = false ↔ (-5000 ≤ low ∧ low ≤ 10000 ∧ -5000 ≤ high ∧ high ≤ 10000 ∧ low ≤ high) := by
    unfold rngB torB
    simp only [Bool.or_eq_false_iff, Bool.not_eq_false', Bool.and_eq_true, decide_eq_true_eq, decide_eq_false_iff_not]
    omega
  unfold chk
  constructor
  · intro h
    cases h1 : badR l <;> rw [h1] at h
    · cases h2 : decide ((l.length : Int) > 32) <;> rw [h2] at h
      · cases h3 : rngB low high <;> rw [h3] at h
        · have h4 := hr.1 h3
          have h5 : ¬ ((l.length : Int) > 32) := of_decide_eq_false h2
          exact ⟨hb.1 h1, by omega, by omega, by omega, by omega⟩
        · cases h
      · cases h
    · cases h
  · intro h
    rw [hb.2 h.req, hr.2 (by have := h.lo; have := h.hi; have := h.ord; omega), decide_eq_false (show ¬ ((l.length : Int) > 32) by have := h.len; omega)]
    rfl
def ins (s : Sarbiter_span) (r : SRequest) : Int := maxI s.low (minI s.high r.Torque)
def nlo (s : Sarbiter_span) (r : SRequest) : Int := if r.Kind = 1 then s.low else ins s r
def nhi (s : Sarbiter_span) (r : SRequest) : Int := if r.Kind = 2 then s.high else ins s r
def stp (s : Sarbiter_span) (r : SRequest) : Sarbiter_span := ⟨nlo s r, nhi s r, if nlo s r = s.low then s.source else r.Source⟩
def chg (s : Sarbiter_span) (r : SRequest) : Bool := !(decide (nlo s r = s.low) && decide (nhi s r = s.high))
theorem q539 {s : Sarbiter_span} {r : SRequest} (h : s.low ≤ s.high) : s.low ≤ ins s r ∧ ins s r ≤ s.high := by
  unfold ins maxI minI; split <;> split <;> omega
theorem q472 {s : Sarbiter_span} {r : SRequest} (h : s.low ≤ s.high) : s.low ≤ (stp s r).low ∧ (stp s r).low ≤ (stp s r).high ∧ (stp s r).high ≤ s.high := by
  have := q539 (r := r) h
  unfold stp nlo nhi
  simp only
  split <;> split <;> omega
theorem q441 (s : Sarbiter_span) (r : SRequest) (lo hi : Int) : (Option.bind (bif (lo != s.low) then (some r.Source) else (some s.source)) fun (f3 : Int) => bif (lo != s.low) then (some (true, (⟨lo, hi, f3⟩ : Sarbiter_span))) else (some ((hi != s.high), (⟨lo, hi, f3⟩ : Sarbiter_span)))) = some (!(decide (lo = s.low) && decide (hi = s.high)), ⟨lo, hi, if lo = s.low then s.source else r.Source⟩) := by
  by_cases h1 : lo = s.low
  · rw [show (lo != s.low) = false by simpa using h1, decide_eq_true h1, if_pos h1]; rfl
  · rw [show (lo != s.low) = true by simpa using h1, decide_eq_false h1, if_neg h1]; rfl
theorem q534 (s : Sarbiter_span) (r : SRequest) (h : s.low ≤ s.high) (hk : r.Kind = 1 ∨ r.Kind = 2 ∨ r.Kind = 3) : q113 s r = some (chg s r, stp s r) := by
  have e1 : maxI s.low (minI s.high r.Torque) = ins s r := rfl
  have e2 : minI s.high (maxI s.low r.Torque) = ins s r := by
    unfold ins maxI minI; repeat' split
    all_goals omega
  have e3 : minI (maxI r.Torque s.low) s.high = ins s r := by
    unfold ins maxI minI; repeat' split
    all_goals omega
  unfold q113 q170 q156 q152 q27
  simp only [Option.bind_some]
  rw [e1, e2, e3]
  unfold stp chg nlo nhi
  rcases hk with hk | hk | hk
  · rw [hk]
    exact q441 s r s.low (ins s r)
  · rw [hk]
    exact q441 s r (ins s r) s.high
  · rw [hk]
    exact q441 s r (ins s r) (ins s r)
def lev (l : List SRequest) (j : Nat) : List SRequest := l.filter fun r => r.Priority == 15 - (j : Int)
def ordK (l : List SRequest) (k : Nat) : List SRequest := (List.range k).flatMap (lev l)
abbrev ordL (l : List SRequest) : List SRequest := ordK l 16
theorem q480 (l : List SRequest) (k : Nat) : ordK l (k + 1) = ordK l k ++ lev l k := by
  unfold ordK; rw [List.range_succ, List.flatMap_append, List.flatMap_singleton]
def DR (r : SRequest) : Prop := 0 ≤ r.Priority ∧ r.Priority ≤ 15
theorem lt_dec {x y : SRequest} (hx : DR x) (hy : DR y) : ltM q32 x y = decide (y.Priority < x.Priority) := by
  unfold DR at hx hy
  unfold ltM q32
  rw [Option.getD_some, w64_of (by omega) (by omega), decide_eq_decide]
  omega
theorem sw_dec : SW DR q32 where
  ans := fun x y _ _ => ⟨_, rfl⟩
  asym := fun x y hx hy => by rw [lt_dec hx hy, lt_dec hy hx, decide_eq_true_eq, decide_eq_false_iff_not]; omega
  ntrans := fun x y z hx hy hz => by rw [lt_dec hx hy, lt_dec hy hz, lt_dec hx hz]; simp only [decide_eq_false_iff_not]; omega
theorem eqv_dec {x y : SRequest} (hx : DR x) (hy : DR y) : eqv q32 x y = (y.Priority == x.Priority) := by
  unfold eqv
  rw [lt_dec hx hy, lt_dec hy hx, Bool.eq_iff_iff]
  simp only [Bool.and_eq_true, Bool.not_eq_true', decide_eq_false_iff_not, beq_iff_eq]
  omega
theorem q495 {l : List SRequest} {k : Nat} {r : SRequest} : r ∈ ordK l k ↔ r ∈ l ∧ ∃ j, j < k ∧ r.Priority = 15 - (j : Int) := by
  unfold ordK lev
  rw [List.mem_flatMap]
  constructor
  · rintro ⟨j, hj, h⟩
    rw [List.mem_filter] at h
    exact ⟨h.1, j, List.mem_range.1 hj, by simpa using h.2⟩
  · rintro ⟨h, j, hj, hp⟩
    exact ⟨j, List.mem_range.2 hj, List.mem_filter.2 ⟨h, by simpa using hp⟩⟩
theorem q440 {l : List SRequest} (h : AllD DR l) {r : SRequest} : r ∈ ordL l ↔ r ∈ l := by
  rw [q495]
  constructor
  · exact fun h => h.1
  · intro hr
    have := h r hr
    unfold DR at this
    exact ⟨hr, (15 - r.Priority).toNat, by omega, by omega⟩
theorem q497 {l : List SRequest} (h : AllD DR l) : ∀ k, Srt q32 (ordK l k)
  | 0 => .nil
  | k + 1 => by
    rw [q480]
    refine Srt.app (q497 h k) ?_ fun a ha b hb => ?_
    · unfold lev
      rw [Srt, List.pairwise_iff_getElem]
      intro i j hi hj _
      have m1 := List.mem_filter.1 (List.getElem_mem hi)
      have m2 := List.mem_filter.1 (List.getElem_mem hj)
      have p1 := m1.2
      simp only [beq_iff_eq] at p1
      have p2 := m2.2
      simp only [beq_iff_eq] at p2
      rw [lt_dec (h _ m2.1) (h _ m1.1), decide_eq_false_iff_not]
      omega
    · obtain ⟨ha1, j, hj, hp⟩ := q495.1 ha
      have m2 := List.mem_filter.1 hb
      have p2 := m2.2
      simp only [beq_iff_eq] at p2
      rw [lt_dec (h _ m2.1) (h _ ha1), decide_eq_false_iff_not]
      omega
theorem q423 (l : List SRequest) (p : Int) : ∀ k, (ordK l k).filter (fun r => r.Priority == p) = if 15 - (k : Int) < p ∧ p ≤ 15 then l.filter (fun r => r.Priority == p) else []
  | 0 => by
    rw [if_neg (by omega)]
    rfl
  | k + 1 => by
    rw [q480, List.filter_append, q423 l p k]
    unfold lev
    rw [List.filter_filter]
    by_cases hp : p = 15 - (k : Int)
    · rw [if_neg (by omega), if_pos (by omega), List.nil_append]
      congr 1
      funext r
      rw [← hp]
      cases r.Priority == p <;> rfl
    · have : (l.filter fun a => (a.Priority == p) && (a.Priority == 15 - (k : Int))) = [] := by
        rw [List.filter_eq_nil_iff]
        intro r _ h
        simp only [Bool.and_eq_true, beq_iff_eq] at h
        omega
      rw [this, List.append_nil]
      by_cases h2 : 15 - (k : Int) < p ∧ p ≤ 15
      · rw [if_pos h2, if_pos (by omega)]
      · rw [if_neg h2, if_neg (by omega)]
theorem q365 {l r : List SRequest} (h : AllD DR l) (hs : Srt q32 r) (ht : Sta DR q32 l r) : r = ordL l := by
  refine srt_uniq sw_dec (ht.all h) (fun x hx => h x ((q440 h).1 hx)) hs (q497 h 16) fun x hx => ?_
  rw [ht.same x hx]
  have e : ∀ m : List SRequest, AllD DR m → m.filter (eqv q32 x) = m.filter (fun r => r.Priority == x.Priority) := fun m hm => List.filter_congr fun y hy => eqv_dec hx (hm y hy)
  rw [e l h, e (ordL l) (fun y hy => h y ((q440 h).1 hy)), q423]
  unfold DR at hx
  rw [if_pos (by omega)]
theorem sm_same : q43 = g_symMergeCmpFunc_s := by kernel_rfl
theorem q438 : ∀ fu, q20 fu = g_symMergeCmpFunc fu
  | 0 => rfl
  | fu + 1 => by
    show q43 (q20 fu) = g_symMergeCmpFunc_s (g_symMergeCmpFunc fu)
    rw [q438 fu, sm_same]
theorem q545 (n : Int) (g : SRequest → SRequest → Option Int) (s3 : Int × List SRequest) : q71 n g s3 = g_stableCmpFunc_b3 n g s3 := by
  funext t
  unfold q71 g_stableCmpFunc_b3
  rw [q438]
theorem q547 : q70 = g_stableCmpFunc_b2 := by
  funext n g t
  unfold q70
  simp only [q438, q545]
  kernel_rfl
theorem q542 : q52 = g_stableCmpFunc := by
  funext d n g
  unfold q52
  rw [q547]
  kernel_rfl
theorem st_same (l : List SRequest) (g : SRequest → SRequest → Option Int) : q47 l g = g_SortStableFunc l g := by
  unfold q47 g_SortStableFunc
  rw [q542]
def dec (s : Sarbiter_span) : List SRequest → List Int
  | [] => []
  | r :: l => (bif chg s r then [r.Source] else []) ++ dec (stp s r) l
theorem dec_len (s : Sarbiter_span) : ∀ l : List SRequest, (dec s l).length ≤ l.length
  | [] => Nat.le_refl _
  | r :: l => by
    have := dec_len (stp s r) l
    unfold dec
    cases chg s r
    · simp only [cond_false, List.nil_append, List.length_cons]; omega
    · simp only [cond_true, List.length_append, List.length_cons, List.length_nil]; omega
theorem dloop : ∀ (q : List SRequest) (i : Int) (acc : List Int) (s : Sarbiter_span), s.low ≤ s.high → (∀ r ∈ q, r.Kind = 1 ∨ r.Kind = 2 ∨ r.Kind = 3) → acc.length + q.length ≤ 10000 →
    stepsL q139 q i (acc, s) = some (.inl (acc ++ dec s q, q.foldl stp s))
  | [], i, acc, s, _, _, _ => by simp [stepsL, dec]
  | r :: q, i, acc, s, hs, hk, hl => by
    simp only [List.length_cons] at hl
    have hr := q472 (r := r) hs
    have hb : q139 i r (acc, s) = some (.next (acc ++ (bif chg s r then [r.Source] else []), stp s r)) := by
      unfold q139
      simp only
      rw [q534 s r hs (hk r (by simp))]
      simp only [Option.bind_some]
      cases chg s r
      · simp
      · simp only [cond_true]
        rw [appendM_ok _ _ (by simp only [List.length_singleton]; omega)]
        rfl
    simp only [stepsL, hb, Option.bind_some]
    rw [dloop q (i + 1) _ (stp s r) (by omega) (fun x hx => hk x (by simp [hx])) (by rw [List.length_append]; cases chg s r <;> simp <;> omega)]
    simp only [dec, List.foldl_cons, List.append_assoc]
def s0 (low high : Int) : Sarbiter_span := ⟨low, high, -1⟩
def fin (l : List SRequest) (low high : Int) : Sarbiter_span := (ordL l).foldl stp (s0 low high)
def srcs (l : List SRequest) (low high : Int) : List Int := compL ((dec (s0 low high) (ordL l)).mergeSort fun x y => decide (x ≤ y))
theorem Fine.dr {l : List SRequest} {low high : Int} (h : Fine l low high) : AllD DR l := fun r hr => by
  have := h.req r hr
  unfold reqP at this
  unfold DR; omega
theorem Fine.kinds {l : List SRequest} {low high : Int} (h : Fine l low high) : ∀ r ∈ l, r.Kind = 1 ∨ r.Kind = 2 ∨ r.Kind = 3 := fun r hr => by
  have := h.req r hr
  unfold reqP at this
  omega
theorem q562 {l : List SRequest} {low high : Int} (h : Fine l low high) : (ordL l).length = l.length := by
  obtain ⟨r, h1, h2, h3⟩ := stable_eq sw_dec l h.dr (by have := h.len; omega)
  rw [← q365 h.dr h2 h3, h3.len]
theorem q528 {l : List SRequest} {low high : Int} (h : Fine l low high) : (ordL l).Perm l := by
  obtain ⟨r, h1, h2, h3⟩ := stable_eq sw_dec l h.dr (by have := h.len; omega)
  rw [← q365 h.dr h2 h3]
  exact h3.perm
theorem q538 {l : List SRequest} {low high : Int} (h : Fine l low high) : q193 l low high = some (fin l low high, srcs l low high) := by
  unfold q193 q149
  have hl := h.len
  rw [appendM_ok _ _ (by simp only [List.length_nil]; omega)]
  simp only [Option.bind_some, List.nil_append]
  rw [st_same]
  obtain ⟨r, h1, h2, h3⟩ := stable_eq sw_dec l h.dr (by omega)
  rw [h1, q365 h.dr h2 h3]
  simp only [Option.bind_some]
  have hlen := q562 h
  rw [rangeM_steps _ (by omega), dloop (ordL l) 0 [] ⟨low, high, -1⟩ h.ord (fun x hx => h.kinds x ((q440 h.dr).1 hx)) (by simp only [List.length_nil]; omega)]
  simp only [Option.bind_some, List.nil_append]
  unfold q233 q167
  have hd := dec_len (s0 low high) (ordL l)
  rw [sortIM_ok (show (dec (⟨low, high, -1⟩ : Sarbiter_span) (ordL l)).length < 4611686018427387904 by unfold s0 at hd; omega)]
  simp only [Option.bind_some]
  rw [compactM_ok (by rw [List.length_mergeSort]; unfold s0 at hd; omega)]
  rfl
theorem q447 : ∀ (q : List SRequest) (s : Sarbiter_span), s.low ≤ s.high → s.low ≤ (q.foldl stp s).low ∧ (q.foldl stp s).low ≤ (q.foldl stp s).high ∧ (q.foldl stp s).high ≤ s.high
  | [], s, h => ⟨Int.le_refl _, h, Int.le_refl _⟩
  | r :: q, s, h => by
    have h1 := q472 (r := r) h
    have h2 := q447 q (stp s r) (by omega)
    rw [List.foldl_cons]
    omega
theorem q471 {l : List SRequest} {low high : Int} (h : low ≤ high) : low ≤ (fin l low high).low ∧ (fin l low high).low ≤ (fin l low high).high ∧ (fin l low high).high ≤ high := q447 (ordL l) (s0 low high) h
end Go.Pv.Ar
set_option linter.unusedSimpArgs false
namespace Go.Pv
open Go
theorem q572 (r : SRequest) : reqB r = decide (Ar.reqP r) := Option.some.inj ((req_eq r).symm.trans (Ar.q62 r))
noncomputable def grantV (g : SGrant) (l : List SRequest) : SGrant :=
  ⟨max (min (min (max (Ar.fin l (-5000) 10000).low (g.Torque - 1000)) (g.Torque + 300)) (Ar.fin l (-5000) 10000).high) (-5000), (Ar.fin l (-5000) 10000).source⟩
def granted (g : SGrant) : Prop := (-5000 ≤ g.Torque ∧ g.Torque ≤ 10000) ∧ (-1 ≤ g.Source ∧ g.Source ≤ 15)
theorem q426 : ∀ (q : List SRequest) (s : Sarbiter_span), (∀ r ∈ q, 0 ≤ r.Source ∧ r.Source ≤ 15) → (-1 ≤ s.source ∧ s.source ≤ 15) → -1 ≤ (q.foldl Ar.stp s).source ∧ (q.foldl Ar.stp s).source ≤ 15
  | [], _, _, h => h
  | r :: q, s, hq, h => by
    rw [List.foldl_cons]
    refine q426 q _ (fun x hx => hq x (List.mem_cons_of_mem _ hx)) ?_
    have := hq r (List.mem_cons_self ..)
    unfold Ar.stp
    simp only
    split <;> omega
theorem q544 {l : List SRequest} (h : Ar.Fine l (-5000) 10000) (g : SGrant) : granted (grantV g l) := by
  have r := Ar.q471 (l := l) (low := -5000) (high := 10000) (by omega)
  have s := q426 (Ar.ordL l) (Ar.s0 (-5000) 10000) (fun x hx => by
    have := h.req x ((Ar.q528 h).mem_iff.1 hx)
    exact this.1) (by show -1 ≤ (-1 : Int) ∧ (-1 : Int) ≤ 15; omega)
  unfold granted grantV
  unfold Ar.fin at r s ⊢
  simp only
  exact ⟨by omega, s⟩
theorem q561 {g : SGrant} {l : List SRequest} (hg : granted g) (h : Ar.Fine l (-5000) 10000) : q143 g l (-5000) 10000 300 1000 = some (grantV g l, 0) := by
  have r := Ar.q471 (l := l) (low := -5000) (high := 10000) (by omega)
  have hl := h.len
  unfold granted at hg
  unfold q143
  rw [show q66 g.Torque = some (inR (-5000) 10000 g.Torque) from rfl, in_true hg.1.1 hg.1.2]
  simp only [Option.bind_some]
  rw [show ((!true || decide (g.Source < -1)) || decide (g.Source > 15)) = false by simp only [Bool.not_true, Bool.false_or, Bool.or_eq_false_iff, decide_eq_false_iff_not]; omega, Ar.q563 _ _ _ (by omega), Ar.q546.2 h]
  simp only [cond_false, Option.bind_some]
  rw [show (((0 : Int) != 0)) = false from rfl, show (((decide ((300 : Int) < 0) || decide ((300 : Int) > 20000)) || decide ((1000 : Int) < 0)) || decide ((1000 : Int) > 20000)) = false from rfl, Ar.q538 h]
  simp only [cond_false, Option.bind_some]
  rw [w64_of (n := g.Torque - 1000) (by omega) (by omega), w64_of (n := g.Torque + 300) (by omega) (by omega)]
  simp only [minI_eq, maxI_eq]
  rfl
structure TabC (t : STables) : Prop where
  air : airB t = true
  spark : sparkB t = true
  tor : torB t = true
  dead : (curB t.Dead && t.Dead.Y.all (inR 0 10000)) = true
  wish : mapB t.Wish = true
  idle : gainB t.Idle = true
structure Giv (t : STables) (e : SEngine) (b : SBody) (c : SControls) (i : SInputs) : Prop where
  t : ctlB t = true
  b : bodyB b = true
  c : goodB e c = true
  i : askB i (e.Order.length : Int) = true
theorem tabOk {t : STables} (h : ctlB t = true) : TabC t := by
  unfold ctlB at h
  have h' := h
  simp only [Bool.and_eq_true] at h'
  exact ⟨h'.1.1.1.1.1, h'.1.1.1.1.2, h'.1.1.1.2, by rw [Bool.and_eq_true]; exact h'.1.1.2, h'.1.2, h'.2⟩
structure GoodC (e : SEngine) (c : SControls) : Prop where
  eng : Ev.engP e
  ped : pedB c.Pedal = true
  mix : mixB c.Probe = true
  num : c.Knock.length = e.Order.length
  kno : c.Knock.all knB = true
  sum : sumOk c.Idle
  film : 0 ≤ c.Film ∧ c.Film ≤ 1073741824
  gra : granted c.Grant
theorem goodOk {e : SEngine} {c : SControls} : goodB e c = true ↔ GoodC e c := by
  unfold goodB
  simp only [Bool.and_eq_true, decide_eq_true_eq, inR_iff]
  exact ⟨fun ⟨⟨⟨⟨⟨⟨⟨⟨a, b⟩, d⟩, f⟩, g⟩, h⟩, i⟩, j⟩, k⟩ => ⟨a, b, d, f, g, h, i, j, k⟩, fun ⟨a, b, d, f, g, h, i, j, k⟩ => ⟨⟨⟨⟨⟨⟨⟨⟨a, b⟩, d⟩, f⟩, g⟩, h⟩, i⟩, j⟩, k⟩⟩
structure AskC (i : SInputs) (n : Nat) : Prop where
  num : 1 ≤ n ∧ n ≤ 8
  len : i.Intensity.length = n
  few : i.Requests.length ≤ 30
  spd : 0 ≤ i.Speed ∧ i.Speed ≤ 12000
  pre : 50 ≤ i.Pressure ∧ i.Pressure ≤ 3000
  air : -40 ≤ i.AirTemp ∧ i.AirTemp ≤ 150
  coo : -40 ≤ i.Coolant ∧ i.Coolant ≤ 150
  vol : 0 ≤ i.Voltage ∧ i.Voltage ≤ 20000
  lam : 0 ≤ i.Lambda ∧ i.Lambda ≤ 20000
  int : i.Intensity.all (inR 0 4095) = true
  req : i.Requests.all reqB = true
theorem askOk {i : SInputs} {n : Nat} : askB i (n : Int) = true ↔ AskC i n := by
  unfold askB
  simp only [Bool.and_eq_true, decide_eq_true_eq, inR_iff]
  exact ⟨fun ⟨⟨⟨⟨⟨⟨⟨⟨⟨⟨a, b⟩, c⟩, d⟩, e⟩, f⟩, g⟩, h⟩, i⟩, j⟩, k⟩ => ⟨by omega, by omega, c, d, e, f, g, h, i, j, k⟩, fun ⟨a, b, c, d, e, f, g, h, i, j, k⟩ => ⟨⟨⟨⟨⟨⟨⟨⟨⟨⟨by omega, by omega⟩, c⟩, d⟩, e⟩, f⟩, g⟩, h⟩, i⟩, j⟩, k⟩⟩
noncomputable def idlR (s : SIntegral) (g : SGain) (c v : Int) : SIntegral × Int × Int := (q189 s g (tgtV c) v).getD (⟨0⟩, 0, 0)
theorem idlR_eq {s : SIntegral} {g : SGain} (hg : gainB g = true) (hs : sumOk s) {c v : Int} (c0 : -40 ≤ c ∧ c ≤ 150) (v0 : 0 ≤ v ∧ v ≤ 12000) : q189 s g (tgtV c) v = some ((idlR s g c v).1, (idlR s g c v).2.1, 0) ∧ sumOk (idlR s g c v).1 := by
  obtain ⟨s', u, h1, h2⟩ := q558 hg hs c0 v0
  unfold idlR
  rw [h1]
  exact ⟨rfl, h2⟩
section
variable (t : STables) (e : SEngine) (b : SBody) (c : SControls) (i : SInputs)
def pdV : SPedal := pedV c.Pedal i.Pedal1 i.Pedal2
noncomputable def wsV : Int := wishV t (pdV c i).Value i.Speed
def acV : Bool := actV (pdV c i).Value i.Speed i.Coolant
noncomputable def idV : SIntegral := bif acV c i then (idlR c.Idle t.Idle i.Coolant i.Speed).1 else ⟨0⟩
noncomputable def rqV : List SRequest := ⟨0, 3, wsV t c i, 0⟩ :: ((bif acV c i then [⟨1, 2, min (max (idlR c.Idle t.Idle i.Coolant i.Speed).2.1 (-5000)) 10000, 1⟩] else []) ++ i.Requests)
noncomputable def grV : SGrant := grantV c.Grant (rqV t c i)
noncomputable def wtV : Int := max 0 (grV t c i).Torque
noncomputable def thV (w : Int) : Int :=
  let r2 := (q161 t i.Speed w).getD (0, 0)
  let r3 := (q186 t i.Speed (max 0 (bif r2.2 != 0 then 1048576 else r2.1)) i.AirTemp).getD (0, 0)
  let p := min 1012 (bif r3.2 != 0 then 3000 else r3.1)
  let r5 := (q190 b (flowV i.Speed p) p).getD (0, 0)
  bif r5.2 != 0 then 1000 else r5.1
noncomputable def cgV : Int := chV t i.Speed i.Pressure i.AirTemp
noncomputable def shV (w n : Int) : Int × Int × Int := (q112 t i.Speed (cgV t i) w n).getD (0, 0, 0)
noncomputable def msV : Int := min 1048576 ((cgV t i * 10000 / 147000) * facV (mxV c.Probe i.Lambda) i.Speed (cgV t i) / 1000)
noncomputable def waV : Int × Int × Int := (q240 b c.Film (msV t c i)).getD (0, 0, 0)
noncomputable def inV (f : Int) : Int × Int := bif (f == 0) || ((waV t b c i).2.2 != 0) then (0, c.Film - leaveV b c.Film) else ((waV t b c i).1, (waV t b c i).2.1)
noncomputable def tmV (j : Int) : Int := bif decide (j > 0) then min (max (cAt t.Dead i.Voltage + upV3 j) 200) 20000 else 0
def tkV : Int := min (max (60000000 / max 1 i.Speed) 4000) 1000000
noncomputable def fiV (n : Nat) (f l tm : Int) (k : Nat) : SFire :=
  ⟨(k : Int) + 1, max (-1280) (angV t i.Speed (cgV t i) i.Coolant ((ksV c.Knock i.Intensity).getD k ⟨0, 0, 0⟩).Retard - l), max 500 (dwellV t i.Voltage (tkV i)), 5760, bif patB n f (k : Int) then tm else 0, 0, 0⟩
end
structure StepOk (t : STables) (e : SEngine) (b : SBody) (c : SControls) (i : SInputs) (f l : Int) : Prop where
  sh : shV t i (wtV t c i) (e.Order.length : Int) = (f, l, 0)
  ok : ShOk t (optV t i.Speed (cgV t i)) (wtV t c i) (e.Order.length : Int) f l
noncomputable def nxC (t : STables) (b : SBody) (c : SControls) (i : SInputs) (f : Int) : SControls := ⟨pdV c i, idV t c i, ksV c.Knock i.Intensity, mxV c.Probe i.Lambda, (inV t b c i f).2, grV t c i⟩
noncomputable def outC (t : STables) (e : SEngine) (b : SBody) (c : SControls) (i : SInputs) (f l : Int) : SOutputs := ⟨thV t b i (wtV t c i), (List.range e.Order.length).map (fiV t c i e.Order.length f l (tmV t i (inV t b c i f).1)), torV t (optV t i.Speed (cgV t i)) l f (e.Order.length : Int)⟩
theorem req0 (w : Int) (h : -5000 ≤ w ∧ w ≤ 10000) : Ar.reqP ⟨0, 3, w, 0⟩ :=
  ⟨⟨(by decide : (0 : Int) ≤ 0), (by decide : (0 : Int) ≤ 15)⟩, ⟨(by decide : (0 : Int) ≤ 0), (by decide : (0 : Int) ≤ 15)⟩, h, .inr ⟨(by decide : (0 : Int) ≤ 1), .inr rfl⟩⟩
theorem req1 (w : Int) (h : -5000 ≤ w ∧ w ≤ 10000) : Ar.reqP ⟨1, 2, w, 1⟩ :=
  ⟨⟨(by decide : (0 : Int) ≤ 1), (by decide : (1 : Int) ≤ 15)⟩, ⟨(by decide : (0 : Int) ≤ 1), (by decide : (1 : Int) ≤ 15)⟩, h, .inr ⟨(by decide : (1 : Int) ≤ 1), .inl rfl⟩⟩
theorem q476 {t : STables} {c : SControls} {i : SInputs} {n : Nat} (hi : AskC i n) : Ar.Fine (rqV t c i) (-5000) 10000 := by
  have hw := q519 t (pdV c i).Value i.Speed
  have hr := hi.few
  refine ⟨fun r h => ?_, ?_, by omega, by omega, by omega⟩
  · unfold rqV at h
    rcases List.mem_cons.1 h with rfl | h
    · exact req0 _ hw
    · rcases List.mem_append.1 h with h | h
      · cases ha : acV c i
        · rw [ha] at h; simp at h
        · rw [ha] at h
          simp only [cond_true, List.mem_cons, List.not_mem_nil, or_false] at h
          subst h
          exact req1 _ ⟨by omega, by omega⟩
      · have := List.all_eq_true.1 hi.req r h
        rw [q572, decide_eq_true_eq] at this
        exact this
  · unfold rqV
    rw [List.length_cons, List.length_append]
    cases acV c i <;> simp <;> omega
theorem q38 (s : Scontrol_step) (h : s.fail = 0) : q18 s 0 = some s := by
  unfold q18
  rw [h]
  simp only [beq_self_eq_true, cond_true]
  cases s
  simp only at h
  subst h
  rfl
theorem q537 {t : STables} {e : SEngine} {b : SBody} {c : SControls} {i : SInputs} {n : Nat} (ht : TabC t) (hc : GoodC e c) (hi : AskC i n) :
    q114 ⟨t, e, b, c, i, 0, 0, 0, 0, [], 0, ⟨0, [], 0⟩, 0⟩ = some ⟨t, e, b, ⟨pdV c i, idV t c i, c.Knock, c.Probe, c.Film, grV t c i⟩, i, wtV t c i, 0, 0, 0, [], 0, ⟨0, [], 0⟩, 0⟩ := by
  obtain ⟨p1, p2⟩ := q458 hc.ped i.Pedal1 i.Pedal2
  have p3 := (pedOk.1 p2).v
  have hw := wish_eq ht.wish (v := (pedV c.Pedal i.Pedal1 i.Pedal2).Value) p3 hi.spd
  have ha := act_eq (v := (pedV c.Pedal i.Pedal1 i.Pedal2).Value) (s := i.Speed) hi.coo
  obtain ⟨d1, d2⟩ := idlR_eq ht.idle hc.sum hi.coo hi.spd
  have hf := q476 (t := t) (c := c) hi
  have hst := q561 hc.gra hf
  have hrl := hi.few
  unfold q114
  simp only
  rw [p1]
  simp only [Option.bind_some]
  rw [q38 _ rfl]
  simp only [Option.bind_some]
  rw [hw]
  simp only [Option.bind_some]
  rw [q38 _ rfl]
  simp only [Option.bind_some]
  rw [ha, (tgt_eq hi.coo).1]
  simp only [Option.bind_some]
  unfold grV wtV grV
  unfold idV rqV acV wsV pdV at *
  cases hac : actV (pedV c.Pedal i.Pedal1 i.Pedal2).Value i.Speed i.Coolant
  · rw [hac] at hst
    simp only [cond_false, Option.bind_some, List.nil_append] at hst ⊢
    rw [appendM_ok _ _ (by simp only [List.length_cons, List.length_nil]; omega)]
    simp only [Option.bind_some, List.cons_append, List.nil_append]
    show Option.bind (Option.bind (q143 c.Grant _ _ _ _ _) _) _ = _
    rw [hst]
    simp only [Option.bind_some]
    rw [q38 _ rfl]
    simp only [Option.bind_some, maxI_eq]
  · rw [hac] at hst
    simp only [cond_true, Option.bind_some, List.cons_append, List.nil_append] at hst ⊢
    show Option.bind (Option.bind (Option.bind (q189 c.Idle t.Idle (tgtV i.Coolant) i.Speed) _) _) _ = _
    rw [d1]
    simp only [Option.bind_some]
    rw [q38 _ rfl]
    simp only [Option.bind_some, q64, minI_eq, maxI_eq]
    rw [appendM_ok _ _ (by simp only [List.length_cons, List.length_nil]; omega)]
    simp only [Option.bind_some]
    rw [appendM_ok _ _ (by simp only [List.length_append, List.length_cons, List.length_nil]; omega)]
    simp only [Option.bind_some, List.cons_append, List.nil_append]
    show Option.bind (Option.bind (q143 c.Grant _ _ _ _ _) _) _ = _
    rw [hst]
    simp only [Option.bind_some]
    rw [q38 _ rfl]
    simp only [Option.bind_some, maxI_eq]
theorem or_eq (x e o : Int) : q194 x e o = some (bif e != 0 then o else x) := by unfold q194; cases e != 0 <;> rfl
theorem q424 {t : STables} {b : SBody} {i : SInputs} {n : Nat} (ht : TabC t) (hb : bodyB b = true) (hi : AskC i n) (e : SEngine) (c : SControls) (w : Int) :
    q92 ⟨t, e, b, c, i, w, 0, 0, 0, [], 0, ⟨0, [], 0⟩, 0⟩ = some ⟨t, e, b, c, i, w, 0, 0, 0, [], 0, ⟨thV t b i w, [], 0⟩, 0⟩ ∧ 0 ≤ thV t b i w ∧ thV t b i w ≤ 1000 := by
  obtain ⟨c2, e2, h2, _, _, _⟩ := q541 ht.tor (w := w) hi.spd
  unfold q92 thV
  simp only
  rw [h2]
  simp only [Option.bind_some, or_eq, Option.getD_some, maxI_eq]
  generalize max 0 (bif e2 != 0 then (1048576 : Int) else c2) = x
  obtain ⟨p, e3, h3, k3⟩ := q509 ht.air (w := x) hi.spd hi.air
  rw [h3]
  simp only [Option.bind_some, or_eq, Option.getD_some, minI_eq]
  have hp : 50 ≤ (min 1012 (bif e3 != 0 then (3000 : Int) else p)) ∧ (min 1012 (bif e3 != 0 then (3000 : Int) else p)) ≤ 1012 := by
    cases he : e3 != 0
    · have h0 : e3 = 0 := by simpa using he
      have := k3.fit h0
      simp only [cond_false]; omega
    · simp only [cond_true]; omega
  generalize min 1012 (bif e3 != 0 then (3000 : Int) else p) = q at hp
  obtain ⟨f1, f2, f3⟩ := flow_eq (s := i.Speed) (p := q) hi.spd (by omega)
  rw [f1]
  simp only [Option.bind_some]
  rw [q38 _ rfl]
  simp only [Option.bind_some]
  obtain ⟨y, e5, h5, k5⟩ := q510 hb (f := flowV i.Speed q) (p := q) (by omega) (by omega)
  rw [h5]
  simp only [Option.bind_some, Option.getD_some]
  refine ⟨trivial, ?_⟩
  cases he : e5 != 0
  · have h0 : e5 = 0 := by simpa using he
    have := k5.fit h0
    simp only [cond_false]; omega
  · simp only [cond_true]; omega
theorem q151 {t : STables} (ht : TabC t) (i : SInputs) : 0 ≤ cgV t i ∧ cgV t i ≤ 1048576 := (ch_eq ht.air i.Speed i.Pressure i.AirTemp).2
theorem sh_ok {t : STables} {i : SInputs} {n : Nat} (ht : TabC t) (hi : AskC i n) {w : Int} (hw : 0 ≤ w) : ∃ f l, shV t i w (n : Int) = (f, l, 0) ∧ q112 t i.Speed (cgV t i) w (n : Int) = some (f, l, 0) ∧ ShOk t (optV t i.Speed (cgV t i)) w (n : Int) f l := by
  have hn := hi.num
  obtain ⟨f, l, h1, h2⟩ := q559 ht.tor hi.spd (q151 ht i) hw (n := (n : Int)) (by omega)
  exact ⟨f, l, by unfold shV; rw [h1]; rfl, h1, h2⟩
theorem q551 {t : STables} {i : SInputs} {e : SEngine} (ht : TabC t) (hi : AskC i e.Order.length) {w f l : Int} (h : q112 t i.Speed (cgV t i) w (e.Order.length : Int) = some (f, l, 0)) (k : ShOk t (optV t i.Speed (cgV t i)) w (e.Order.length : Int) f l) (b : SBody) (c : SControls) (th : Int) :
    q129 ⟨t, e, b, c, i, w, 0, 0, 0, [], 0, ⟨th, [], 0⟩, 0⟩ =
      some ⟨t, e, b, c, i, w, cgV t i, f, l, (List.range e.Order.length).map (fun j : Nat => patB (e.Order.length : Int) f (j : Int)), 0, ⟨th, [], torV t (optV t i.Speed (cgV t i)) l f (e.Order.length : Int)⟩, 0⟩ := by
  have hn := hi.num
  have k1 := k.f0; have k2 := k.f1; have k3 := k.l0; have k4 := k.l1
  unfold q129
  simp only
  rw [q504 ht.air hi.spd hi.pre hi.air]
  simp only [Option.bind_some]
  rw [q38 _ rfl]
  simp only [Option.bind_some]
  rw [show chV t i.Speed i.Pressure i.AirTemp = cgV t i from rfl, h]
  simp only [Option.bind_some]
  rw [q38 _ rfl]
  simp only [Option.bind_some]
  rw [q514 hn ⟨k1, k2⟩]
  simp only [Option.bind_some]
  rw [q38 _ rfl]
  simp only [Option.bind_some]
  rw [q526 ht.tor hi.spd (q151 ht i) ⟨k3, k4⟩ ⟨k1, k2⟩ (by omega)]
  simp only [Option.bind_some]
  rw [q38 _ rfl]
  simp only [Option.bind_some]
theorem q507 {t : STables} {c : SControls} {i : SInputs} (ht : TabC t) : (0 ≤ cgV t i * 10000 / 147000 ∧ cgV t i * 10000 / 147000 ≤ 80000) ∧ (0 ≤ (cgV t i * 10000 / 147000) * facV (mxV c.Probe i.Lambda) i.Speed (cgV t i) ∧ (cgV t i * 10000 / 147000) * facV (mxV c.Probe i.Lambda) i.Speed (cgV t i) ≤ 80000 * 1300) ∧ 0 ≤ msV t c i ∧ msV t c i ≤ 1048576 := by
  have h1 := q151 ht i
  have h2 := q532 (mxV c.Probe i.Lambda) i.Speed (cgV t i)
  have h3 : 0 ≤ cgV t i * 10000 / 147000 ∧ cgV t i * 10000 / 147000 ≤ 80000 := by omega
  have h4 := prod_le h3.1 h3.2 (show 0 ≤ facV (mxV c.Probe i.Lambda) i.Speed (cgV t i) by omega) h2.2
  refine ⟨h3, h4, ?_⟩
  unfold msV
  omega
theorem want_ok {t : STables} {b : SBody} {e : SEngine} {c : SControls} {i : SInputs} (ht : TabC t) (hb : bodyB b = true) (hc : GoodC e c) : q240 b c.Film (msV t c i) = some (waV t b c i) ∧ WantOk b c.Film (msV t c i) (waV t b c i).1 (waV t b c i).2.1 (waV t b c i).2.2 := by
  obtain ⟨j, x, e1, h1, h2⟩ := q560 hb hc.film (q507 (c := c) (i := i) ht).2.2
  unfold waV
  rw [h1]
  exact ⟨rfl, h2⟩
theorem q427 {t : STables} {b : SBody} {e : SEngine} {c : SControls} {i : SInputs} (ht : TabC t) (hb : bodyB b = true) (hc : GoodC e c) (f : Int) : (0 ≤ (inV t b c i f).1 ∧ (inV t b c i f).1 ≤ 1048576) ∧ (0 ≤ (inV t b c i f).2 ∧ (inV t b c i f).2 ≤ 1073741824) := by
  obtain ⟨_, k⟩ := want_ok (i := i) ht hb hc
  have hl := q274 hb hc.film.1
  have hf := hc.film
  unfold inV
  cases hz : (f == 0) || ((waV t b c i).2.2 != 0)
  · rw [Bool.or_eq_false_iff] at hz
    have h0 : (waV t b c i).2.2 = 0 := by simpa using hz.2
    exact ⟨k.inj h0, k.ran h0⟩
  · simp only [cond_true]; omega
theorem st_fuel {t : STables} {b : SBody} {e : SEngine} {c : SControls} {i : SInputs} {n : Nat} (ht : TabC t) (hb : bodyB b = true) (hc : GoodC e c) (hi : AskC i n) (pd : SPedal) (id : SIntegral) (gr : SGrant) (w f l : Int) (pt : List Bool) (o : SOutputs) :
    q137 ⟨t, e, b, ⟨pd, id, c.Knock, c.Probe, c.Film, gr⟩, i, w, cgV t i, f, l, pt, 0, o, 0⟩ =
      some ⟨t, e, b, ⟨pd, id, c.Knock, mxV c.Probe i.Lambda, (inV t b c i f).2, gr⟩, i, w, cgV t i, f, l, pt, tmV t i (inV t b c i f).1, o, 0⟩ := by
  obtain ⟨x1, x2⟩ := q475 hc.mix hi.lam hi.spd (q151 ht i)
  have hf := fac_eq x2 hi.spd (q151 ht i)
  obtain ⟨m1, m2, m3⟩ := q507 (c := c) (i := i) ht
  obtain ⟨w1, w2⟩ := want_ok (i := i) ht hb hc
  have hr := (q427 (i := i) ht hb hc f).1
  have hm : minI 1048576 (w64 (Int.tdiv (w64 ((cgV t i * 10000 / 147000) * facV (mxV c.Probe i.Lambda) i.Speed (cgV t i))) 1000)) = msV t c i := by
    unfold msV
    rw [w64_of (n := (cgV t i * 10000 / 147000) * facV (mxV c.Probe i.Lambda) i.Speed (cgV t i)) (by omega) (by omega), Int.tdiv_eq_ediv_of_nonneg m2.1, w64_of (by omega) (by omega), minI_eq]
  unfold q137
  simp only
  rw [x1]
  simp only [Option.bind_some]
  rw [q38 _ rfl]
  simp only [Option.bind_some]
  rw [hf]
  simp only [Option.bind_some]
  rw [q38 _ rfl]
  simp only [Option.bind_some]
  rw [q567 (q151 ht i)]
  simp only [Option.bind_some]
  rw [q38 _ rfl]
  simp only [Option.bind_some]
  rw [hm, w1]
  simp only [Option.bind_some]
  have hin : ∀ s : Scontrol_step, s.b = b → s.c.Film = c.Film → s.fail = 0 → (bif ((f == 0) || ((waV t b c i).2.2 != 0)) then (Option.bind (q287 b c.Film 0) fun r6 => Option.bind (q18 s r6.2.2) fun v4 => some (0, r6.2.1, v4)) else (some ((waV t b c i).1, (waV t b c i).2.1, s))) = some ((inV t b c i f).1, (inV t b c i f).2, s) := by
    intro s _ _ hs
    unfold inV
    cases (f == 0) || ((waV t b c i).2.2 != 0)
    · rfl
    · simp only [cond_true]
      rw [q570 hb hc.film]
      simp only [Option.bind_some]
      rw [q38 _ hs]
      rfl
  rw [hin _ rfl rfl rfl]
  simp only [Option.bind_some]
  unfold tmV
  cases hj : decide ((inV t b c i f).1 > 0)
  · rfl
  · have hj' := of_decide_eq_true hj
    simp only [cond_true]
    show Option.bind (q283 t (inV t b c i f).1 i.Voltage) _ = _
    rw [q571 ht.dead ⟨hj', hr.2⟩ hi.vol]
    simp only [Option.bind_some]
    rw [q38 _ rfl]
    simp only [Option.bind_some, q64, minI_eq, maxI_eq]
theorem q557 {t : STables} {e : SEngine} {c : SControls} {i : SInputs} (ht : TabC t) (hc : GoodC e c) (hi : AskC i e.Order.length) (b : SBody) (pd : SPedal) (id : SIntegral) (pb : SProbe) (fm : Int) (gr : SGrant) (w f l tm th to_ : Int) (hl : 0 ≤ l ∧ l ≤ 2560) :
    q120 ⟨t, e, b, ⟨pd, id, c.Knock, pb, fm, gr⟩, i, w, cgV t i, f, l, (List.range e.Order.length).map (fun j : Nat => patB (e.Order.length : Int) f (j : Int)), tm, ⟨th, [], to_⟩, 0⟩ =
      some ⟨t, e, b, ⟨pd, id, ksV c.Knock i.Intensity, pb, fm, gr⟩, i, w, cgV t i, f, l, (List.range e.Order.length).map (fun j : Nat => patB (e.Order.length : Int) f (j : Int)), tm, ⟨th, (List.range e.Order.length).map (fiV t c i e.Order.length f l tm), to_⟩, 0⟩ := by
  have hn := hi.num
  have hs := hi.spd
  obtain ⟨k1, k2, k3⟩ := ks_eq hc.kno hi.int (by rw [hc.num]; exact hn) (by rw [hc.num]; exact hi.len)
  rw [hc.num] at k3
  have hk2 := List.all_eq_true.1 k2
  have hq : 0 ≤ 60000000 / max 1 i.Speed ∧ 60000000 / max 1 i.Speed ≤ 60000000 := ⟨Int.ediv_nonneg (by omega) (by omega), Int.ediv_le_self _ (by omega)⟩
  have htk : 4000 ≤ tkV i ∧ tkV i ≤ 1000000 := by unfold tkV; omega
  obtain ⟨d1, d2, d3⟩ := q500 ht.spark ht.tor hi.vol htk
  unfold q120
  simp only
  rw [k1]
  simp only [Option.bind_some]
  rw [q38 _ rfl]
  simp only [Option.bind_some]
  rw [maxI_eq, quoE (by omega) (by omega) (by omega)]
  simp only [Option.bind_some, q64, minI_eq, maxI_eq]
  rw [show min (max (60000000 / max 1 i.Speed) 4000) 1000000 = tkV i from rfl, d1]
  simp only [Option.bind_some]
  rw [q38 _ rfl]
  simp only [Option.bind_some]
  rw [show (((0 : Int) != 0)) = false from rfl]
  simp only [cond_false]
  generalize hP : (List.range e.Order.length).map (fun j : Nat => patB (e.Order.length : Int) f (j : Int)) = P
  have hPl : P.length = e.Order.length := by rw [← hP]; simp
  have hPg : ∀ j, j < e.Order.length → P[j]? = some (patB (e.Order.length : Int) f (j : Int)) := fun j hj => by rw [← hP, List.getElem?_map, List.getElem?_range hj]; rfl
  obtain ⟨u, eu, hu⟩ := rangeN_inv e.Order.length (by omega) (q147 (dwellV t i.Voltage (tkV i), 0)) (fun k u => u = ⟨t, e, b, ⟨pd, id, ksV c.Knock i.Intensity, pb, fm, gr⟩, i, w, cgV t i, f, l, P, tm, ⟨th, (List.range k).map (fiV t c i e.Order.length f l tm), to_⟩, 0⟩)
    ⟨t, e, b, ⟨pd, id, ksV c.Knock i.Intensity, pb, fm, gr⟩, i, w, cgV t i, f, l, P, tm, ⟨th, [], to_⟩, 0⟩ rfl (fun j hj u hu => by
      subst hu
      have hj2 : j < (ksV c.Knock i.Intensity).length := by omega
      have hr := (knOk.1 (hk2 _ (List.getElem_mem hj2))).r
      have hang := q473 t i.Speed (cgV t i) i.Coolant (ksV c.Knock i.Intensity)[j].Retard
      unfold q147
      simp only
      rw [getI_get _ _ hj2]
      simp only [Option.bind_some]
      rw [q554 ht.spark ht.tor hi.spd (q151 ht i) hi.coo ⟨hr.1, by omega⟩]
      simp only [Option.bind_some]
      rw [q38 _ rfl]
      simp only [Option.bind_some]
      rw [getI_nat, hPg j hj]
      simp only [Option.bind_some]
      have hb : (bif patB (e.Order.length : Int) f (j : Int) then (some tm) else (some 0)) = some (bif patB (e.Order.length : Int) f (j : Int) then tm else 0) := by cases patB (e.Order.length : Int) f (j : Int) <;> rfl
      rw [hb]
      simp only [Option.bind_some]
      rw [appendM_ok _ _ (by simp only [List.length_map, List.length_range, List.length_cons, List.length_nil]; omega)]
      simp only [Option.bind_some]
      refine ⟨_, rfl, ?_⟩
      rw [List.range_succ, List.map_append, List.map_cons, List.map_nil]
      unfold fiV
      rw [w64_of (n := (j : Int) + 1) (by omega) (by omega), w64_of (by omega) (by omega), maxI_eq, maxI_eq, List.getD_eq_getElem?_getD, List.getElem?_eq_getElem hj2]
      rfl)
  rw [eu, hu]
  rfl
theorem q548 {t : STables} {e : SEngine} {b : SBody} {c : SControls} {i : SInputs} (h : Giv t e b c i) : ∃ f l, StepOk t e b c i f l ∧ q141 t e b c i = some (nxC t b c i f, outC t e b c i f l, 0) := by
  have ht := tabOk h.t
  have hc := goodOk.1 h.c
  have hi := askOk.1 h.i
  obtain ⟨f, l, s1, s2, s3⟩ := sh_ok ht hi (w := wtV t c i) (by unfold wtV; omega)
  refine ⟨f, l, ⟨s1, s3⟩, ?_⟩
  unfold q141
  rw [q333, h.t, body_eq, h.b, good_eq, h.c]
  simp only [Option.bind_some, Bool.not_true, cond_false]
  rw [ask_eq, h.i]
  simp only [Option.bind_some, Bool.not_true, cond_false]
  rw [q537 ht hc hi]
  simp only [Option.bind_some]
  rw [(q424 ht h.b hi e _ (wtV t c i)).1]
  simp only [Option.bind_some]
  rw [q551 ht hi s2 s3]
  simp only [Option.bind_some]
  rw [st_fuel ht h.b hc hi]
  simp only [Option.bind_some]
  rw [q557 ht hc hi _ _ _ _ _ _ _ _ _ _ _ _ ⟨s3.l0, s3.l1⟩]
  simp only [Option.bind_some]
  rfl
theorem q529 {t : STables} {e : SEngine} {b : SBody} {c : SControls} {i : SInputs} (h : ¬ Giv t e b c i) : ∃ z o g, q141 t e b c i = some (z, o, g) ∧ ((g = 1 ∧ ¬ (ctlB t = true ∧ bodyB b = true ∧ goodB e c = true)) ∨ (g = 2 ∧ askB i (e.Order.length : Int) = false)) := by
  unfold q141
  rw [q333, body_eq, good_eq]
  simp only [Option.bind_some]
  cases h1 : ctlB t
  · exact ⟨_, _, 1, rfl, .inl ⟨rfl, by simp⟩⟩
  · cases h2 : bodyB b
    · exact ⟨_, _, 1, rfl, .inl ⟨rfl, by simp⟩⟩
    · cases h3 : goodB e c
      · exact ⟨_, _, 1, rfl, .inl ⟨rfl, by simp⟩⟩
      · simp only [Bool.not_true, cond_false, Option.bind_some]
        rw [ask_eq]
        cases h4 : askB i (e.Order.length : Int)
        · exact ⟨_, _, 2, rfl, .inr ⟨rfl, rfl⟩⟩
        · exact absurd ⟨h1, h2, h3, h4⟩ h
end Go.Pv
set_option linter.unusedSimpArgs false
namespace Go.Pv
open Go
theorem engP1 : Ev.engP ⟨[1], 0⟩ := by
  have : decide (Ev.engP ⟨[1], 0⟩) = true := by decide
  exact of_decide_eq_true this
theorem awake38 : q122 = some true := by
  unfold q122
  rw [q357, decide_eq_true engP1]
  simp only [cond_true, Option.bind_some, good_eq]
  have g1 : goodB ⟨[1], 0⟩ (newC 1) = true := by unfold goodB; rw [decide_eq_true engP1]; decide
  have g2 : goodB ⟨[1], 0⟩ zeroC = false := by unfold goodB; rw [decide_eq_true engP1]; decide
  rw [show (([1] : List Int).length) = 1 from rfl]
  rw [show (⟨⟨(newC 1).Pedal.Value, (newC 1).Pedal.Differ, (newC 1).Pedal.Fault⟩, ⟨(newC 1).Idle.Sum⟩, (newC 1).Knock, ⟨(newC 1).Probe.Active, (newC 1).Probe.Rich, (newC 1).Probe.Factor, (newC 1).Probe.Wait, (newC 1).Probe.Cells⟩, (newC 1).Film, ⟨(newC 1).Grant.Torque, (newC 1).Grant.Source⟩⟩ : SControls) = newC 1 from rfl, g1]
  rw [show (⟨⟨0, 0, false⟩, ⟨0⟩, [], ⟨false, false, 0, 0, []⟩, 0, ⟨0, 0⟩⟩ : SControls) = zeroC from rfl, g2]
  rfl
theorem few38 (t : STables) : ∃ b, q155 t = some b := by
  have f1 : ∀ m : SMap, ∃ b, q49 m = some b := fun m => by
    unfold q49
    cases h : ((decide ((m.X.length : Int) > 40) || decide ((m.Y.length : Int) > 40)) || decide ((m.Z.length : Int) > 40))
    · have hz : m.Z.length ≤ 40 := by simp at h; omega
      have k : q31 m.Z q76 = some (m.Z.any fun l => decide ((l.length : Int) > 40)) := index_any m.Z (by omega) q76 _ (fun l _ => rfl)
      rw [k]; exact ⟨_, rfl⟩
    · exact ⟨_, rfl⟩
  have e : ∀ (l : List SMap), l.length ≤ 4 → ∃ b, q111 l q49 = some b := fun l hl =>
    ⟨_, index_any l (by omega) q49 (fun m => (f1 m).choose) (fun m _ => (f1 m).choose_spec)⟩
  have e2 : ∀ (l : List SCurve), l.length ≤ 4 → ∃ b, q99 l q87 = some b := fun l hl =>
    ⟨_, index_any l (by omega) q87 (fun c => decide ((c.X.length : Int) > 40) || decide ((c.Y.length : Int) > 40)) (fun m _ => rfl)⟩
  unfold q155
  obtain ⟨b, hb⟩ := e [t.Air, t.Spark, t.Torque, t.Wish] (Nat.le_refl _)
  obtain ⟨b2, hb2⟩ := e2 [t.AirTemp, t.Dwell, t.Dead, t.Efficiency] (Nat.le_refl _)
  rw [hb, hb2]
  cases b <;> exact ⟨_, rfl⟩
theorem q517 {t : STables} {e : SEngine} {b : SBody} {c : SControls} {i : SInputs} (h : Giv t e b c i) {f l : Int} (k : StepOk t e b c i f l) : 0 ≤ (outC t e b c i f l).Torque ∧ (outC t e b c i f l).Torque ≤ wtV t c i := by
  have ht := tabOk h.t
  have hi := askOk.1 h.i
  have hn := hi.num
  have k1 := k.ok
  have k2 := k1.f0; have k3 := k1.f1
  obtain ⟨_, o0, o1⟩ := opt_eq ht.tor hi.spd (q151 ht i)
  have r := (tor_eq ht.tor (o := optV t i.Speed (cgV t i)) (l := l) (f := f) (n := (e.Order.length : Int)) ⟨o0, o1⟩ ⟨k2, k3⟩ (by omega)).2.1
  exact ⟨r, k1.most (by unfold wtV; omega)⟩
end Go.Pv
set_option linter.unusedSimpArgs false
namespace Go.Pv
open Go
theorem q401 : ∀ (n : Nat) (l : List Int), l.Nodup → (∀ x ∈ l, 1 ≤ x ∧ x ≤ (n : Int)) → l.length ≤ n
  | 0, l, _, h => by
    cases l with
    | nil => simp
    | cons x l => have := h x (List.mem_cons_self ..); omega
  | n + 1, l, hd, h => by
    by_cases hm : ((n : Int) + 1) ∈ l
    · have := q401 n (l.erase ((n : Int) + 1)) (hd.erase _) (fun x hx => by
        have h1 := (hd.mem_erase_iff).1 hx
        have h2 := h x h1.2
        have h3 := h1.1
        omega)
      rw [List.length_erase_of_mem hm] at this
      omega
    · have := q401 n l hd (fun x hx => by
        have h2 := h x hx
        have h3 : x ≠ (n : Int) + 1 := fun e => hm (by rw [← e]; exact hx)
        omega)
      omega
theorem all_in {e : SEngine} (h : Ev.engP e) {k : Nat} (hk : k < e.Order.length) : ((k : Int) + 1) ∈ e.Order := by
  obtain ⟨_, _, _, _, h5, h6⟩ := h
  by_cases hm : ((k : Int) + 1) ∈ e.Order
  · exact hm
  · have := q401 e.Order.length (((k : Int) + 1) :: e.Order) (List.nodup_cons.2 ⟨hm, h6⟩) (fun x hx => by
      rcases List.mem_cons.1 hx with rfl | hx
      · omega
      · exact h5 x hx)
    rw [List.length_cons] at this
    omega
theorem fire_ok {e : SEngine} (h : Ev.engP e) {x : SFire} (hc : x.Cylinder ∈ e.Order) (hs : -1280 ≤ x.Spark ∧ x.Spark ≤ 3840) (hd : 500 ≤ x.Dwell ∧ x.Dwell ≤ 10000) (he : x.End = 5760) (hi : x.Inject = 0 ∨ (200 ≤ x.Inject ∧ x.Inject ≤ 20000)) (hg : x.Gap = 0) (hx : x.Extra = 0) : q158 e x = some true := by
  have w : ∀ y lo hi, q82 y lo hi = some (inR lo hi y) := fun _ _ _ => rfl
  have h8 := h.2.1
  unfold q158
  rw [Ev.q62, decide_eq_true h, Ev.q280 _ _ (by omega), decide_eq_true hc, w, w, w, in_true hs.1 hs.2, in_true hd.1 hd.2, in_true (show 0 ≤ x.End by omega) (by omega), hg, hx]
  simp only [Option.bind_some, Bool.not_true, cond_false, w]
  rcases hi with hi | hi
  · rw [hi]; rfl
  · rw [show (x.Inject != 0) = true by rw [bne_iff_ne]; omega, in_true hi.1 hi.2]
    rfl
theorem sum0 : sumOk ⟨0⟩ := ⟨by decide, by decide⟩
theorem q527 {t : STables} {e : SEngine} {b : SBody} {c : SControls} {i : SInputs} (h : Giv t e b c i) (f : Int) : goodB e (nxC t b c i f) = true := by
  have ht := tabOk h.t
  have hc := goodOk.1 h.c
  have hi := askOk.1 h.i
  obtain ⟨k1, k2, k3⟩ := ks_eq hc.kno hi.int (by rw [hc.num]; exact hi.num) (by rw [hc.num]; exact hi.len)
  rw [goodOk]
  refine ⟨hc.eng, (q458 hc.ped _ _).2, (q475 hc.mix hi.lam hi.spd (q151 ht i)).2, by rw [← hc.num]; exact k3, k2, ?_, (q427 ht h.b hc f).2, q544 (q476 hi) _⟩
  show sumOk (idV t c i)
  unfold idV
  cases acV c i
  · exact sum0
  · exact (idlR_eq ht.idle hc.sum hi.coo hi.spd).2
theorem q550 {e : SEngine} (h : Ev.engP e) : goodB e (newC e.Order.length) = true := by
  rw [goodOk]
  refine ⟨h, (show pedB ⟨0, 0, false⟩ = true by decide), (show mixB probe0 = true by decide), by simp [newC], ?_, sum0, (show (0 : Int) ≤ 0 ∧ (0 : Int) ≤ 1073741824 by decide), (show granted ⟨0, -1⟩ from ⟨⟨by decide, by decide⟩, ⟨by decide, by decide⟩⟩)⟩
  rw [List.all_eq_true]
  intro x hx
  have : x = k0 := List.eq_of_mem_replicate hx
  subst this; decide
theorem q422 {α S : Type} {f : Int → α → S → Option (Fl S Bool)} (I : S → Prop) : ∀ (l : List α) (i : Int) (s : S), (∀ i s, ∀ x ∈ l, I s → f i x s = some (.ret true) ∨ ∃ s', f i x s = some (.next s') ∧ I s') → I s → stepsL f l i s = some (.inr true) ∨ ∃ s', stepsL f l i s = some (.inl s')
  | [], i, s, _, _ => .inr ⟨s, rfl⟩
  | x :: l, i, s, h, hs => by
    simp only [stepsL]
    rcases h i s x (List.mem_cons_self ..) hs with e | ⟨s', e, h'⟩
    · rw [e]; exact .inl rfl
    · rw [e]
      exact q422 I l (i + 1) s' (fun i s y hy => h i s y (List.mem_cons_of_mem _ hy)) h'
theorem q553 {t : STables} {e : SEngine} {b : SBody} {c : SControls} {x : SInputs} (i : Int) (hc : goodB e c = true) : q34 t e b i x c = some (.ret true) ∨ ∃ s', q34 t e b i x c = some (.next s') ∧ goodB e s' = true := by
  unfold q34
  cases hl : ((decide ((x.Intensity.length : Int) > 40)) || (decide ((x.Requests.length : Int) > 40)))
  · simp only [cond_false]
    by_cases h : Giv t e b c x
    · right
      obtain ⟨f, l, k1, k2⟩ := q548 h
      have ht := tabOk h.t
      have hcc := goodOk.1 h.c
      have hi := askOk.1 h.i
      have hn := hi.num
      have hg := q527 h f
      obtain ⟨o1, o2⟩ := q517 h k1
      obtain ⟨_, t1, t2⟩ := q424 ht h.b hi e c (wtV t c x)
      have hr := (q427 (i := x) ht h.b hcc f).1
      rw [k2]
      simp only [Option.bind_some]
      rw [show (((0 : Int) != 0)) = false from rfl]
      simp only [cond_false]
      refine ⟨nxC t b c x f, ?_, hg⟩
      show Option.bind (q86 e (nxC t b c x f)) _ = _
      rw [good_eq, hg]
      simp only [Option.bind_some]
      have hfl : (outC t e b c x f l).Fires.length = e.Order.length := by unfold outC; simp
      have hth : 0 ≤ (outC t e b c x f l).Throttle ∧ (outC t e b c x f l).Throttle ≤ 1000 := ⟨t1, t2⟩
      have hwt : (outC t e b c x f l).Torque ≤ maxI 0 (nxC t b c x f).Grant.Torque := by rw [maxI_eq]; exact o2
      rw [show ((((((!true) || (((outC t e b c x f l).Fires.length : Int) != (e.Order.length : Int))) || (decide ((outC t e b c x f l).Throttle < 0))) || (decide ((outC t e b c x f l).Throttle > 1000))) || (decide ((outC t e b c x f l).Torque < 0))) || (decide ((outC t e b c x f l).Torque > (maxI 0 (nxC t b c x f).Grant.Torque)))) = false by
        simp only [Bool.not_true, Bool.false_or, Bool.or_eq_false_iff, decide_eq_false_iff_not, bne_eq_false_iff_eq]
        omega]
      simp only [cond_false]
      obtain ⟨u, eu, _⟩ := rangeN_inv (outC t e b c x f l).Fires.length (by omega) (q89 e (nxC t b c x f, outC t e b c x f l, 0)) (fun _ _ => True) () trivial (fun j hj u _ => by
        have hj2 : j < e.Order.length := by omega
        refine ⟨(), ?_, trivial⟩
        have hget : (outC t e b c x f l).Fires[j]? = some (fiV t c x e.Order.length f l (tmV t x (inV t b c x f).1) j) := by
          unfold outC
          simp only
          rw [List.getElem?_map, List.getElem?_range hj2]; rfl
        unfold q89
        simp only
        rw [getI_nat, hget]
        simp only [Option.bind_some]
        have htk : 4000 ≤ tkV x ∧ tkV x ≤ 1000000 := by unfold tkV; omega
        obtain ⟨_, d2, d3⟩ := q500 ht.spark ht.tor hi.vol htk
        have ha := q473 t x.Speed (cgV t x) x.Coolant ((ksV c.Knock x.Intensity).getD j ⟨0, 0, 0⟩).Retard
        have hl0 := k1.ok.l0
        have hv := fire_ok hcc.eng (x := fiV t c x e.Order.length f l (tmV t x (inV t b c x f).1) j) (all_in hcc.eng hj2)
          ⟨by show -1280 ≤ max (-1280) (angV t x.Speed (cgV t x) x.Coolant ((ksV c.Knock x.Intensity).getD j ⟨0, 0, 0⟩).Retard - l); omega, by show max (-1280) (angV t x.Speed (cgV t x) x.Coolant ((ksV c.Knock x.Intensity).getD j ⟨0, 0, 0⟩).Retard - l) ≤ 3840; omega⟩
          ⟨by show 500 ≤ max 500 (dwellV t x.Voltage (tkV x)); omega, by show max 500 (dwellV t x.Voltage (tkV x)) ≤ 10000; omega⟩ rfl
          (by
            show (bif patB (e.Order.length : Int) f (j : Int) then tmV t x (inV t b c x f).1 else 0) = 0 ∨ (200 ≤ (bif patB (e.Order.length : Int) f (j : Int) then tmV t x (inV t b c x f).1 else 0) ∧ (bif patB (e.Order.length : Int) f (j : Int) then tmV t x (inV t b c x f).1 else 0) ≤ 20000)
            cases patB (e.Order.length : Int) f (j : Int)
            · exact .inl rfl
            · simp only [cond_true]
              unfold tmV
              cases decide ((inV t b c x f).1 > 0)
              · exact .inl rfl
              · simp only [cond_true]
                exact .inr ⟨by omega, by omega⟩) rfl rfl
        rw [hv]
        have e1 : ((fiV t c x e.Order.length f l (tmV t x (inV t b c x f).1) j).Cylinder != w64 ((j : Int) + 1)) = false := by
          rw [w64_of (by omega) (by omega)]
          show (((j : Int) + 1) != ((j : Int) + 1)) = false
          simp
        rw [e1]
        rfl)
      rw [eu]
      rfl
    · left
      obtain ⟨z, o, g, k1, k2⟩ := q529 h
      rw [k1]
      simp only [Option.bind_some]
      rcases k2 with ⟨rfl, k2⟩ | ⟨rfl, k2⟩
      · rfl
      · rw [ask_eq, k2]; rfl
  · exact .inl rfl
theorem runs_eq (t : STables) (e : SEngine) (b : SBody) (l : List SInputs) : q79 t e b l = some true := by
  unfold q79
  rw [awake38]
  simp only [Option.bind_some, Bool.not_true, cond_false]
  obtain ⟨v, hv⟩ := few38 t
  rw [hv]
  simp only [Option.bind_some]
  cases hx : (((!v) || (decide ((e.Order.length : Int) > 40))) || (decide ((l.length : Int) > 20)))
  · simp only [cond_false]
    simp only [Bool.or_eq_false_iff, decide_eq_false_iff_not] at hx
    rw [q357]
    by_cases h : Ev.engP e
    · rw [decide_eq_true h]
      simp only [cond_true, Option.bind_some]
      rw [show (((0 : Int) != 0)) = false from rfl]
      simp only [cond_false]
      show Option.bind (rangeM l (q34 t e b) (newC e.Order.length)) _ = _
      rw [rangeM_steps _ (by omega)]
      rcases q422 (f := q34 t e b) (fun c => goodB e c = true) l 0 (newC e.Order.length) (fun i s x _ hs => q553 i hs) (q550 h) with q | ⟨s', q⟩
      · rw [q]; rfl
      · rw [q]; rfl
    · rw [decide_eq_false h]
      simp only [cond_false, Option.bind_some]
      rw [Ev.q62, decide_eq_false h]
      rfl
  · rfl
end Go.Pv
namespace Go.Pv
open Go
theorem q419 (x0 : STables) (x1 : SEngine) (x2 : SBody) (x3 : List SInputs) (g0 : wf_STables x0) (g1 : wf_SEngine x1) (g2 : wf_SBody x2) (g3 : (wfL wf_SInputs) x3) : q79 x0 x1 x2 x3 = some true :=
  have _ := g0
  have _ := g1
  have _ := g2
  have _ := g3
  runs_eq x0 x1 x2 x3
end Go.Pv

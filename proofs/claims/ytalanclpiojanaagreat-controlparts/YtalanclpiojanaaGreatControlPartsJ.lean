/- This file joins: Plain Lean: what air and torque answer for valid tables. The events' functions, as they compute. Plain Lean. Plain Lean: the states of the control. Plain Lean: what pedal, idle, knock, mixture, fuel and spark answer for valid states. The arbiter's functions, as they compute. Plain Lean. Plain Lean: what a step of all control functions answers. Plain Lean: the laws of a step of all control functions. Plain Lean: the laws of a step of all control functions: fuel and parts. The plain law of ControlParts. -/
import Derived.Test.YtalanclpiojanaaGreatControlPartsI
import Derived.KernelRfl
set_option linter.unusedSimpArgs false
set_option linter.unusedVariables false
set_option linter.unusedSimpArgs false
namespace Go.Pv
open Go
noncomputable def sAt (m : SMap) (x y : Int) : Int := (q80 m x y).getD 0
noncomputable def cAt (c : SCurve) (x : Int) : Int := (q133 c x).getD 0
theorem sAt_eq {m : SMap} (h : mapB m = true) (x y : Int) : q80 m x y = some (sAt m x y) := by
  obtain ⟨i, j, _, _, e⟩ := At_eq h x y
  unfold sAt; rw [e]; rfl
theorem cAt_eq {c : SCurve} (h : curB c = true) (x : Int) : q133 c x = some (cAt c x) := by
  obtain ⟨i, _, e⟩ := q376 h x
  unfold cAt; rw [e]; rfl
theorem q370 {m : SMap} (h : mapB m = true) (x y : Int) {lo hi : Int} (hz : ∀ i j, i < m.X.length → j < m.Y.length → lo ≤ zz m i j ∧ zz m i j ≤ hi) : lo ≤ sAt m x y ∧ sAt m x y ≤ hi := by
  obtain ⟨i, j, a, b, e⟩ := At_eq h x y
  have := q512 (mapOk h) a b hz
  unfold sAt; rw [e]; exact this
theorem q374 {c : SCurve} (h : curB c = true) (x : Int) {lo hi : Int} (hy : ∀ j, j < c.X.length → lo ≤ nd c.Y j ∧ nd c.Y j ≤ hi) : lo ≤ cAt c x ∧ cAt c x ≤ hi := by
  obtain ⟨i, a, e⟩ := q376 h x
  have := q452 (curOk h) a hy
  unfold cAt; rw [e]; exact this
theorem inR_iff {lo hi x : Int} : inR lo hi x = true ↔ lo ≤ x ∧ x ≤ hi := by
  unfold inR
  rw [Bool.and_eq_true, decide_eq_true_eq, decide_eq_true_eq]
theorem z_in {m : SMap} (h : mapB m = true) {lo hi : Int} (hz : ∀ r ∈ m.Z, r.all (inR lo hi) = true) : ∀ i j, i < m.X.length → j < m.Y.length → lo ≤ zz m i j ∧ zz m i j ≤ hi := by
  intro i j hi' hj
  have k := mapOk h
  have hiz : i < m.Z.length := by have := k.zl; omega
  have hjz : j < m.Z[i].length := by have := k.rl i hiz; omega
  have := hz _ (List.getElem_mem hiz)
  rw [List.all_eq_true] at this
  have := this _ (List.getElem_mem hjz)
  rw [zz_get hiz hjz]
  exact inR_iff.1 this
theorem y_in {c : SCurve} (h : curB c = true) {lo hi : Int} (hy : c.Y.all (inR lo hi) = true) : ∀ j, j < c.X.length → lo ≤ nd c.Y j ∧ nd c.Y j ≤ hi := by
  intro j hj
  have k := curOk h
  have hjy : j < c.Y.length := by have := k.yl; omega
  rw [List.all_eq_true] at hy
  rw [nd_get hjy]
  exact inR_iff.1 (hy _ (List.getElem_mem hjy))
structure AirOk (t : STables) : Prop where
  m : mapB t.Air = true
  c : curB t.AirTemp = true
  z : ∀ i j, i < t.Air.X.length → j < t.Air.Y.length → 0 ≤ zz t.Air i j ∧ zz t.Air i j ≤ 1048576
  y : ∀ j, j < t.AirTemp.X.length → 100 ≤ nd t.AirTemp.Y j ∧ nd t.AirTemp.Y j ≤ 3000
theorem airOk {t : STables} (h : airB t = true) : AirOk t := by
  unfold airB at h
  simp only [Bool.and_eq_true] at h
  obtain ⟨⟨⟨h1, h2⟩, h3⟩, h4⟩ := h
  refine ⟨h1, h2, z_in h1 fun r hr => ?_, y_in h2 h4⟩
  have := List.all_eq_true.1 h3 r hr
  unfold airRow at this
  rw [Bool.and_eq_true] at this
  exact this.1
noncomputable def chV (t : STables) (s p q : Int) : Int := min 1048576 (sAt t.Air s p * cAt t.AirTemp q / 1000)
theorem prod_le {a b A B : Int} (a0 : 0 ≤ a) (a1 : a ≤ A) (b0 : 0 ≤ b) (b1 : b ≤ B) : 0 ≤ a * b ∧ a * b ≤ A * B := ⟨Int.mul_nonneg a0 b0, Int.mul_le_mul a1 b1 b0 (by omega)⟩
theorem ch_eq {t : STables} (h : airB t = true) (s p q : Int) : q250 t s p q = some (chV t s p q) ∧ 0 ≤ chV t s p q ∧ chV t s p q ≤ 1048576 := by
  have k := airOk h
  have b1 := q370 k.m s p k.z
  have b2 := q374 k.c q k.y
  have b3 := prod_le (A := 1048576) (B := 3000) b1.1 b1.2 (by omega) b2.2
  unfold q250 chV
  rw [sAt_eq k.m, cAt_eq k.c]
  simp only [Option.bind_some]
  rw [w64_of (by omega) (by omega), q373 _ _ (by omega) (by omega) (by omega) (by omega)]
  simp only [Option.bind_some, minI_eq]
  exact ⟨trivial, by omega, by omega⟩
theorem in_true {lo hi x : Int} (h0 : lo ≤ x) (h1 : x ≤ hi) : inR lo hi x = true := inR_iff.2 ⟨h0, h1⟩
theorem q496 {t : STables} (h : airB t = true) {s p q : Int} (s0 : 0 ≤ s ∧ s ≤ 12000) (p0 : 50 ≤ p ∧ p ≤ 3000) (q0 : -40 ≤ q ∧ q ≤ 150) : q305 t s p q = some (chV t s p q, 0) := by
  unfold q305
  rw [q320, h, q38, q38, q38, in_true s0.1 s0.2, in_true p0.1 p0.2, in_true q0.1 q0.2, (ch_eq h s p q).1]
  rfl
structure PrOk (t : STables) (s w q p e : Int) : Prop where
  out : e = 0 ∨ e = 2 ∨ e = 7
  ran : e = 2 ↔ ¬ (0 ≤ w ∧ w ≤ 1048576)
  fit : e = 0 → 50 ≤ p ∧ p ≤ 3000 ∧ w ≤ chV t s p q
  low : e = 0 → 50 < p → chV t s (p - 1) q < w
  big : e = 7 → chV t s 3000 q < w
theorem q509 {t : STables} (h : airB t = true) {s w q : Int} (s0 : 0 ≤ s ∧ s ≤ 12000) (q0 : -40 ≤ q ∧ q ≤ 150) : ∃ p e, q187 t s w q = some (p, e) ∧ PrOk t s w q p e := by
  unfold q187
  rw [q320, h, q38, q38, q38, in_true s0.1 s0.2, in_true q0.1 q0.2]
  simp only [Option.bind_some, Bool.not_true, cond_false]
  cases hw : inR 0 1048576 w
  · have hw2 : ¬ (0 ≤ w ∧ w ≤ 1048576) := fun h2 => by rw [inR_iff.2 h2] at hw; cases hw
    exact ⟨0, 2, rfl, .inr (.inl rfl), ⟨fun _ => hw2, fun _ => rfl⟩, fun h => (by cases h), fun h => (by cases h), fun h => (by cases h)⟩
  · have hw2 := inR_iff.1 hw
    simp only [Bool.not_true, cond_false]
    obtain ⟨k, k1, k2, k3, k4⟩ := q132 2951 (by omega) (fun x0 => q101 x0 t s q w) (fun i => decide (chV t s (50 + (i : Int)) q ≥ w)) (fun i hi => by
      unfold q101
      rw [w64_of (by omega) (by omega), (ch_eq h s _ q).1]
      rfl)
    have k2' : q45 2951 (fun x0 => q101 x0 t s q w) = some (k : Int) := k2
    rw [k2']
    simp only [Option.bind_some]
    rw [w64_of (n := 50 + (k : Int)) (by omega) (by omega)]
    by_cases hk : k = 2951
    · subst hk
      refine ⟨0, 7, rfl, .inr (.inr rfl), ⟨fun h => (by cases h), fun h => absurd hw2 h⟩, fun h => (by cases h), fun h => (by cases h), fun _ => ?_⟩
      have := k3 (by omega)
      rw [decide_eq_false_iff_not] at this
      have e : (50 : Int) + ((2951 - 1 : Nat) : Int) = 3000 := by omega
      rw [e] at this
      omega
    · have h4 := k4 (by omega)
      rw [decide_eq_true_eq] at h4
      rw [decide_eq_false (show ¬ (50 + (k : Int) > 3000) by omega)]
      refine ⟨50 + (k : Int), 0, rfl, .inl rfl, ⟨fun h => (by cases h), fun h => absurd hw2 h⟩, fun _ => ⟨by omega, by omega, by omega⟩, fun _ hp => ?_, fun h => (by cases h)⟩
      have h3 := k3 (by omega)
      rw [decide_eq_false_iff_not] at h3
      have e : (50 : Int) + ((k - 1 : Nat) : Int) = 50 + (k : Int) - 1 := by omega
      rw [e] at h3
      omega
def rpmV (s : Int) : Int := -((-(s * 65536 * 23040)) / 60000000)
theorem q510 {s : Int} (s0 : 0 ≤ s ∧ s ≤ 12000) : 0 ≤ rpmV s ∧ rpmV s ≤ 310000 := by unfold rpmV; omega
def flowV (s p : Int) : Int := rpmV s * p / 1024
theorem flow_eq {s p : Int} (s0 : 0 ≤ s ∧ s ≤ 12000) (p0 : 50 ≤ p ∧ p ≤ 3000) : q369 s p = some (flowV s p, 0) ∧ 0 ≤ flowV s p ∧ flowV s p ≤ 930000000 := by
  have r := q510 s0
  have b := prod_le (B := 3000) r.1 r.2 (show 0 ≤ p by omega) p0.2
  unfold q369 q267 q185
  rw [q38, q38, in_true s0.1 s0.2, in_true p0.1 p0.2]
  rw [show ((decide (s < 0)) || (decide (s > 20000))) = false by rw [Bool.or_eq_false_iff]; exact ⟨decide_eq_false (by omega), decide_eq_false (by omega)⟩]
  rw [w64_of (n := s * 65536) (by omega) (by omega), w64_of (n := s * 65536 * 23040) (by omega) (by omega), q413 _ _ 2 (by omega) (by omega) (by omega) (by omega) (.inr rfl)]
  simp only [Option.bind_some, Bool.not_true, cond_false]
  rw [if_neg (by decide)]
  have er : -((-(s * 65536 * 23040)) / 60000000) = rpmV s := rfl
  unfold flowV
  rw [er, w64_of (n := rpmV s * p) (by omega) (by omega), Int.tdiv_eq_ediv_of_nonneg b.1, w64_of (by omega) (by omega)]
  exact ⟨rfl, by omega, by omega⟩
structure BodyOk (b : SBody) : Prop where
  i : 100 ≤ b.Inertia ∧ b.Inertia ≤ 1048576
  f : 0 ≤ b.Friction ∧ b.Friction ≤ 65536
  t : 0 ≤ b.Throttle ∧ b.Throttle ≤ 65536
  v : 1 ≤ b.Volume ∧ b.Volume ≤ 65536
  fi : 0 ≤ b.Film ∧ b.Film ≤ 1023
  ev : 1 ≤ b.Evaporate ∧ b.Evaporate ≤ 1024
  de : 0 ≤ b.Delay ∧ b.Delay ≤ 20
def bodyB (b : SBody) : Bool := inR 100 1048576 b.Inertia && inR 0 65536 b.Friction && inR 0 65536 b.Throttle && inR 1 65536 b.Volume && inR 0 1023 b.Film && inR 1 1024 b.Evaporate && inR 0 20 b.Delay
theorem body_eq (b : SBody) : q207 b = some (bodyB b) := by
  unfold q207 bodyB
  have e : ∀ x lo hi, q73 x lo hi = some (inR lo hi x) := fun _ _ _ => rfl
  simp only [e, Option.bind_some]
  cases inR 100 1048576 b.Inertia <;> cases inR 0 65536 b.Friction <;> cases inR 0 65536 b.Throttle <;> cases inR 1 65536 b.Volume <;> cases inR 0 1023 b.Film <;> cases inR 1 1024 b.Evaporate <;> rfl
theorem bodyOk {b : SBody} (h : bodyB b = true) : BodyOk b := by
  unfold bodyB at h
  simp only [Bool.and_eq_true, inR_iff] at h
  obtain ⟨⟨⟨⟨⟨⟨h1, h2⟩, h3⟩, h4⟩, h5⟩, h6⟩, h7⟩ := h
  exact ⟨h1, h2, h3, h4, h5, h6, h7⟩
structure ThOk (b : SBody) (f p n e : Int) : Prop where
  out : e = 0 ∨ e = 7
  fit : e = 0 → 0 ≤ n ∧ n ≤ 1000 ∧ f ≤ b.Throttle * n * (1013 - p) / 1000
  low : e = 0 → 0 < n → b.Throttle * (n - 1) * (1013 - p) / 1000 < f
  big : e = 7 → b.Throttle * 1000 * (1013 - p) / 1000 < f
theorem q505 {b : SBody} (h : bodyB b = true) {f p : Int} (f0 : 0 ≤ f ∧ f ≤ 1099511627776) (p0 : 50 ≤ p ∧ p ≤ 1013) : ∃ n e, q179 b f p = some (n, e) ∧ ThOk b f p n e := by
  have kb := (bodyOk h).t
  have v : ∀ k : Nat, k ≤ 1000 → (w64 (Int.tdiv (w64 ((w64 (b.Throttle * (k : Int))) * (w64 (1013 - p)))) 1000)) = b.Throttle * (k : Int) * (1013 - p) / 1000 := by
    intro k hk
    have b1 := prod_le (A := 65536) (B := 1000) kb.1 kb.2 (show 0 ≤ (k : Int) by omega) (by omega)
    have b2 := prod_le (A := 65536000) (B := 1000) b1.1 (by omega) (show 0 ≤ 1013 - p by omega) (by omega)
    rw [w64_of (n := b.Throttle * (k : Int)) (by omega) (by omega), w64_of (n := 1013 - p) (by omega) (by omega), w64_of (n := b.Throttle * (k : Int) * (1013 - p)) (by omega) (by omega), Int.tdiv_eq_ediv_of_nonneg b2.1, w64_of (by omega) (by omega)]
  unfold q179
  rw [body_eq, h, q38, q38, in_true f0.1 f0.2, in_true p0.1 p0.2]
  simp only [Option.bind_some, Bool.not_true, cond_false]
  obtain ⟨k, k1, k2, k3, k4⟩ := q132 1001 (by omega) (fun x0 => q102 x0 b p f) (fun i => decide (b.Throttle * (i : Int) * (1013 - p) / 1000 ≥ f)) (fun i hi => by
    unfold q102
    rw [v i (by omega)])
  have k2' : q45 1001 (fun x0 => q102 x0 b p f) = some (k : Int) := k2
  rw [k2']
  simp only [Option.bind_some]
  by_cases hk : k = 1001
  · subst hk
    refine ⟨0, 7, rfl, .inr rfl, fun h => (by cases h), fun h => (by cases h), fun _ => ?_⟩
    have := k3 (by omega)
    rw [decide_eq_false_iff_not] at this
    have e : ((1001 - 1 : Nat) : Int) = 1000 := by omega
    rw [e] at this
    omega
  · have h4 := k4 (by omega)
    rw [decide_eq_true_eq] at h4
    rw [decide_eq_false (show ¬ ((k : Int) > 1000) by omega)]
    refine ⟨(k : Int), 0, rfl, .inl rfl, fun _ => ⟨by omega, by omega, by omega⟩, fun _ hp => ?_, fun h => (by cases h)⟩
    have h3 := k3 (by omega)
    rw [decide_eq_false_iff_not] at h3
    have e : ((k - 1 : Nat) : Int) = (k : Int) - 1 := by omega
    rw [e] at h3
    omega
noncomputable def optV (t : STables) (s c : Int) : Int := sAt t.Torque s c
noncomputable def torV (t : STables) (o l f n : Int) : Int := o * cAt t.Efficiency l * f / (1000 * n)
theorem q128 (x lo hi : Int) : q35 x lo hi = some (inR lo hi x) := rfl
theorem opt_eq {t : STables} (h : torB t = true) {s c : Int} (s0 : 0 ≤ s ∧ s ≤ 12000) (c0 : 0 ≤ c ∧ c ≤ 1048576) : q145 t s c = some (optV t s c, 0) ∧ 0 ≤ optV t s c ∧ optV t s c ≤ 10000 := by
  have k := q492 h
  have b := q370 k s c (torOk h).z
  refine ⟨?_, b.1, b.2⟩
  unfold q145
  rw [q251, h, q128, q128, in_true s0.1 s0.2, in_true c0.1 c0.2, sAt_eq k]
  rfl
theorem tor_eq {t : STables} (h : torB t = true) {o l f n : Int} (o0 : 0 ≤ o ∧ o ≤ 10000) (f0 : 0 ≤ f ∧ f ≤ n) (n0 : 1 ≤ n ∧ n ≤ 8) : q92 t o l f n = some (torV t o l f n) ∧ 0 ≤ torV t o l f n ∧ torV t o l f n ≤ 10000 := by
  obtain ⟨e, h1, h2, h3, h4⟩ := q528 h l
  unfold torV cAt
  rw [h4 o f n o0.1 o0.2 f0.1 f0.2 n0.1 n0.2, h1]
  have b1 := prod_le (A := 10000) (B := 1000) o0.1 o0.2 h2 h3
  have b2 := prod_le (A := 10000000) b1.1 (by omega) f0.1 f0.2
  refine ⟨rfl, Int.ediv_nonneg b2.1 (by omega), ?_⟩
  have : o * e * f / (1000 * n) ≤ 10000000 * n / (1000 * n) := Int.ediv_le_ediv (by omega) b2.2
  rw [show 10000000 * n = 10000 * (1000 * n) by omega, Int.mul_ediv_cancel _ (by omega)] at this
  exact this
theorem q563 {t : STables} (h : torB t = true) {s w : Int} (s0 : 0 ≤ s ∧ s ≤ 12000) : ∃ c e, q157 t s w = some (c, e) ∧ (e = 0 ∨ e = 7) ∧
    (e = 0 → nd t.Torque.Y 0 ≤ c ∧ c ≤ nd t.Torque.Y (t.Torque.Y.length - 1) ∧ w ≤ sAt t.Torque s c ∧ (nd t.Torque.Y 0 < c → sAt t.Torque s (c - 1) < w)) ∧ (e = 7 → sAt t.Torque s (nd t.Torque.Y (t.Torque.Y.length - 1)) < w) := by
  have k := q492 h
  have ky := (mapOk k).y
  have y2 := ky.two
  have ym := ky.most
  have e0 := ky.el 0 (by omega)
  have e1 := ky.el (t.Torque.Y.length - 1) (by omega)
  have le := ky.le (t.Torque.Y.length - 1) 0 (by omega) (by omega)
  rw [← nd_get (by omega : 0 < t.Torque.Y.length)] at e0 le
  rw [← nd_get (by omega : t.Torque.Y.length - 1 < t.Torque.Y.length)] at e1 le
  have g0 : getI t.Torque.Y 0 = some (nd t.Torque.Y 0) := by have := getI_get t.Torque.Y 0 (by omega); rw [nd_get (by omega)]; exact this
  have ew : w64 ((t.Torque.Y.length : Int) - 1) = ((t.Torque.Y.length - 1 : Nat) : Int) := by rw [w64_of (by omega) (by omega)]; omega
  have gl : getI t.Torque.Y ((t.Torque.Y.length - 1 : Nat) : Int) = some (nd t.Torque.Y (t.Torque.Y.length - 1)) := by rw [getI_get _ _ (by omega), nd_get (by omega)]
  unfold q157
  rw [q251, h, q128, in_true s0.1 s0.2]
  simp only [Option.bind_some, Bool.not_true, cond_false]
  rw [g0, ew]
  simp only [Option.bind_some]
  rw [gl]
  simp only [Option.bind_some]
  generalize nd t.Torque.Y 0 = a at *
  generalize nd t.Torque.Y (t.Torque.Y.length - 1) = b at *
  rw [w64_of (n := b - a) (by omega) (by omega), w64_of (n := b - a + 1) (by omega) (by omega)]
  obtain ⟨n, hn⟩ : ∃ n : Nat, b - a + 1 = n := ⟨(b - a + 1).toNat, by omega⟩
  rw [hn]
  obtain ⟨j, k1, k2, k3, k4⟩ := q132 n (by omega) (fun x0 => q121 x0 t s a w) (fun i => decide (sAt t.Torque s (a + (i : Int)) ≥ w)) (fun i hi => by
    unfold q121
    rw [w64_of (by omega) (by omega), sAt_eq k]; rfl)
  rw [k2]
  simp only [Option.bind_some]
  by_cases hj : j = n
  · subst hj
    refine ⟨0, 7, by simp, .inr rfl, fun h => (by cases h), fun _ => ?_⟩
    have := k3 (by omega)
    rw [decide_eq_false_iff_not, show a + ((j - 1 : Nat) : Int) = b by omega] at this
    omega
  · have : ((j : Int) == (n : Int)) = false := by
      rw [beq_eq_false_iff_ne]; omega
    rw [this, w64_of (n := a + (j : Int)) (by omega) (by omega)]
    have h4 := k4 (by omega)
    rw [decide_eq_true_eq] at h4
    refine ⟨a + (j : Int), 0, rfl, .inl rfl, fun _ => ⟨by omega, by omega, by omega, fun hp => ?_⟩, fun h => (by cases h)⟩
    have h3 := k3 (by omega)
    rw [decide_eq_false_iff_not, show a + ((j - 1 : Nat) : Int) = a + (j : Int) - 1 by omega] at h3
    omega
structure ShOk (t : STables) (o w n f l : Int) : Prop where
  f0 : 0 ≤ f
  f1 : f ≤ n
  l0 : 0 ≤ l
  l1 : l ≤ 2560
  fit : f = 0 ∨ torV t o 2560 f n ≤ w
  more : f < n → w < torV t o 2560 (f + 1) n
  late : l < 2560 → torV t o l f n ≤ w
  less : 0 < l → w < torV t o (l - 1) f n
theorem q567 (t : STables) (o l n : Int) : torV t o l 0 n = 0 := by unfold torV; rw [Int.mul_zero, Int.zero_ediv]
theorem ShOk.most {t : STables} {o w n f l : Int} (h : ShOk t o w n f l) (hw : 0 ≤ w) : torV t o l f n ≤ w := by
  by_cases hl : l < 2560
  · exact h.late hl
  · have : l = 2560 := by have := h.l1; omega
    subst this
    rcases h.fit with h0 | h0
    · rw [h0, q567]; exact hw
    · exact h0
theorem q462 {t : STables} (h : torB t = true) {o w n : Int} (o0 : 0 ≤ o ∧ o ≤ 10000) (n0 : 1 ≤ n ∧ n ≤ 8) : ∀ k : Nat, (k : Int) ≤ n → ((k : Int) < n → w < torV t o 2560 ((k : Int) + 1) n) →
    ∃ f, loopM (q116 t w n (o, 0)) (k : Int) = some (.inl f) ∧ 0 ≤ f ∧ f ≤ n ∧ (f = 0 ∨ torV t o 2560 f n ≤ w) ∧ (f < n → w < torV t o 2560 (f + 1) n)
  | 0, _, hm => ⟨0, loopM_out (by unfold q116; rfl), Int.le_refl _, by omega, .inl rfl, hm⟩
  | k + 1, hk, hm => by
    have he := (tor_eq h (l := 2560) (f := ((k + 1 : Nat) : Int)) o0 ⟨by omega, hk⟩ n0).1
    have hb : q116 t w n (o, 0) ((k + 1 : Nat) : Int) = some (bif decide (torV t o 2560 ((k + 1 : Nat) : Int) n ≤ w) then .inr (.inl ((k + 1 : Nat) : Int)) else .inl (k : Int)) := by
      unfold q116
      rw [decide_eq_true (show ((k + 1 : Nat) : Int) > 0 by omega), he, w64_of (by omega) (by omega), show ((k + 1 : Nat) : Int) - 1 = (k : Int) by omega]
      simp only [cond_true, Option.bind_some]
      cases decide (torV t o 2560 ((k + 1 : Nat) : Int) n ≤ w) <;> rfl
    by_cases hc : torV t o 2560 ((k + 1 : Nat) : Int) n ≤ w
    · rw [decide_eq_true hc] at hb
      exact ⟨_, loopM_out hb, by omega, hk, .inr hc, hm⟩
    · rw [decide_eq_false hc] at hb
      rw [loopM_next hb]
      exact q462 h o0 n0 k (by omega) (fun _ => by rw [show (k : Int) + 1 = ((k + 1 : Nat) : Int) by omega]; omega)
theorem q548 {t : STables} (h : torB t = true) {s c w n : Int} (s0 : 0 ≤ s ∧ s ≤ 12000) (c0 : 0 ≤ c ∧ c ≤ 1048576) (w0 : 0 ≤ w) (n0 : 1 ≤ n ∧ n ≤ 8) : ∃ f l, q106 t s c w n = some (f, l, 0) ∧ ShOk t (optV t s c) w n f l := by
  obtain ⟨h1, h2⟩ := opt_eq h s0 c0
  unfold q106
  rw [h1]
  simp only [Option.bind_some]
  rw [show (((0 : Int) != 0) = false) from rfl, q128, in_true n0.1 n0.2, decide_eq_false (show ¬ w < 0 by omega)]
  simp only [cond_false, Option.bind_some, Bool.not_true, Bool.or_self]
  generalize optV t s c = o at h2
  obtain ⟨k, hk⟩ : ∃ k : Nat, n = k := ⟨n.toNat, by omega⟩
  obtain ⟨f, f1, f2, f3, f4, f5⟩ := q462 h (w := w) h2 n0 k (by omega) (fun h => by omega)
  rw [← hk] at f1
  rw [f1]
  simp only [Option.bind_some]
  obtain ⟨j, k1, k2, k3, k4⟩ := q132 2560 (by omega) (fun x0 => q99 x0 t o f n w) (fun i => decide (torV t o (i : Int) f n ≤ w)) (fun i hi => by
    unfold q99
    rw [(tor_eq h h2 ⟨f2, f3⟩ n0).1]; rfl)
  have k2' : q45 2560 (fun x0 => q99 x0 t o f n w) = some (j : Int) := k2
  rw [k2']
  refine ⟨f, (j : Int), rfl, f2, f3, by omega, by omega, f4, f5, fun hl => ?_, fun hl => ?_⟩
  · have := k4 (by omega)
    rwa [decide_eq_true_eq] at this
  · have := k3 (by omega)
    rw [decide_eq_false_iff_not, show ((j - 1 : Nat) : Int) = (j : Int) - 1 by omega] at this
    omega
theorem q529 {t : STables} (h : torB t = true) {s c l f n : Int} (s0 : 0 ≤ s ∧ s ≤ 12000) (c0 : 0 ≤ c ∧ c ≤ 1048576) (l0 : 0 ≤ l ∧ l ≤ 2560) (f0 : 0 ≤ f ∧ f ≤ n) (n0 : 1 ≤ n ∧ n ≤ 8) : q219 t s c l f n = some (torV t (optV t s c) l f n, 0) := by
  obtain ⟨h1, h2⟩ := opt_eq h s0 c0
  unfold q219
  rw [h1]
  simp only [Option.bind_some]
  rw [show (((0 : Int) != 0) = false) from rfl, q128, q128, q128, in_true l0.1 l0.2, in_true n0.1 n0.2, in_true f0.1 f0.2, (tor_eq h h2 f0 n0).1]
  rfl
def patB (n f i : Int) : Bool := decide ((i + 1) * f / n > i * f / n)
theorem quoE {a b : Int} (ha : 0 ≤ a) (hb : 0 < b) (hm : a ≤ 9223372036854775807) : quoM .i64 a b = some (a / b) := by
  have h1 : a / b ≤ a := Int.ediv_le_self _ ha
  have h2 : 0 ≤ a / b := Int.ediv_nonneg ha (by omega)
  unfold quoM
  rw [if_neg (by omega), Int.tdiv_eq_ediv_of_nonneg ha]
  have := w64_of (n := a / b) (by omega) (by omega)
  unfold w64 at this
  rw [this]
theorem q519 {n : Nat} {f : Int} (n0 : 1 ≤ n ∧ n ≤ 8) (f0 : 0 ≤ f ∧ f ≤ n) : q190 (n : Int) f 0 = some ((List.range n).map (fun i : Nat => patB n f (i : Int)), 0) := by
  unfold q190
  rw [q128, q128, q128, in_true (by omega) (by omega), in_true f0.1 f0.2]
  simp only [Option.bind_some, Bool.not_true, cond_false]
  rw [show inR 0 1099511627776 0 = true from rfl, makeM_nat n (by omega)]
  simp only [Option.bind_some, Bool.not_true, cond_false]
  obtain ⟨u, e, hu⟩ := rangeN_inv (List.replicate n false).length (by simp; omega) (q202 (n : Int) f 0) (fun i u => u.length = n ∧ ∀ j, j < i → u[j]? = some (patB n f (j : Int))) (List.replicate n false) ⟨by simp, fun j hj => by omega⟩ (fun j hj u hu => by
    simp only [List.length_replicate] at hj
    obtain ⟨hl, hg⟩ := hu
    unfold q202
    have m1 := prod_le (A := 9) (B := 8) (show 0 ≤ (j : Int) + 1 by omega) (by omega) f0.1 (by omega)
    have m2 := prod_le (A := 9) (B := 8) (show 0 ≤ (j : Int) by omega) (by omega) f0.1 (by omega)
    have er : remM (w64 ((j : Int) + 0)) (n : Int) = some (j : Int) := by
      unfold remM
      rw [if_neg (by omega), Int.add_zero, w64_of (by omega) (by omega), Int.tmod_eq_emod_of_nonneg (by omega), Int.emod_eq_of_lt (by omega) (by omega)]
    rw [er]
    simp only [Option.bind_some]
    rw [w64_of (n := (j : Int) + 1) (by omega) (by omega), w64_of (n := ((j : Int) + 1) * f) (by omega) (by omega), w64_of (n := (j : Int) * f) (by omega) (by omega), quoE m1.1 (by omega) (by omega), quoE m2.1 (by omega) (by omega)]
    simp only [Option.bind_some]
    rw [getI_get _ _ (by omega)]
    simp only [Option.bind_some]
    rw [setM_nat _ _ _ (by omega)]
    refine ⟨_, rfl, by simp [hl], fun i hi => ?_⟩
    rcases Nat.lt_or_ge i j with h | h
    · rw [List.getElem?_set_ne (by omega)]; exact hg i h
    · have : i = j := by omega
      subst this
      rw [List.getElem?_set_self (by omega)]; rfl)
  rw [e]
  simp only [List.length_replicate] at hu
  have : u = (List.range n).map (fun i : Nat => patB n f (i : Int)) := by
    apply List.ext_getElem?
    intro i
    rcases Nat.lt_or_ge i n with h | h
    · rw [hu.2 i h, List.getElem?_map, List.getElem?_range h]; rfl
    · rw [List.getElem?_eq_none (by omega), List.getElem?_eq_none (by simp; omega)]
  rw [this]
  rfl
end Go.Pv
set_option linter.unusedSimpArgs false
namespace Go.Pv.Ev
open Go Go.Pv
theorem dec_of {p : Prop} [Decidable p] {b : Bool} (h : p ↔ b = true) : decide p = b := by
  cases b
  · exact decide_eq_false fun hp => Bool.noConfusion (h.1 hp)
  · exact decide_eq_true (h.2 rfl)
theorem q353 {α : Type} [DecidableEq α] : ∀ {l m : List α}, l.Nodup → (∀ x ∈ l, x ∈ m) → m.length ≤ l.length → l.Perm m
  | [], m, _, _, h => by
    have : m = [] := List.length_eq_zero_iff.1 (Nat.le_zero.1 h)
    rw [this]
  | x :: l, m, hn, hs, hl => by
    have hx : x ∈ m := hs x (List.mem_cons_self ..)
    have hp := List.perm_cons_erase hx
    rw [List.nodup_cons] at hn
    have hlen := hp.length_eq
    simp only [List.length_cons] at hlen hl
    refine (List.Perm.cons x (q353 hn.2 (fun y hy => ?_) (by omega))).trans hp.symm
    have hne : y ≠ x := fun h => hn.1 (h ▸ hy)
    exact (List.mem_erase_of_ne hne).2 (hs y (List.mem_cons_of_mem _ hy))
theorem q537 {l : List Int} : (∀ k, k < l.length → ((k : Int) + 1) ∈ l) ↔ (∀ x ∈ l, 1 ≤ x ∧ x ≤ l.length) ∧ l.Nodup := by
  have hN : ((List.range l.length).map (fun k : Nat => (k : Int) + 1)).Nodup := by
    unfold List.Nodup
    rw [List.pairwise_map]
    exact List.Pairwise.imp (fun {a b} h => by omega) List.pairwise_lt_range
  have hm : ∀ x : Int, x ∈ (List.range l.length).map (fun k : Nat => (k : Int) + 1) ↔ 1 ≤ x ∧ x ≤ l.length := by
    intro x
    rw [List.mem_map]
    constructor
    · rintro ⟨k, hk, rfl⟩
      rw [List.mem_range] at hk
      omega
    · intro h
      exact ⟨(x - 1).toNat, by rw [List.mem_range]; omega, by omega⟩
  constructor
  · intro h
    have hp : ((List.range l.length).map (fun k : Nat => (k : Int) + 1)).Perm l := q353 hN (fun x hx => by
      rw [List.mem_map] at hx
      obtain ⟨k, hk, rfl⟩ := hx
      exact h k (List.mem_range.1 hk)) (by simp)
    exact ⟨fun x hx => (hm x).1 (hp.mem_iff.2 hx), hp.nodup_iff.1 hN⟩
  · rintro ⟨h1, h2⟩ k hk
    have hp : l.Perm ((List.range l.length).map (fun k : Nat => (k : Int) + 1)) := q353 h2 (fun x hx => (hm x).2 (h1 x hx)) (by simp)
    exact hp.mem_iff.2 ((hm _).2 (by omega))
def idx (v : Int) : List Int → Nat → Int
  | [], _ => -1
  | x :: l, i => bif v == x then (i : Int) else idx v l (i + 1)
theorem q495 (v : Int) : ∀ (l : List Int) (i : Nat), (idx v l i = -1 ∧ v ∉ l) ∨ ∃ k : Nat, idx v l i = ((i + k : Nat) : Int) ∧ l[k]? = some v
  | [], i => .inl ⟨rfl, by simp⟩
  | x :: l, i => by
    unfold idx
    cases h : v == x
    · have hne : v ≠ x := by simpa using h
      rcases q495 v l (i + 1) with ⟨h1, h2⟩ | ⟨k, h1, h2⟩
      · exact .inl ⟨h1, by simp [hne, h2]⟩
      · exact .inr ⟨k + 1, by simp only [cond_false]; rw [h1]; omega, by simpa using h2⟩
    · have : v = x := by simpa using h
      exact .inr ⟨0, by simp, by simp [this]⟩
theorem idx_mem (v : Int) (l : List Int) : decide (idx v l 0 ≥ 0) = decide (v ∈ l) := by
  rcases q495 v l 0 with ⟨h1, h2⟩ | ⟨k, h1, h2⟩
  · rw [h1]; simp [h2]
  · rw [h1]; simp [List.mem_of_getElem? h2]
theorem q472 (v : Int) : ∀ (l : List Int) (i : Nat), (Option.bind (stepsL (fun (i : Int) x (_ : Unit) => bif (v == x) then (some (Fl.ret i)) else (some (Fl.next ()))) l (i : Int) ()) fun (t : Unit ⊕ Int) => match t with | .inl _ => (some (-1)) | .inr r2 => some r2) = some (idx v l i)
  | [], i => rfl
  | x :: l, i => by
    simp only [stepsL, idx]
    cases v == x
    · simpa using q472 v l (i + 1)
    · rfl
theorem q555 (s : List Int) (v : Int) (h : s.length ≤ 9223372036854775807) : q137 s v = some (idx v s 0) := by
  unfold q137
  have : rangeN (s.length : Int) (q254 s v) () = stepsL (fun (i : Int) x (_ : Unit) => bif (v == x) then (some (Fl.ret i)) else (some (Fl.next ()))) s 0 () := rangeN_list s h _ ()
  rw [this]
  exact q472 v s 0
theorem q350 (s : List Int) (v : Int) (h : s.length ≤ 9223372036854775807) : q97 s v = some (decide (v ∈ s)) := by
  unfold q97
  rw [q555 s v h, Option.bind_some, idx_mem]
def engP (e : SEngine) : Prop := 1 ≤ e.Order.length ∧ e.Order.length ≤ 8 ∧ 0 ≤ e.First ∧ e.First < 46080 ∧ (∀ x ∈ e.Order, 1 ≤ x ∧ x ≤ (e.Order.length : Int)) ∧ e.Order.Nodup
instance (e : SEngine) : Decidable (engP e) := by unfold engP; infer_instance
theorem q565 {e : SEngine} (h : (((decide ((e.Order.length : Int) < 1)) || (decide ((e.Order.length : Int) > 8))) || !((decide (e.First ≥ 0)) && (decide (e.First < 46080)))) = true) : ¬ engP e := by
  rintro ⟨h1, h2, h3, h4, _⟩
  simp only [Bool.or_eq_true, Bool.not_eq_true', Bool.and_eq_false_iff, decide_eq_true_eq, decide_eq_false_iff_not] at h
  omega
theorem q568 {e : SEngine} (h : (((decide ((e.Order.length : Int) < 1)) || (decide ((e.Order.length : Int) > 8))) || !((decide (e.First ≥ 0)) && (decide (e.First < 46080)))) = false) : 1 ≤ e.Order.length ∧ e.Order.length ≤ 8 ∧ 0 ≤ e.First ∧ e.First < 46080 := by
  simp only [Bool.or_eq_false_iff, Bool.not_eq_false', Bool.and_eq_true, decide_eq_true_eq, decide_eq_false_iff_not] at h
  omega
theorem all_range' {n : Nat} {p : Nat → Bool} : (List.range' 0 n).all p = true ↔ ∀ k, k < n → p k = true := by
  rw [List.all_eq_true]
  constructor
  · intro h k hk
    exact h k (by rw [List.mem_range'_1]; omega)
  · intro h k hk
    rw [List.mem_range'_1] at hk
    exact h k (by omega)
theorem q78 (e : SEngine) : q181 e = some (decide (engP e)) := by
  unfold q181 q334
  have hb : (Option.bind (bif ((decide ((e.Order.length : Int) < 1)) || (decide ((e.Order.length : Int) > 8))) then (some true) else (Option.bind (some ((decide (e.First ≥ 0)) && (decide (e.First < 46080)))) fun v => some (!v))) : (Bool → Option Bool) → Option Bool) = fun k => k (((decide ((e.Order.length : Int) < 1)) || (decide ((e.Order.length : Int) > 8))) || !((decide (e.First ≥ 0)) && (decide (e.First < 46080)))) := by
    funext k
    cases ((decide ((e.Order.length : Int) < 1)) || (decide ((e.Order.length : Int) > 8))) <;> rfl
  rw [hb]
  cases hh : (((decide ((e.Order.length : Int) < 1)) || (decide ((e.Order.length : Int) > 8))) || !((decide (e.First ≥ 0)) && (decide (e.First < 46080))))
  · obtain ⟨h1, h2, h3, h4⟩ := q568 hh
    have k := loopM_all (mb := q175 e) (fun i => (i : Int) + 1) (p := fun i => decide (((i : Int) + 1) ∈ e.Order)) (b0 := .inl ((e.Order.length : Int) + 1)) (b1 := .inr false) e.Order.length (by
      unfold q175
      rw [show decide ((e.Order.length : Int) + 1 ≤ (e.Order.length : Int)) = false by simp; omega]; rfl) (fun k hk => by
      unfold q175
      simp only [show decide ((k : Int) + 1 ≤ (e.Order.length : Int)) = true by simp; omega, cond_true, q350 e.Order _ (by omega), Option.bind_some, w64_of (n := (k : Int) + 1 + 1) (by omega) (by omega)]
      cases decide (((k : Int) + 1) ∈ e.Order) <;> rfl)
    simp only [show ((0 : Nat) : Int) + 1 = 1 from rfl] at k
    simp only [cond_false]
    rw [k]
    have hP : engP e ↔ (List.range' 0 e.Order.length).all (fun i => decide (((i : Int) + 1) ∈ e.Order)) = true := by
      rw [all_range']
      simp only [decide_eq_true_eq]
      rw [q537]
      unfold engP
      constructor
      · rintro ⟨_, _, _, _, h5, h6⟩; exact ⟨h5, h6⟩
      · rintro ⟨h5, h6⟩; exact ⟨h1, h2, h3, h4, h5, h6⟩
    rw [dec_of hP]
    cases (List.range' 0 e.Order.length).all (fun i => decide (((i : Int) + 1) ∈ e.Order)) <;> rfl
  · simp only [cond_true]
    rw [decide_eq_false (q565 hh)]
end Go.Pv.Ev
set_option linter.unusedSimpArgs false
namespace Go.Pv
open Go
def k0 : SKnock := ⟨0, 100, 0⟩
def zeroC : SControls := ⟨⟨0, 0, false⟩, ⟨0⟩, [], ⟨false, false, 0, 0, []⟩, 0, ⟨0, 0⟩⟩
def probe0 : SProbe := ⟨false, false, 1000, 0, List.replicate 9 ⟨0, 0⟩⟩
def newC (n : Nat) : SControls := ⟨⟨0, 0, false⟩, ⟨0⟩, List.replicate n k0, probe0, 0, ⟨0, -1⟩⟩
theorem q527 (n : Nat) (h1 : 1 ≤ n) (h8 : n ≤ 8) : q98 [k0] (n : Int) = some (List.replicate n k0) := by
  have key : loopM q195 (1, copyL (List.replicate n ⟨0, 0, 0⟩) [k0]) = some (.inl ((n : Int), List.replicate n k0)) := by
    have : n = 1 ∨ n = 2 ∨ n = 3 ∨ n = 4 ∨ n = 5 ∨ n = 6 ∨ n = 7 ∨ n = 8 := by omega
    rcases this with rfl | rfl | rfl | rfl | rfl | rfl | rfl | rfl
    · exact loopM_out (by rfl)
    · exact (loopM_next (s' := (2, [k0, k0])) (by rfl)).trans (loopM_out (by rfl))
    · exact (loopM_next (s' := (2, [k0, k0, ⟨0, 0, 0⟩])) (by rfl)).trans ((loopM_next (s' := (3, [k0, k0, k0])) (by rfl)).trans (loopM_out (by rfl)))
    · exact (loopM_next (s' := (2, [k0, k0, ⟨0, 0, 0⟩, ⟨0, 0, 0⟩])) (by rfl)).trans ((loopM_next (s' := (4, [k0, k0, k0, k0])) (by rfl)).trans (loopM_out (by rfl)))
    · exact (loopM_next (s' := (2, [k0, k0, ⟨0, 0, 0⟩, ⟨0, 0, 0⟩, ⟨0, 0, 0⟩])) (by rfl)).trans ((loopM_next (s' := (4, [k0, k0, k0, k0, ⟨0, 0, 0⟩])) (by rfl)).trans ((loopM_next (s' := (5, [k0, k0, k0, k0, k0])) (by rfl)).trans (loopM_out (by rfl))))
    · exact (loopM_next (s' := (2, [k0, k0, ⟨0, 0, 0⟩, ⟨0, 0, 0⟩, ⟨0, 0, 0⟩, ⟨0, 0, 0⟩])) (by rfl)).trans ((loopM_next (s' := (4, [k0, k0, k0, k0, ⟨0, 0, 0⟩, ⟨0, 0, 0⟩])) (by rfl)).trans ((loopM_next (s' := (6, [k0, k0, k0, k0, k0, k0])) (by rfl)).trans (loopM_out (by rfl))))
    · exact (loopM_next (s' := (2, [k0, k0, ⟨0, 0, 0⟩, ⟨0, 0, 0⟩, ⟨0, 0, 0⟩, ⟨0, 0, 0⟩, ⟨0, 0, 0⟩])) (by rfl)).trans ((loopM_next (s' := (4, [k0, k0, k0, k0, ⟨0, 0, 0⟩, ⟨0, 0, 0⟩, ⟨0, 0, 0⟩])) (by rfl)).trans ((loopM_next (s' := (7, [k0, k0, k0, k0, k0, k0, k0])) (by rfl)).trans (loopM_out (by rfl))))
    · exact (loopM_next (s' := (2, [k0, k0, ⟨0, 0, 0⟩, ⟨0, 0, 0⟩, ⟨0, 0, 0⟩, ⟨0, 0, 0⟩, ⟨0, 0, 0⟩, ⟨0, 0, 0⟩])) (by rfl)).trans ((loopM_next (s' := (4, [k0, k0, k0, k0, ⟨0, 0, 0⟩, ⟨0, 0, 0⟩, ⟨0, 0, 0⟩, ⟨0, 0, 0⟩])) (by rfl)).trans ((loopM_next (s' := (8, [k0, k0, k0, k0, k0, k0, k0, k0])) (by rfl)).trans (loopM_out (by rfl))))
  have a1 : q300 (IntKind.u64.wrap (([k0] : List SKnock).length : Int)) (IntKind.u64.wrap (n : Int)) = some (0, (n : Int)) := by
    have : n = 1 ∨ n = 2 ∨ n = 3 ∨ n = 4 ∨ n = 5 ∨ n = 6 ∨ n = 7 ∨ n = 8 := by omega
    rcases this with rfl | rfl | rfl | rfl | rfl | rfl | rfl | rfl <;> rfl
  have a2 : makeM (w64 (n : Int)) (⟨0, 0, 0⟩ : SKnock) = some (List.replicate n ⟨0, 0, 0⟩) := by
    have : n = 1 ∨ n = 2 ∨ n = 3 ∨ n = 4 ∨ n = 5 ∨ n = 6 ∨ n = 7 ∨ n = 8 := by omega
    rcases this with rfl | rfl | rfl | rfl | rfl | rfl | rfl | rfl <;> rfl
  have a3 : (((min ([k0] : List SKnock).length (List.replicate n (⟨0, 0, 0⟩ : SKnock)).length : Nat) : Int)) = 1 := by rw [List.length_replicate, List.length_singleton]; omega
  unfold q98
  rw [decide_eq_false (by omega), cond_false, Option.bind_some, a1, Option.bind_some]
  simp only
  rw [decide_eq_false (by omega : ¬ (0 : Int) > 0), decide_eq_false (by omega), Bool.or_false, cond_false, Option.bind_some, a2, Option.bind_some, a3, key]
  rfl
theorem q530 : q351 = some probe0 := rfl
theorem q469 (e : SEngine) : q280 e = some (bif decide (Ev.engP e) then (newC e.Order.length, 0) else (zeroC, 1)) := by
  unfold q280
  rw [Ev.q78, Option.bind_some]
  by_cases h : Ev.engP e
  · rw [decide_eq_true h, Bool.not_true, cond_false]
    have h1 := h.1
    have h8 := h.2.1
    have : q343 (e.Order.length : Int) = some (List.replicate e.Order.length k0, 0) := by
      unfold q343
      rw [decide_eq_false (by omega), decide_eq_false (by omega), Bool.or_false, cond_false, show ([(⟨0, 100, 0⟩ : SKnock)] : List SKnock) = [k0] from rfl, q527 _ h1 h8]
      rfl
    rw [this, q530]
    rfl
  · rw [decide_eq_false h]; rfl
def pedB (p : SPedal) : Bool := decide (0 ≤ p.Value ∧ p.Value ≤ 1000 ∧ 0 ≤ p.Differ ∧ p.Differ ≤ 3 ∧ (p.Fault = true ↔ p.Differ = 3) ∧ (p.Fault = true → p.Value ≤ 200))
theorem ped_eq (p : SPedal) : q206 p = some (pedB p) := by
  obtain ⟨v, d, f⟩ := p
  unfold q206 pedB
  cases f
  · simp only [cond_false, Option.bind_some, Option.some.injEq]
    apply q160
    by_cases q : d = 3 <;> simp [q] <;> omega
  · simp only [cond_true, Option.bind_some, Option.some.injEq]
    apply q160
    by_cases q : d = 3 <;> simp [q] <;> omega
def cellB (c : SCell) : Bool := inR (-100) 100 c.Value && inR 0 1000 c.Count
def mixB (p : SProbe) : Bool := inR 750 1250 p.Factor && inR 0 1000 p.Wait && decide (p.Cells.length = 9) && (p.Active || (decide (p.Factor = 1000) && decide (p.Wait = 0) && !p.Rich)) && p.Cells.all cellB
theorem q552 (c : SCell) : q71 c = some (!cellB c) := by
  unfold q71 cellB
  rw [show q50 c.Value (-100) 100 = some (inR (-100) 100 c.Value) from rfl, show q50 c.Count 0 1000 = some (inR 0 1000 c.Count) from rfl]
  cases inR (-100) 100 c.Value <;> rfl
theorem mix_eq (p : SProbe) : q115 p = some (mixB p) := by
  unfold q115 mixB
  rw [show q50 p.Factor 750 1250 = some (inR 750 1250 p.Factor) from rfl, show q50 p.Wait 0 1000 = some (inR 0 1000 p.Wait) from rfl, Option.bind_some]
  cases inR 750 1250 p.Factor
  · rfl
  cases inR 0 1000 p.Wait
  · rfl
  by_cases h9 : p.Cells.length = 9
  · have : ((p.Cells.length : Int) != 9) = false := by simp; omega
    have k : q96 p.Cells q71 = some (p.Cells.any fun c => !cellB c) := index_any p.Cells (by omega) q71 _ (fun c _ => q552 c)
    rw [this, k, decide_eq_true h9, List.any_eq_not_all_not]
    simp only [Bool.not_true, Bool.not_false, cond_false, cond_true, Option.bind_some, Bool.true_and, Bool.or_false, Bool.not_not]
    cases p.Active
    · have e : ((p.Factor != 1000 || p.Wait != 0) || p.Rich) = !(decide (p.Factor = 1000) && decide (p.Wait = 0) && !p.Rich) := by
        cases p.Rich <;> by_cases a : p.Factor = 1000 <;> by_cases b : p.Wait = 0 <;> simp [a, b]
      simp only [Bool.not_false, cond_true, Option.bind_some, Bool.false_or]
      rw [e]
      cases (decide (p.Factor = 1000) && decide (p.Wait = 0) && !p.Rich) <;> rfl
    · rfl
  · have : ((p.Cells.length : Int) != 9) = true := by simp; omega
    rw [this, decide_eq_false h9]
    rfl
def knB (k : SKnock) : Bool := inR 0 960 k.Retard && inR 0 4095 k.Noise && decide (k.Quiet ≥ 0) && decide (k.Quiet ≤ 99)
theorem kn_eq (k : SKnock) : q210 k = some (knB k) := by
  unfold q210 knB
  rw [show q170 k.Noise = some (inR 0 4095 k.Noise) from rfl, show (decide (k.Retard ≥ 0) && decide (k.Retard ≤ 960)) = inR 0 960 k.Retard from rfl]
  have e : decide (k.Quiet < 100) = decide (k.Quiet ≤ 99) := by apply q160; rw [decide_eq_true_eq, decide_eq_true_eq]; omega
  rw [e]
  cases inR 0 960 k.Retard <;> rfl
def goodB (e : SEngine) (c : SControls) : Bool := decide (Ev.engP e) && pedB c.Pedal && mixB c.Probe && decide (c.Knock.length = e.Order.length) && c.Knock.all knB && inR (-4398046511104) 4398046511104 c.Idle.Sum && inR 0 1073741824 c.Film && inR (-5000) 10000 c.Grant.Torque && inR (-1) 15 c.Grant.Source
theorem good_eq (e : SEngine) (c : SControls) : q147 e c = some (goodB e c) := by
  unfold q147 goodB
  rw [Ev.q78, ped_eq, mix_eq]
  simp only [Option.bind_some]
  by_cases h : Ev.engP e
  · rw [decide_eq_true h]
    cases pedB c.Pedal
    · rfl
    cases mixB c.Probe
    · rfl
    by_cases hl : c.Knock.length = e.Order.length
    · have : ((c.Knock.length : Int) != (e.Order.length : Int)) = false := by simp; omega
      have h8 := h.2.1
      have k : q43 c.Knock q103 = some (c.Knock.any fun k => !knB k) := index_any c.Knock (by omega) q103 _ (fun k _ => by unfold q103; rw [kn_eq]; rfl)
      rw [this, decide_eq_true hl, k, List.any_eq_not_all_not]
      simp only [Bool.not_true, Bool.not_false, cond_false, cond_true, Option.bind_some, Bool.true_and, Bool.or_false, Bool.not_not]
      rw [show q33 c.Idle.Sum (-4398046511104) 4398046511104 = some (inR (-4398046511104) 4398046511104 c.Idle.Sum) from rfl, show q33 c.Film 0 1073741824 = some (inR 0 1073741824 c.Film) from rfl,
        show q33 c.Grant.Torque (-5000) 10000 = some (inR (-5000) 10000 c.Grant.Torque) from rfl, show q33 c.Grant.Source (-1) 15 = some (inR (-1) 15 c.Grant.Source) from rfl]
      cases c.Knock.all knB
      · rfl
      cases inR (-4398046511104) 4398046511104 c.Idle.Sum
      · rfl
      cases inR 0 1073741824 c.Film
      · rfl
      cases inR (-5000) 10000 c.Grant.Torque <;> rfl
    · have : ((c.Knock.length : Int) != (e.Order.length : Int)) = true := by simp; omega
      rw [this, decide_eq_false hl]; rfl
  · rw [decide_eq_false h]; rfl
def reqB (r : SRequest) : Bool := decide (0 ≤ r.Source ∧ r.Source ≤ 15 ∧ 0 ≤ r.Priority ∧ r.Priority ≤ 15 ∧ -5000 ≤ r.Torque ∧ r.Torque ≤ 10000 ∧ (r.Kind = 1 ∨ (r.Source ≤ 1 ∧ (r.Kind = 2 ∨ r.Kind = 3))))
theorem req_eq (r : SRequest) : q93 r = some (reqB r) := by
  obtain ⟨s, k, t, p⟩ := r
  unfold q93 reqB q66
  simp only
  cases hb : ((((decide (s < 0)) || (decide (s > 15))) || (decide (p < 0))) || (decide (p > 15)))
  · rw [cond_false, Option.bind_some, Option.bind_some]
    cases ht : (decide (t ≥ -5000) && decide (t ≤ 10000))
    · rw [Bool.not_false, cond_true, Option.some.injEq]
      symm; rw [decide_eq_false_iff_not]
      simp at hb ht; omega
    · rw [Bool.not_true, cond_false]
      simp at hb ht
      by_cases q : k = 1
      · subst q
        simp; omega
      · have : (k == 1) = false := by simp; exact q
        rw [this, cond_false]
        by_cases z : s ≤ 1
        · rw [decide_eq_true z, cond_true, Option.bind_some, Option.bind_some, Option.some.injEq]
          apply q160
          simp; omega
        · rw [decide_eq_false z, cond_false, Option.bind_some, Option.bind_some, Option.some.injEq]
          symm; rw [decide_eq_false_iff_not]; omega
  · rw [cond_true, Option.bind_some, cond_true, Option.some.injEq]
    symm; rw [decide_eq_false_iff_not]
    simp at hb; omega
def askB (i : SInputs) (n : Int) : Bool := inR 1 8 n && decide ((i.Intensity.length : Int) = n) && decide (i.Requests.length ≤ 30) && inR 0 12000 i.Speed && inR 50 3000 i.Pressure && inR (-40) 150 i.AirTemp && inR (-40) 150 i.Coolant && inR 0 20000 i.Voltage && inR 0 20000 i.Lambda && i.Intensity.all (inR 0 4095) && i.Requests.all reqB
theorem ctl_in (x lo hi : Int) : q33 x lo hi = some (inR lo hi x) := rfl
theorem ask_eq (i : SInputs) (n : Int) : q222 i n = some (askB i n) := by
  unfold q222 askB
  simp only [ctl_in, Option.bind_some]
  cases hn : inR 1 8 n
  · rfl
  have hn' : 1 ≤ n ∧ n ≤ 8 := by unfold inR at hn; simp at hn; omega
  by_cases hl : (i.Intensity.length : Int) = n
  · by_cases hr : i.Requests.length ≤ 30
    · have k : q40 i.Requests q88 = some (i.Requests.any fun k => !reqB k) := index_any i.Requests (by omega) q88 _ (fun k _ => by unfold q88; rw [req_eq]; rfl)
      have h1 : ((i.Intensity.length : Int) != n) = false := by simp; exact hl
      rw [h1, decide_eq_false (by omega), decide_eq_true hl, decide_eq_true hr, k, q193 _ (by omega), List.any_eq_not_all_not]
      simp only [Bool.not_true, Bool.not_false, cond_false, cond_true, Option.bind_some, Bool.true_and, Bool.or_false, Bool.not_not]
      cases inR 0 12000 i.Speed
      · rfl
      cases inR 50 3000 i.Pressure
      · rfl
      cases inR (-40) 150 i.AirTemp
      · rfl
      cases inR (-40) 150 i.Coolant
      · rfl
      cases inR 0 20000 i.Voltage
      · rfl
      cases inR 0 20000 i.Lambda
      · rfl
      cases i.Intensity.all (inR 0 4095) <;> rfl
    · rw [decide_eq_true (by omega : (i.Requests.length : Int) > 30), decide_eq_false hr, Bool.or_true, Bool.and_false]; rfl
  · have h1 : ((i.Intensity.length : Int) != n) = true := by simp; exact hl
    rw [h1, decide_eq_false hl]; rfl
end Go.Pv
set_option linter.unusedSimpArgs false
namespace Go.Pv
open Go
structure PedOk (p : SPedal) : Prop where
  v : 0 ≤ p.Value ∧ p.Value ≤ 1000
  d : 0 ≤ p.Differ ∧ p.Differ ≤ 3
  f : p.Fault = true ↔ p.Differ = 3
  l : p.Fault = true → p.Value ≤ 200
theorem pedOk {p : SPedal} : pedB p = true ↔ PedOk p := by
  unfold pedB
  rw [decide_eq_true_eq]
  exact ⟨fun ⟨a, b, c, d, e, f⟩ => ⟨⟨a, b⟩, ⟨c, d⟩, e, f⟩, fun ⟨⟨a, b⟩, ⟨c, d⟩, e, f⟩ => ⟨a, b, c, d, e, f⟩⟩
def pedV (p : SPedal) (a b : Int) : SPedal :=
  let f := min (max a 0) 1000
  let s := 2 * min (max b 0) 500
  let w := decide (max (f - s) (s - f) > 50)
  let d := if w then min 3 (p.Differ + 1) else if p.Fault then p.Differ else 0
  if d = 3 then ⟨min (min f s) 200, d, true⟩ else if w then ⟨min (min f s) p.Value, d, false⟩ else ⟨f, d, false⟩
theorem q446 {p : SPedal} (h : pedB p = true) (a b : Int) : q249 p a b = some (pedV p a b, 0) ∧ pedB (pedV p a b) = true := by
  have k := pedOk.1 h
  have k1 := k.v; have k2 := k.d; have k3 := k.f; have k4 := k.l
  constructor
  · unfold q249 pedV
    rw [ped_eq, h, q61, q61]
    simp only [Option.bind_some, Bool.not_true, cond_false, minI_eq, maxI_eq]
    have f0 : 0 ≤ min (max a 0) 1000 ∧ min (max a 0) 1000 ≤ 1000 := by omega
    have s0 : 0 ≤ min (max b 0) 500 ∧ min (max b 0) 500 ≤ 500 := by omega
    generalize min (max a 0) 1000 = f at f0
    generalize min (max b 0) 500 = s at s0
    rw [w64_of (n := 2 * s) (by omega) (by omega), w64_of (n := f - 2 * s) (by omega) (by omega), w64_of (n := 2 * s - f) (by omega) (by omega), w64_of (n := p.Differ + 1) (by omega) (by omega)]
    cases hw : decide (max (f - 2 * s) (2 * s - f) > 50)
    · simp only [cond_false, Bool.false_eq_true, if_false]
      cases hf : p.Fault
      · simp only [Bool.not_false, cond_true, Option.bind_some, Bool.false_eq_true, if_false]
        rfl
      · have := k3.1 hf
        simp only [Bool.not_true, cond_false, Option.bind_some, if_true]
        rw [this]
        rfl
    · simp only [cond_true, Option.bind_some, if_true]
      by_cases hd : min 3 (p.Differ + 1) = 3
      · rw [hd]; rfl
      · rw [if_neg hd, show (min 3 (p.Differ + 1) == 3) = false from beq_eq_false_iff_ne.2 hd]; rfl
  · rw [pedOk]
    unfold pedV
    simp only
    have f0 : 0 ≤ min (max a 0) 1000 ∧ min (max a 0) 1000 ≤ 1000 := by omega
    have s0 : 0 ≤ min (max b 0) 500 ∧ min (max b 0) 500 ≤ 500 := by omega
    generalize min (max a 0) 1000 = f at f0
    generalize min (max b 0) 500 = s at s0
    have hd : ∀ w : Bool, 0 ≤ (if w = true then min 3 (p.Differ + 1) else if p.Fault = true then p.Differ else 0) ∧ (if w = true then min 3 (p.Differ + 1) else if p.Fault = true then p.Differ else 0) ≤ 3 := by
      intro w; split
      · omega
      · split <;> omega
    have hd := hd (decide (max (f - 2 * s) (2 * s - f) > 50))
    generalize (if decide (max (f - 2 * s) (2 * s - f) > 50) = true then min 3 (p.Differ + 1) else if p.Fault = true then p.Differ else 0) = d at hd
    by_cases h3 : d = 3
    · rw [if_pos h3]; exact ⟨by simp only; omega, hd, ⟨fun _ => h3, fun _ => rfl⟩, fun _ => by simp only; omega⟩
    · rw [if_neg h3]
      split
      · exact ⟨by simp only; omega, hd, ⟨fun h => (by cases h), fun h => absurd h h3⟩, fun h => (by cases h)⟩
      · exact ⟨by simp only; omega, hd, ⟨fun h => (by cases h), fun h => absurd h h3⟩, fun h => (by cases h)⟩
noncomputable def wishV (t : STables) (v s : Int) : Int := min (max (sAt t.Wish s v) (-5000)) 10000
theorem wish_eq {t : STables} (h : mapB t.Wish = true) {v s : Int} (v0 : 0 ≤ v ∧ v ≤ 1000) (s0 : 0 ≤ s ∧ s ≤ 12000) : q255 t v s = some (wishV t v s, 0) := by
  unfold q255
  rw [q78, h, sAt_eq h]
  simp only [Option.bind_some, Bool.not_true, cond_false]
  rw [show (((decide (v < 0)) || (decide (v > 1000))) || (decide (s < 0))) = false by simp only [Bool.or_eq_false_iff, decide_eq_false_iff_not]; omega, show decide (s > 12000) = false from decide_eq_false (by omega), q61, minI_eq, maxI_eq]
  rfl
theorem q515 (t : STables) (v s : Int) : -5000 ≤ wishV t v s ∧ wishV t v s ≤ 10000 := by unfold wishV; omega
def tgtV (c : Int) : Int := if c ≤ -20 then 1200 else if c ≥ 70 then 800 else 1200 - 400 * (c + 20) / 90
theorem tgt_eq {c : Int} (h : -40 ≤ c ∧ c ≤ 150) : q162 c = some (tgtV c) ∧ 800 ≤ tgtV c ∧ tgtV c ≤ 1200 := by
  unfold q162 tgtV
  by_cases h1 : c ≤ -20
  · rw [decide_eq_true h1, if_pos h1]; exact ⟨rfl, by omega, by omega⟩
  · by_cases h2 : c ≥ 70
    · rw [decide_eq_false h1, decide_eq_true h2, if_neg h1, if_pos h2]; exact ⟨rfl, by omega, by omega⟩
    · rw [decide_eq_false h1, decide_eq_false h2, if_neg h1, if_neg h2, w64_of (n := c + 20) (by omega) (by omega), w64_of (n := 400 * (c + 20)) (by omega) (by omega), Int.tdiv_eq_ediv_of_nonneg (by omega), w64_of (n := 400 * (c + 20) / 90) (by omega) (by omega), w64_of (by omega) (by omega)]
      exact ⟨rfl, by omega, by omega⟩
def actV (v s c : Int) : Bool := inR 0 19 v && (inR 0 12000 s && decide (s < tgtV c + 300))
theorem act_eq {v s c : Int} (h : -40 ≤ c ∧ c ≤ 150) : q209 v s c = some (actV v s c) := by
  obtain ⟨h1, h2⟩ := tgt_eq h
  unfold q209 q403 actV
  rw [h1, show (decide (v ≥ 0) && decide (v < 20)) = inR 0 19 v by unfold inR; congr 1; rw [decide_eq_decide]; omega, show q135 s = some (inR 0 12000 s) from rfl]
  simp only [Option.bind_some]
  rw [w64_of (by omega) (by omega)]
  cases inR 0 19 v <;> cases inR 0 12000 s <;> rfl
def sumOk (s : SIntegral) : Prop := -4398046511104 ≤ s.Sum ∧ s.Sum ≤ 4398046511104
theorem ictl_eq {s : SIntegral} {g : SGain} (hg : gainB g = true) (hs : sumOk s) {e : Int} (e0 : -1048576 ≤ e ∧ e ≤ 1048576) : ∃ s' u, q189 s g e = some (s', u, 0) ∧ sumOk s' := by
  have hs' := hs
  unfold sumOk at hs'
  unfold q189
  rw [show q62 g = some (gainB g) from rfl, hg]
  simp only [Option.bind_some]
  rw [show ((!true || decide (s.Sum < (-4398046511104))) || decide (s.Sum > 4398046511104)) = false by simp only [Bool.not_true, Bool.false_or, Bool.or_eq_false_iff, decide_eq_false_iff_not]; omega]
  rw [show (decide (e < (-1048576)) || decide (e > 1048576)) = false by simp only [Bool.or_eq_false_iff, decide_eq_false_iff_not]; omega]
  simp only [cond_false]
  generalize bitShr .i64 (w64 ((w64 (g.P * e)) + s.Sum)) 10 = u
  generalize (decide (u ≤ g.High) || decide (e ≤ 0)) = A
  generalize (decide (u ≥ g.Low) || decide (e ≥ 0)) = B
  cases A
  · exact ⟨s, _, rfl, hs⟩
  · cases B
    · exact ⟨s, _, rfl, hs⟩
    · refine ⟨⟨_⟩, _, rfl, ?_⟩
      unfold sumOk
      simp only [minI_eq, maxI_eq]
      omega
theorem q561 {s : SIntegral} {g : SGain} (hg : gainB g = true) (hs : sumOk s) {c v : Int} (c0 : -40 ≤ c ∧ c ≤ 150) (v0 : 0 ≤ v ∧ v ≤ 12000) : ∃ s' u, q150 s g (tgtV c) v = some (s', u, 0) ∧ sumOk s' := by
  obtain ⟨_, t0, t1⟩ := tgt_eq c0
  obtain ⟨s', u, h1, h2⟩ := ictl_eq hg hs (e := tgtV c - v) (by omega)
  refine ⟨s', u, ?_, h2⟩
  unfold q150
  rw [show q62 g = some (gainB g) from rfl, hg, show q135 (tgtV c) = some (inR 0 12000 (tgtV c)) from rfl, show q135 v = some (inR 0 12000 v) from rfl, in_true (show 0 ≤ tgtV c by omega) (by omega), in_true v0.1 v0.2, w64_of (by omega) (by omega)]
  simp only [Option.bind_some, Bool.not_true, cond_false]
  rw [h1]; rfl
structure KnOk (k : SKnock) : Prop where
  r : 0 ≤ k.Retard ∧ k.Retard ≤ 960
  n : 0 ≤ k.Noise ∧ k.Noise ≤ 4095
  q : 0 ≤ k.Quiet ∧ k.Quiet ≤ 99
theorem knOk {k : SKnock} : knB k = true ↔ KnOk k := by
  unfold knB
  simp only [Bool.and_eq_true, inR_iff, decide_eq_true_eq]
  exact ⟨fun ⟨⟨⟨a, b⟩, c⟩, d⟩ => ⟨a, b, c, d⟩, fun ⟨a, b, c, d⟩ => ⟨⟨⟨a, b⟩, c⟩, d⟩⟩
def kst (k : SKnock) (n : Int) : SKnock :=
  if n > 3 * k.Noise + 40 then ⟨min (k.Retard + 96) 960, k.Noise, 0⟩
  else if k.Quiet + 1 = 100 then ⟨max (k.Retard - 16) 0, k.Noise + (n - k.Noise) / 8, 0⟩ else ⟨k.Retard, k.Noise + (n - k.Noise) / 8, k.Quiet + 1⟩
theorem kst_eq {k : SKnock} {n : Int} (h : knB k = true) (n0 : inR 0 4095 n = true) : (∃ b, q248 k n = some (kst k n, b)) ∧ knB (kst k n) = true := by
  have o := knOk.1 h
  have o1 := o.r; have o2 := o.n; have o3 := o.q
  have n1 := inR_iff.1 n0
  constructor
  · unfold q248 kst
    rw [w64_of (n := 3 * k.Noise) (by omega) (by omega), w64_of (n := 3 * k.Noise + 40) (by omega) (by omega)]
    by_cases h1 : n > 3 * k.Noise + 40
    · rw [decide_eq_true h1, if_pos h1, w64_of (n := k.Retard + 96) (by omega) (by omega), minI_eq]
      exact ⟨_, rfl⟩
    · rw [decide_eq_false h1, if_neg h1, w64_of (n := k.Quiet + 1) (by omega) (by omega), w64_of (n := k.Retard - 16) (by omega) (by omega), w64_of (n := n - k.Noise) (by omega) (by omega), q373 _ _ (by omega) (by omega) (by omega) (by omega), maxI_eq]
      by_cases h2 : k.Quiet + 1 = 100
      · rw [show (k.Quiet + 1 == 100) = true from beq_iff_eq.2 h2, if_pos h2]
        simp only [cond_false, cond_true, Option.bind_some]
        rw [w64_of (by omega) (by omega)]
        exact ⟨_, rfl⟩
      · rw [show (k.Quiet + 1 == 100) = false from beq_eq_false_iff_ne.2 h2, if_neg h2]
        simp only [cond_false, cond_true, Option.bind_some]
        rw [w64_of (by omega) (by omega)]
        exact ⟨_, rfl⟩
  · rw [knOk]
    unfold kst
    split
    · exact ⟨by simp only; omega, by simp only; omega, by simp only; omega⟩
    · split
      · exact ⟨by simp only; omega, by simp only; omega, by simp only; omega⟩
      · exact ⟨by simp only; omega, by simp only; omega, by simp only; omega⟩
def ksV (l : List SKnock) (m : List Int) : List SKnock := List.zipWith kst l m
theorem ks_eq {l : List SKnock} {m : List Int} (h : l.all knB = true) (hm : m.all (inR 0 4095) = true) (hl : 1 ≤ l.length ∧ l.length ≤ 8) (he : m.length = l.length) :
    q290 l m = some (ksV l m, 0) ∧ (ksV l m).all knB = true ∧ (ksV l m).length = l.length := by
  rw [List.all_eq_true] at h hm
  have hlen : (ksV l m).length = l.length := by unfold ksV; rw [List.length_zipWith]; omega
  have hget : ∀ j (h1 : j < l.length) (h2 : j < m.length), (ksV l m)[j]? = some (kst l[j] m[j]) := by
    intro j h1 h2
    unfold ksV
    rw [List.getElem?_zipWith, List.getElem?_eq_getElem h1, List.getElem?_eq_getElem h2]
  have hk : ∀ j (h1 : j < l.length) (h2 : j < m.length), (∃ b, q248 l[j] m[j] = some (kst l[j] m[j], b)) ∧ knB (kst l[j] m[j]) = true := fun j h1 h2 => kst_eq (h _ (List.getElem_mem h1)) (hm _ (List.getElem_mem h2))
  refine ⟨?_, ?_, hlen⟩
  · have a1 : q43 l q159 = some (l.any fun k => !knB k) := index_any l (by omega) q159 _ (fun k _ => by unfold q159; rw [kn_eq]; rfl)
    have a2 : q20 m q216 = some (m.any fun k => !inR 0 4095 k) := q81 m (by omega) q216 _ (fun k _ => rfl)
    have b1 : (l.any fun k => !knB k) = false := by rw [List.any_eq_false]; intro x hx; rw [h x hx]; simp
    have b2 : (m.any fun k => !inR 0 4095 k) = false := by rw [List.any_eq_false]; intro x hx; rw [hm x hx]; simp
    unfold q290
    rw [show (((decide ((l.length : Int) < 1)) || (decide ((l.length : Int) > 8))) || ((m.length : Int) != (l.length : Int))) = false by simp; omega, a1, b1, a2, b2]
    simp only [cond_false, Option.bind_some]
    unfold q166
    rw [appendM_ok _ _ (by simp; omega)]
    simp only [Option.bind_some, List.nil_append]
    obtain ⟨u, e, hu⟩ := rangeN_inv l.length (by omega) (q332 l m) (fun i u => u.length = l.length ∧ ∀ j, j < i → u[j]? = (ksV l m)[j]?) l ⟨rfl, fun j hj => by omega⟩ (fun j hj u hu => by
      obtain ⟨⟨b, hb⟩, _⟩ := hk j hj (by omega)
      unfold q332
      rw [getI_get _ _ hj, getI_get _ _ (show j < m.length by omega)]
      simp only [Option.bind_some]
      rw [hb]
      simp only [Option.bind_some]
      rw [getI_get _ _ (by omega)]
      simp only [Option.bind_some]
      rw [setM_nat _ _ _ (by omega)]
      refine ⟨_, rfl, by simp [hu.1], fun i hi => ?_⟩
      rcases Nat.lt_or_ge i j with h | h
      · rw [List.getElem?_set_ne (by omega)]; exact hu.2 i h
      · have : i = j := by omega
        subst this
        rw [List.getElem?_set_self (by omega), hget i hj (by omega)])
    rw [e]
    have : u = ksV l m := by
      apply List.ext_getElem?
      intro i
      rcases Nat.lt_or_ge i l.length with h | h
      · exact hu.2 i h
      · rw [List.getElem?_eq_none (by omega), List.getElem?_eq_none (by omega)]
    rw [this]
    rfl
  · rw [List.all_eq_true]
    intro x hx
    obtain ⟨j, hj, rfl⟩ := List.mem_iff_getElem.1 hx
    have h1 : j < l.length := by omega
    have := hget j h1 (by omega)
    rw [List.getElem?_eq_getElem hj] at this
    rw [Option.some.inj this]
    exact (hk j h1 (by omega)).2
structure MixOk (p : SProbe) : Prop where
  f : 750 ≤ p.Factor ∧ p.Factor ≤ 1250
  w : 0 ≤ p.Wait ∧ p.Wait ≤ 1000
  n : p.Cells.length = 9
  a : p.Active = true ∨ (p.Factor = 1000 ∧ p.Wait = 0 ∧ p.Rich = false)
  c : p.Cells.all cellB = true
theorem mixOk {p : SProbe} : mixB p = true ↔ MixOk p := by
  unfold mixB
  simp only [Bool.and_eq_true, inR_iff, decide_eq_true_eq, Bool.or_eq_true, Bool.not_eq_true']
  exact ⟨fun ⟨⟨⟨⟨a, b⟩, c⟩, d⟩, e⟩ => ⟨a, b, c, d.imp_right (fun h => ⟨h.1.1, h.1.2, h.2⟩), e⟩, fun ⟨a, b, c, d, e⟩ => ⟨⟨⟨⟨a, b⟩, c⟩, d.imp_right (fun h => ⟨⟨h.1, h.2.1⟩, h.2.2⟩)⟩, e⟩⟩
def mxR (p : SProbe) (m : Int) : Bool := decide (m > 500) || (decide (m ≥ 400) && p.Rich)
def mxV (p : SProbe) (m : Int) : SProbe :=
  bif p.Active then
    (bif mxR p m == p.Rich then ⟨true, mxR p m, min (max (p.Factor + bif mxR p m then -1 else 1) 750) 1250, min 1000 (p.Wait + 1), p.Cells⟩
    else ⟨true, mxR p m, min (max (p.Factor + bif mxR p m then -15 else 15) 750) 1250, 0, p.Cells⟩)
  else ⟨decide (m < 300) || decide (m > 600), decide (m > 600), p.Factor, p.Wait, p.Cells⟩
theorem m_in (x lo hi : Int) : q50 x lo hi = some (inR lo hi x) := rfl
theorem q497 (s c : Int) : q113 s c = some (inR 0 12000 s && inR 0 1048576 c) := by
  unfold q113
  rw [m_in, m_in]
  cases inR 0 12000 s <;> rfl
theorem q476 {p : SProbe} (h : mixB p = true) {m s c : Int} (m0 : 0 ≤ m ∧ m ≤ 20000) (s0 : 0 ≤ s ∧ s ≤ 12000) (c0 : 0 ≤ c ∧ c ≤ 1048576) : q148 p m s c = some (mxV p m, 0) ∧ mixB (mxV p m) = true := by
  have k := mixOk.1 h
  have k1 := k.f; have k2 := k.w; have k3 := k.n
  constructor
  · unfold q148 q272 q188 mxV
    rw [mix_eq, h, q497, in_true s0.1 s0.2, in_true c0.1 c0.2, m_in, in_true m0.1 m0.2, appendM_ok _ _ (by simp; omega)]
    simp only [Option.bind_some, Bool.not_true, cond_false, Bool.and_self, List.nil_append]
    cases ha : p.Active
    · rfl
    · simp only [Bool.not_true, cond_false, cond_true]
      have hr : (bif (decide (m > 500)) then (some true) else (some ((decide (m ≥ 400)) && p.Rich))) = some (mxR p m) := by unfold mxR; cases decide (m > 500) <;> rfl
      rw [hr, w64_of (n := p.Wait + 1) (by omega) (by omega)]
      simp only [Option.bind_some, minI_eq]
      cases mxR p m == p.Rich
      · simp only [Bool.not_false, cond_true, cond_false, Option.bind_some]
        cases mxR p m
        · simp only [cond_false, Option.bind_some, q61, minI_eq, maxI_eq]
          rw [w64_of (by omega) (by omega)]
        · simp only [cond_true, Option.bind_some, q61, minI_eq, maxI_eq]
          rw [w64_of (n := 0 - 15) (by omega) (by omega), w64_of (by omega) (by omega)]
          rfl
      · simp only [Bool.not_true, cond_true, cond_false, Option.bind_some]
        cases mxR p m
        · simp only [cond_false, Option.bind_some, q61, minI_eq, maxI_eq]
          rw [w64_of (by omega) (by omega)]
        · simp only [cond_true, Option.bind_some, q61, minI_eq, maxI_eq]
          rw [w64_of (n := 0 - 1) (by omega) (by omega), w64_of (by omega) (by omega)]
          rfl
  · rw [mixOk]
    unfold mxV
    cases ha : p.Active
    · have a := k.a
      rw [ha] at a
      obtain ⟨a1, a2, a3⟩ := a.resolve_left (by simp)
      refine ⟨k1, k2, k3, ?_, k.c⟩
      by_cases hm : m > 600
      · exact .inl (by show (decide (m < 300) || decide (m > 600)) = true; rw [decide_eq_true hm, Bool.or_true])
      · exact .inr ⟨a1, a2, decide_eq_false hm⟩
    · simp only [cond_true]
      cases mxR p m == p.Rich
      · exact ⟨by simp only [cond_false]; omega, by simp only [cond_false]; omega, k3, .inl rfl, k.c⟩
      · exact ⟨by simp only [cond_true]; omega, by simp only [cond_true]; omega, k3, .inl rfl, k.c⟩
def clsV (x a b : Int) : Nat := if x ≥ b then 2 else if x ≥ a then 1 else 0
theorem cls_eq (x a b : Int) (hab : a ≤ b) : q156 x [a, b] = some (clsV x a b : Int) := by
  have w1 : w64 ((0 : Int) + 1) = 1 := by decide
  have w2 : w64 ((1 : Int) + 1) = 2 := by decide
  unfold q156 clsV
  rw [rangeM_steps _ (by simp)]
  simp only [stepsL, q315]
  by_cases h1 : x ≥ a
  · by_cases h2 : x ≥ b
    · rw [decide_eq_true h1, decide_eq_true h2, if_pos h2]
      simp only [cond_true, Option.bind_some, w1, w2]; rfl
    · rw [decide_eq_true h1, decide_eq_false h2, if_neg h2, if_pos h1]
      simp only [cond_true, cond_false, Option.bind_some, w1]; rfl
  · have h2 : ¬ x ≥ b := by omega
    rw [decide_eq_false h1, decide_eq_false h2, if_neg h2, if_neg h1]
    simp only [cond_false, Option.bind_some]; rfl
theorem q479 (x a b : Int) : clsV x a b ≤ 2 := by unfold clsV; split; omega; split <;> omega
def cellV (s c : Int) : Nat := 3 * clsV s 1500 3500 + clsV c 150000 350000
def facV (p : SProbe) (s c : Int) : Int := min (max (p.Factor + (p.Cells.getD (cellV s c) ⟨0, 0⟩).Value) 700) 1300
theorem fac_eq {p : SProbe} (h : mixB p = true) {s c : Int} (s0 : 0 ≤ s ∧ s ≤ 12000) (c0 : 0 ≤ c ∧ c ≤ 1048576) : q194 p s c = some (facV p s c, 0) := by
  have k := mixOk.1 h
  have k1 := k.f; have k3 := k.n
  have q1 := q479 s 1500 3500
  have q2 := q479 c 150000 350000
  have hc : cellV s c < p.Cells.length := by unfold cellV; omega
  have hcell := List.all_eq_true.1 k.c _ (List.getElem_mem hc)
  unfold cellB at hcell
  rw [Bool.and_eq_true, inR_iff] at hcell
  have hv := hcell.1
  unfold q194 q326
  rw [mix_eq, h, q497, in_true s0.1 s0.2, in_true c0.1 c0.2, cls_eq _ _ _ (by omega), cls_eq _ _ _ (by omega)]
  simp only [Option.bind_some, Bool.not_true, cond_false, Bool.and_self]
  rw [w64_of (n := 3 * (clsV s 1500 3500 : Int)) (by omega) (by omega), w64_of (by omega) (by omega), show 3 * (clsV s 1500 3500 : Int) + (clsV c 150000 350000 : Int) = ((cellV s c : Nat) : Int) by unfold cellV; omega, getI_get _ _ hc]
  simp only [Option.bind_some]
  unfold facV
  rw [w64_of (by omega) (by omega), q61, minI_eq, maxI_eq, List.getD_eq_getElem?_getD, List.getElem?_eq_getElem hc]
  rfl
theorem q531 (p : SProbe) (s c : Int) : 700 ≤ facV p s c ∧ facV p s c ≤ 1300 := by unfold facV; omega
theorem f_in (x lo hi : Int) : fuel_in x lo hi = some (inR lo hi x) := rfl
theorem q562 {c : Int} (c0 : 0 ≤ c ∧ c ≤ 1048576) : q344 c 1000 = some (c * 10000 / 147000, 0) := by
  unfold q344
  rw [f_in, f_in, in_true c0.1 c0.2, show inR 500 2000 1000 = true from rfl]
  simp only [Option.bind_some, Bool.not_true, cond_false]
  rw [w64_of (n := c * 10000) (by omega) (by omega), w64_of (n := 1000 * 147) (by omega) (by omega), quoE (by omega) (by omega) (by omega)]
  rfl
theorem q494 {b : SBody} (h : bodyB b = true) : q291 b = some true := by
  have k := bodyOk h
  have k1 := k.fi; have k2 := k.ev
  unfold q291
  rw [f_in, f_in, in_true k1.1 k1.2, in_true (show 0 ≤ b.Evaporate by omega) k2.2]
  rfl
def wallV (b : SBody) (i : Int) : Int := i * b.Film / 1024
def leaveV (b : SBody) (f : Int) : Int := f * b.Evaporate / 1024
theorem q449 {b : SBody} (h : bodyB b = true) {i : Int} (i0 : 0 ≤ i) : 0 ≤ wallV b i ∧ wallV b i ≤ i := by
  have k := (bodyOk h).fi
  have b1 := prod_le (A := i) i0 (Int.le_refl i) k.1 k.2
  unfold wallV; omega
theorem q275 {b : SBody} (h : bodyB b = true) {i : Int} (i0 : 0 ≤ i) : 0 ≤ leaveV b i ∧ leaveV b i ≤ i := by
  have k := (bodyOk h).ev
  have b1 := prod_le (A := i) i0 (Int.le_refl i) (show 0 ≤ b.Evaporate by omega) k.2
  unfold leaveV; omega
theorem q439 {b : SBody} (h : bodyB b = true) {f i : Int} (f0 : 0 ≤ f ∧ f ≤ 1073741824) (i0 : 0 ≤ i ∧ i ≤ 1048576) : q239 b f i = some (i - wallV b i + leaveV b f, f + wallV b i - leaveV b f) := by
  have k := bodyOk h
  have k1 := k.fi; have k2 := k.ev
  have b1 := prod_le i0.1 i0.2 k1.1 k1.2
  have b2 := prod_le f0.1 f0.2 (show 0 ≤ b.Evaporate by omega) k2.2
  have r1 := q449 h i0.1
  have r2 := q275 h f0.1
  have e1 : w64 (Int.tdiv (w64 (i * b.Film)) 1024) = wallV b i := by
    unfold wallV at r1 ⊢
    rw [w64_of (n := i * b.Film) (by omega) (by omega), Int.tdiv_eq_ediv_of_nonneg b1.1, w64_of (by omega) (by omega)]
  have e2 : w64 (Int.tdiv (w64 (f * b.Evaporate)) 1024) = leaveV b f := by
    unfold leaveV at r2 ⊢
    rw [w64_of (n := f * b.Evaporate) (by omega) (by omega), Int.tdiv_eq_ediv_of_nonneg b2.1, w64_of (by omega) (by omega)]
  unfold q239
  rw [e1, e2, w64_of (n := i - wallV b i) (by omega) (by omega), w64_of (n := f + wallV b i) (by omega) (by omega), w64_of (by omega) (by omega), w64_of (by omega) (by omega)]
theorem q541 {b : SBody} (h : bodyB b = true) {f : Int} (f0 : 0 ≤ f ∧ f ≤ 1073741824) : q285 b f 0 = some (leaveV b f, f - leaveV b f, 0) := by
  have r2 := q275 h f0.1
  have e0 : wallV b 0 = 0 := by unfold wallV; rw [Int.zero_mul]; rfl
  unfold q285
  rw [q494 h, f_in, f_in, in_true f0.1 f0.2, show inR 0 1048576 0 = true from rfl, q439 h f0 ⟨by omega, by omega⟩, e0]
  simp only [Option.bind_some, Bool.not_true, cond_false]
  rw [decide_eq_false (show ¬ (f + 0 - leaveV b f > 1073741824) by omega), show (0 : Int) - 0 + leaveV b f = leaveV b f by omega, show f + 0 - leaveV b f = f - leaveV b f by omega]
  rfl
theorem find_b1 (f : Int → Option Int) : q319 f = q63 (fun x => Option.bind (f x) fun v => some (!decide (v > 0))) := by
  funext s
  unfold q319 q63
  cases decide (s.1 < s.2)
  · rfl
  · simp only [cond_true]
    cases f (w64 (bitShr .u64 (IntKind.u64.wrap (w64 (s.1 + s.2))) 1)) with
    | none => rfl
    | some v => simp only [Option.bind_some, Bool.not_not]
theorem q536 (n : Nat) (hn : n ≤ 2305843009213693951) (f : Int → Option Int) (g : Nat → Int) (hf : ∀ i, i < n → f (i : Int) = some (g i)) :
    ∃ (k : Nat) (b : Bool), k ≤ n ∧ q286 (n : Int) f = some ((k : Int), b) ∧ (0 < k → g (k - 1) > 0) ∧ (k < n → g k ≤ 0) := by
  obtain ⟨k, k1, k2, k3, k4⟩ := q132 n hn (fun x => Option.bind (f x) fun v => some (!decide (v > 0))) (fun i => !decide (g i > 0)) (fun i hi => by simp only [hf i hi, Option.bind_some])
  unfold q45 at k2
  have h3 : 0 < k → g (k - 1) > 0 := fun h => by have := k3 h; simp at this; omega
  have h4 : k < n → g k ≤ 0 := fun h => by have := k4 h; simp at this; omega
  unfold q286
  rw [find_b1]
  cases hl : loopM (q63 (fun x => Option.bind (f x) fun v => some (!decide (v > 0)))) (0, (n : Int)) with
  | none => rw [hl] at k2; cases k2
  | some t =>
    rw [hl] at k2
    cases t with
    | inr r => exact r.elim
    | inl s2 =>
      simp only [Option.bind_some, Option.some.injEq] at k2
      simp only [Option.bind_some]
      rw [k2]
      rcases Nat.lt_or_ge k n with h | h
      · rw [decide_eq_true (show (k : Int) < (n : Int) by omega), hf k h]
        exact ⟨k, _, k1, rfl, h3, h4⟩
      · rw [decide_eq_false (show ¬ (k : Int) < (n : Int) by omega)]
        exact ⟨k, _, k1, rfl, h3, h4⟩
structure WantOk (b : SBody) (f m i x e : Int) : Prop where
  out : e = 0 ∨ e = 9
  inj : e = 0 → 0 ≤ i ∧ i ≤ 1048576
  film : e = 0 → x = f + wallV b i - leaveV b f
  ran : e = 0 → 0 ≤ x ∧ x ≤ 1073741824
  fit : e = 0 → m ≤ i - wallV b i + leaveV b f
  low : e = 0 → 0 < i → (i - 1) - wallV b (i - 1) + leaveV b f < m
  big : e = 9 → 1048576 - wallV b 1048576 + leaveV b f < m ∨ ∃ j, 0 ≤ j ∧ j ≤ 1048576 ∧ m ≤ j - wallV b j + leaveV b f ∧ (0 < j → (j - 1) - wallV b (j - 1) + leaveV b f < m) ∧ 1073741824 < f + wallV b j - leaveV b f
theorem q566 {b : SBody} (h : bodyB b = true) {f m : Int} (f0 : 0 ≤ f ∧ f ≤ 1073741824) (m0 : 0 ≤ m ∧ m ≤ 1048576) : ∃ i x e, q241 b f m = some (i, x, e) ∧ WantOk b f m i x e := by
  have r2 := q275 h f0.1
  have r1 : ∀ i : Int, 0 ≤ i → 0 ≤ wallV b i ∧ wallV b i ≤ i := fun i hi => q449 h hi
  unfold q241
  rw [q494 h, f_in, f_in, in_true f0.1 f0.2, in_true m0.1 m0.2]
  simp only [Option.bind_some, Bool.not_true, cond_false]
  obtain ⟨k, q, k1, k2, k3, k4⟩ := q536 1048577 (by omega) (fun x0 => q161 x0 b f m) (fun i => m - ((i : Int) - wallV b (i : Int) + leaveV b f)) (fun i hi => by
    have := r1 (i : Int) (by omega)
    unfold q161
    rw [q439 h f0 ⟨by omega, by omega⟩]
    simp only [Option.bind_some]
    rw [w64_of (by omega) (by omega)])
  have k2' : q286 1048577 (fun x0 => q161 x0 b f m) = some ((k : Int), q) := k2
  rw [k2']
  simp only [Option.bind_some]
  by_cases hk : k = 1048577
  · subst hk
    refine ⟨0, 0, 9, rfl, .inr rfl, fun h => (by cases h), fun h => (by cases h), fun h => (by cases h), fun h => (by cases h), fun h => (by cases h), fun _ => .inl ?_⟩
    have := k3 (by omega)
    rw [show (((1048577 - 1 : Nat) : Int)) = 1048576 by omega] at this
    omega
  · have k4' := k4 (by omega)
    have rk := r1 (k : Int) (by omega)
    rw [decide_eq_false (show ¬ ((k : Int) > 1048576) by omega), q439 h f0 ⟨by omega, by omega⟩]
    simp only [cond_false, Option.bind_some]
    have hlow : 0 < (k : Int) → ((k : Int) - 1) - wallV b ((k : Int) - 1) + leaveV b f < m := fun hp => by
      have := k3 (by omega)
      rw [show ((k - 1 : Nat) : Int) = (k : Int) - 1 by omega] at this
      omega
    by_cases hb : f + wallV b (k : Int) - leaveV b f > 1073741824
    · rw [decide_eq_true hb]
      exact ⟨0, 0, 9, rfl, .inr rfl, fun h => (by cases h), fun h => (by cases h), fun h => (by cases h), fun h => (by cases h), fun h => (by cases h), fun _ => .inr ⟨(k : Int), by omega, by omega, by omega, hlow, by omega⟩⟩
    · rw [decide_eq_false hb]
      exact ⟨(k : Int), _, 0, rfl, .inl rfl, fun _ => ⟨by omega, by omega⟩, fun _ => rfl, fun _ => ⟨by omega, by omega⟩, fun _ => by omega, fun _ => hlow, fun h => (by cases h)⟩
theorem dead_eq {t : STables} (h : (curB t.Dead && t.Dead.Y.all (inR 0 10000)) = true) {a v : Int} (a0 : 0 ≤ a ∧ a ≤ 1048576) (v0 : 0 ≤ v ∧ v ≤ 20000) : q349 t a v = some (cAt t.Dead v, 0) ∧ 0 ≤ cAt t.Dead v ∧ cAt t.Dead v ≤ 10000 := by
  rw [Bool.and_eq_true] at h
  obtain ⟨h1, h2⟩ := h
  have hl := (curOk h1).yl
  have hx := (curOk h1).x.most
  have hb := q374 h1 v (y_in h1 h2)
  refine ⟨?_, hb⟩
  have e : q20 t.Dead.Y q278 = some (t.Dead.Y.any fun y => !inR 0 10000 y) := q81 _ (by omega) _ _ (fun y _ => rfl)
  have e2 : (t.Dead.Y.any fun y => !inR 0 10000 y) = false := by
    rw [List.any_eq_false]
    intro y hy
    rw [List.all_eq_true.1 h2 y hy]; simp
  unfold q349
  rw [q64, h1, e, e2, f_in, f_in, in_true a0.1 a0.2, in_true v0.1 v0.2, cAt_eq h1]
  rfl
def upV3 (m : Int) : Int := -((-m) / 3)
theorem q556 {t : STables} (h : (curB t.Dead && t.Dead.Y.all (inR 0 10000)) = true) {a v : Int} (a0 : 0 < a ∧ a ≤ 1048576) (v0 : 0 ≤ v ∧ v ≤ 20000) : q284 t a v = some (cAt t.Dead v + upV3 a, 0) := by
  obtain ⟨h1, h2⟩ := dead_eq h (a := a) (by omega) v0
  unfold q284 q185 upV3
  rw [h1, q413 _ _ 2 (by omega) (by omega) (by omega) (by omega) (.inr rfl)]
  simp only [Option.bind_some]
  rw [show (((0 : Int) != 0) || (a == 0)) = false by rw [Bool.or_eq_false_iff]; exact ⟨rfl, beq_eq_false_iff_ne.2 (by omega)⟩]
  simp only [cond_false]
  rw [if_neg (by decide), w64_of (by omega) (by omega)]
theorem q268 (x lo hi : Int) : q74 x lo hi = some (inR lo hi x) := rfl
theorem q397 (l : List Int) (h : l.length ≤ 9223372036854775807) (lo hi : Int) : q114 l lo hi = some (!l.all (inR lo hi)) := by
  unfold q114
  rw [q81 l h (fun x0 => q173 x0 lo hi) (fun x => !inR lo hi x) (fun y _ => rfl), Option.bind_some, List.any_eq_not_all_not]
  simp only [Bool.not_not]
theorem q498 {t : STables} (h : sparkB t = true) (ht : torB t = true) : q217 t = some true := by
  have hc := q502 ht
  unfold sparkB at h
  unfold torB at ht
  simp only [Bool.and_eq_true] at h ht
  obtain ⟨⟨⟨h1, h2⟩, h3⟩, h4⟩ := h
  obtain ⟨⟨⟨⟨_, _⟩, t3⟩, t4⟩, _⟩ := ht
  have hm := mapOk h1
  have zl := hm.zl
  have xm := hm.x.most
  have ym := hm.y.most
  have a1 := (curOk h2).x.most
  have a2 := (curOk h2).yl
  have b0 := curOk hc
  have b1 := b0.x.most
  have b2 := b0.yl
  have hf : q276 t.Efficiency.Y = some true := by
    have e : q39 t.Efficiency.Y q224 = some (descB t.Efficiency.Y) := q474 t.Efficiency.Y (by omega) (fun i hi => b0.el i (by omega))
    unfold q276
    rw [e, t4]; rfl
  have hz : q31 t.Spark.Z q158 = some (t.Spark.Z.any fun r => !r.all (inR (-1280) 3840)) := index_any _ (by omega) _ _ (fun r hr => by
    obtain ⟨k, hk, rfl⟩ := List.mem_iff_getElem.1 hr
    have rl := hm.rl k hk
    unfold q158
    rw [q397 _ (by omega)]; rfl)
  have hz2 : (t.Spark.Z.any fun r => !r.all (inR (-1280) 3840)) = false := by
    rw [List.any_eq_false]
    intro r hr
    rw [List.all_eq_true.1 h3 r hr]; simp
  unfold q217
  rw [q78, h1, q64, h2, q64, hc, hf, hz, hz2, q397 _ (by omega), q397 _ (by omega), h4, t3]
  rfl
noncomputable def dwellV (t : STables) (v k : Int) : Int := min (cAt t.Dwell v) (3 * k / 4)
theorem q545 {t : STables} (h : sparkB t = true) (ht : torB t = true) {v k : Int} (v0 : 0 ≤ v ∧ v ≤ 20000) (k0 : 4000 ≤ k ∧ k ≤ 1000000) : q279 t v k = some (dwellV t v k, 0) ∧ 500 ≤ dwellV t v k ∧ dwellV t v k ≤ 10000 := by
  have hh := h
  unfold sparkB at hh
  simp only [Bool.and_eq_true] at hh
  have hb := q374 hh.1.1.2 v (y_in hh.1.1.2 hh.2)
  unfold q279 dwellV
  rw [q498 h ht, q268, q268, in_true v0.1 v0.2, in_true k0.1 k0.2, cAt_eq hh.1.1.2]
  simp only [Option.bind_some, Bool.not_true, cond_false]
  rw [w64_of (n := 3 * k) (by omega) (by omega), Int.tdiv_eq_ediv_of_nonneg (by omega), w64_of (by omega) (by omega), minI_eq]
  exact ⟨rfl, by omega, by omega⟩
noncomputable def angV (t : STables) (s c q r : Int) : Int :=
  min (max (sAt t.Spark s c + (if q < 20 then 2 * (20 - q) else if q > 100 then -(8 * (q - 100)) else 0) - r) (-1280)) 3840
theorem q539 {t : STables} (h : sparkB t = true) (ht : torB t = true) {s c q r : Int} (s0 : 0 ≤ s ∧ s ≤ 12000) (c0 : 0 ≤ c ∧ c ≤ 1048576) (q0 : -40 ≤ q ∧ q ≤ 150) (r0 : 0 ≤ r ∧ r ≤ 1280) : q273 t s c q r = some (angV t s c q r, 0) := by
  have hh := h
  unfold sparkB at hh
  simp only [Bool.and_eq_true] at hh
  have hb := q370 hh.1.1.1 s c (z_in hh.1.1.1 (fun r hr => List.all_eq_true.1 hh.1.2 r hr))
  have e : q306 t s c = some (sAt t.Spark s c, 0) := by
    unfold q306
    rw [q498 h ht, q268, q268, in_true s0.1 s0.2, in_true c0.1 c0.2, sAt_eq hh.1.1.1]
    rfl
  unfold q273 angV
  rw [e]
  simp only [Option.bind_some]
  rw [show (((0 : Int) != 0)) = false from rfl, q268, q268, in_true q0.1 q0.2, in_true r0.1 r0.2]
  simp only [cond_false, Option.bind_some, Bool.not_true]
  generalize sAt t.Spark s c = z at hb
  by_cases h1 : q < 20
  · rw [decide_eq_true h1, if_pos h1]
    simp only [cond_true]
    rw [w64_of (n := 20 - q) (by omega) (by omega), w64_of (n := 2 * (20 - q)) (by omega) (by omega), w64_of (n := z + 2 * (20 - q)) (by omega) (by omega), w64_of (by omega) (by omega), q61, minI_eq, maxI_eq]
    rfl
  · rw [decide_eq_false h1, if_neg h1]
    simp only [cond_false]
    by_cases h2 : q > 100
    · rw [decide_eq_true h2, if_pos h2]
      simp only [cond_true]
      rw [w64_of (n := q - 100) (by omega) (by omega), w64_of (n := 8 * (q - 100)) (by omega) (by omega), w64_of (n := z - 8 * (q - 100)) (by omega) (by omega), w64_of (by omega) (by omega), q61, minI_eq, maxI_eq]
      rfl
    · rw [decide_eq_false h2, if_neg h2]
      simp only [cond_false]
      rw [w64_of (by omega) (by omega), q61, minI_eq, maxI_eq, Int.add_zero]
      rfl
theorem q524 (t : STables) (s c q r : Int) : -1280 ≤ angV t s c q r ∧ angV t s c q r ≤ 3840 := by unfold angV; omega
end Go.Pv
set_option linter.unusedSimpArgs false
namespace Go.Pv.Ar
open Go Go.Pv
theorem bsome {α : Type} (c : Bool) (x y : α) : (bif c then some x else some y) = some (bif c then x else y) := by cases c <;> rfl
def reqP (r : SRequest) : Prop := (0 ≤ r.Source ∧ r.Source ≤ 15) ∧ (0 ≤ r.Priority ∧ r.Priority ≤ 15) ∧ (-5000 ≤ r.Torque ∧ r.Torque ≤ 10000) ∧ (r.Kind = 1 ∨ (r.Source ≤ 1 ∧ (r.Kind = 2 ∨ r.Kind = 3)))
instance (r : SRequest) : Decidable (reqP r) := by unfold reqP; infer_instance
theorem q78 (r : SRequest) : q93 r = some (decide (reqP r)) := by
  unfold q93 q66
  simp only [Option.bind_some, bsome]
  rw [Option.some.injEq, Bool.eq_iff_iff, decide_eq_true_eq]
  unfold reqP
  simp only [Bool.cond_true_left, Bool.cond_false_left, Bool.cond_true_right, Bool.cond_false_right, Bool.or_eq_true, Bool.and_eq_true, Bool.not_eq_true', Bool.or_eq_false_iff, Bool.and_eq_false_iff, Bool.not_eq_false', decide_eq_true_eq, decide_eq_false_iff_not, bne_iff_ne, bne_eq_false_iff_eq, beq_iff_eq, beq_eq_false_iff_ne, ne_eq, ge_iff_le]
  omega
def torB (t : Int) : Bool := decide (t ≥ -5000) && decide (t ≤ 10000)
def rngB (low high : Int) : Bool := (!torB low || !torB high) || decide (low > high)
def badR (l : List SRequest) : Bool := l.any fun r => !decide (reqP r)
def chk (l : List SRequest) (low high : Int) : Int := bif badR l then 1 else bif decide ((l.length : Int) > 32) then 5 else bif rngB low high then 2 else 0
theorem tail_eq (low high : Int) : (Option.bind (some (torB low)) fun v2 => Option.bind (bif (!v2) then (some true) else (Option.bind (some (torB high)) fun v3 => some (!v3))) fun b2 => bif (b2 || (decide (low > high))) then (some (2 : Int)) else (some 0)) = some (bif rngB low high then 2 else 0) := by
  unfold rngB
  cases torB low <;> cases torB high <;> cases decide (low > high) <;> rfl
theorem q543 (l : List SRequest) (low high : Int) (hl : l.length ≤ 1000) : q223 l low high = some (chk l low high) := by
  unfold q223 chk
  have k := index_any l (by omega) q89 (fun r => !decide (reqP r)) (fun y _ => by unfold q89; rw [q78]; rfl)
  have k' : q40 l q89 = some (badR l) := k
  rw [k']
  simp only [Option.bind_some]
  cases badR l
  · simp only [cond_false]
    cases decide ((l.length : Int) > 32)
    · simp only [cond_false]
      exact tail_eq low high
    · rfl
  · rfl
structure Fine (l : List SRequest) (low high : Int) : Prop where
  req : ∀ r ∈ l, reqP r
  len : l.length ≤ 32
  lo : -5000 ≤ low
  hi : high ≤ 10000
  ord : low ≤ high
theorem q559 {l : List SRequest} {low high : Int} : chk l low high = 0 ↔ Fine l low high := by
  have hb : badR l = false ↔ ∀ r ∈ l, reqP r := by
    unfold badR
    rw [List.any_eq_false]
    constructor
    · intro h r hr; simpa using h r hr
    · intro h r hr; simpa using h r hr
  have hr : rngB low high = false ↔ (-5000 ≤ low ∧ low ≤ 10000 ∧ -5000 ≤ high ∧ high ≤ 10000 ∧ low ≤ high) := by
    unfold rngB torB
    simp only [Bool.or_eq_false_iff, Bool.not_eq_false', Bool.and_eq_true, decide_eq_true_eq, decide_eq_false_iff_not]
    omega
  unfold chk
  constructor
  · intro h
    cases h1 : badR l <;> rw [h1] at h
    · cases h2 : decide ((l.length : Int) > 32) <;> rw [h2] at h
      · cases h3 : rngB low high <;> rw [h3] at h
        · have h4 := hr.1 h3
          have h5 : ¬ ((l.length : Int) > 32) := of_decide_eq_false h2
          exact ⟨hb.1 h1, by omega, by omega, by omega, by omega⟩
        · cases h
      · cases h
    · cases h
  · intro h
    rw [hb.2 h.req, hr.2 (by have := h.lo; have := h.hi; have := h.ord; omega), decide_eq_false (show ¬ ((l.length : Int) > 32) by have := h.len; omega)]
    rfl
def ins (s : Sarbiter_span) (r : SRequest) : Int := maxI s.low (minI s.high r.Torque)
def nlo (s : Sarbiter_span) (r : SRequest) : Int := if r.Kind = 1 then s.low else ins s r
def nhi (s : Sarbiter_span) (r : SRequest) : Int := if r.Kind = 2 then s.high else ins s r
def stp (s : Sarbiter_span) (r : SRequest) : Sarbiter_span := ⟨nlo s r, nhi s r, if nlo s r = s.low then s.source else r.Source⟩
def chg (s : Sarbiter_span) (r : SRequest) : Bool := !(decide (nlo s r = s.low) && decide (nhi s r = s.high))
theorem q522 {s : Sarbiter_span} {r : SRequest} (h : s.low ≤ s.high) : s.low ≤ ins s r ∧ ins s r ≤ s.high := by
  unfold ins maxI minI; split <;> split <;> omega
theorem q477 {s : Sarbiter_span} {r : SRequest} (h : s.low ≤ s.high) : s.low ≤ (stp s r).low ∧ (stp s r).low ≤ (stp s r).high ∧ (stp s r).high ≤ s.high := by
  have := q522 (r := r) h
  unfold stp nlo nhi
  simp only
  split <;> split <;> omega
theorem q432 (s : Sarbiter_span) (r : SRequest) (lo hi : Int) : (Option.bind (bif (lo != s.low) then (some r.Source) else (some s.source)) fun (f3 : Int) => bif (lo != s.low) then (some (true, (⟨lo, hi, f3⟩ : Sarbiter_span))) else (some ((hi != s.high), (⟨lo, hi, f3⟩ : Sarbiter_span)))) = some (!(decide (lo = s.low) && decide (hi = s.high)), ⟨lo, hi, if lo = s.low then s.source else r.Source⟩) := by
  by_cases h1 : lo = s.low
  · rw [show (lo != s.low) = false by simpa using h1, decide_eq_true h1, if_pos h1]; rfl
  · rw [show (lo != s.low) = true by simpa using h1, decide_eq_false h1, if_neg h1]; rfl
theorem q532 (s : Sarbiter_span) (r : SRequest) (h : s.low ≤ s.high) (hk : r.Kind = 1 ∨ r.Kind = 2 ∨ r.Kind = 3) : q109 s r = some (chg s r, stp s r) := by
  have e1 : maxI s.low (minI s.high r.Torque) = ins s r := rfl
  have e2 : minI s.high (maxI s.low r.Torque) = ins s r := by
    unfold ins maxI minI; repeat' split
    all_goals omega
  have e3 : minI (maxI r.Torque s.low) s.high = ins s r := by
    unfold ins maxI minI; repeat' split
    all_goals omega
  unfold q109 q168 q153 q151 q27
  simp only [Option.bind_some]
  rw [e1, e2, e3]
  unfold stp chg nlo nhi
  rcases hk with hk | hk | hk
  · rw [hk]
    exact q432 s r s.low (ins s r)
  · rw [hk]
    exact q432 s r (ins s r) s.high
  · rw [hk]
    exact q432 s r (ins s r) (ins s r)
def lev (l : List SRequest) (j : Nat) : List SRequest := l.filter fun r => r.Priority == 15 - (j : Int)
def ordK (l : List SRequest) (k : Nat) : List SRequest := (List.range k).flatMap (lev l)
abbrev ordL (l : List SRequest) : List SRequest := ordK l 16
theorem q478 (l : List SRequest) (k : Nat) : ordK l (k + 1) = ordK l k ++ lev l k := by
  unfold ordK; rw [List.range_succ, List.flatMap_append, List.flatMap_singleton]
def DR (r : SRequest) : Prop := 0 ≤ r.Priority ∧ r.Priority ≤ 15
theorem lt_dec {x y : SRequest} (hx : DR x) (hy : DR y) : ltM q32 x y = decide (y.Priority < x.Priority) := by
  unfold DR at hx hy
  unfold ltM q32
  rw [Option.getD_some, w64_of (by omega) (by omega), decide_eq_decide]
  omega
theorem sw_dec : SW DR q32 where
  ans := fun x y _ _ => ⟨_, rfl⟩
  asym := fun x y hx hy => by rw [lt_dec hx hy, lt_dec hy hx, decide_eq_true_eq, decide_eq_false_iff_not]; omega
  ntrans := fun x y z hx hy hz => by rw [lt_dec hx hy, lt_dec hy hz, lt_dec hx hz]; simp only [decide_eq_false_iff_not]; omega
theorem eqv_dec {x y : SRequest} (hx : DR x) (hy : DR y) : eqv q32 x y = (y.Priority == x.Priority) := by
  unfold eqv
  rw [lt_dec hx hy, lt_dec hy hx, Bool.eq_iff_iff]
  simp only [Bool.and_eq_true, Bool.not_eq_true', decide_eq_false_iff_not, beq_iff_eq]
  omega
theorem q504 {l : List SRequest} {k : Nat} {r : SRequest} : r ∈ ordK l k ↔ r ∈ l ∧ ∃ j, j < k ∧ r.Priority = 15 - (j : Int) := by
  unfold ordK lev
  rw [List.mem_flatMap]
  constructor
  · rintro ⟨j, hj, h⟩
    rw [List.mem_filter] at h
    exact ⟨h.1, j, List.mem_range.1 hj, by simpa using h.2⟩
  · rintro ⟨h, j, hj, hp⟩
    exact ⟨j, List.mem_range.2 hj, List.mem_filter.2 ⟨h, by simpa using hp⟩⟩
theorem q434 {l : List SRequest} (h : AllD DR l) {r : SRequest} : r ∈ ordL l ↔ r ∈ l := by
  rw [q504]
  constructor
  · exact fun h => h.1
  · intro hr
    have := h r hr
    unfold DR at this
    exact ⟨hr, (15 - r.Priority).toNat, by omega, by omega⟩
theorem q499 {l : List SRequest} (h : AllD DR l) : ∀ k, Srt q32 (ordK l k)
  | 0 => .nil
  | k + 1 => by
    rw [q478]
    refine Srt.app (q499 h k) ?_ fun a ha b hb => ?_
    · unfold lev
      rw [Srt, List.pairwise_iff_getElem]
      intro i j hi hj _
      have m1 := List.mem_filter.1 (List.getElem_mem hi)
      have m2 := List.mem_filter.1 (List.getElem_mem hj)
      have p1 := m1.2
      simp only [beq_iff_eq] at p1
      have p2 := m2.2
      simp only [beq_iff_eq] at p2
      rw [lt_dec (h _ m2.1) (h _ m1.1), decide_eq_false_iff_not]
      omega
    · obtain ⟨ha1, j, hj, hp⟩ := q504.1 ha
      have m2 := List.mem_filter.1 hb
      have p2 := m2.2
      simp only [beq_iff_eq] at p2
      rw [lt_dec (h _ m2.1) (h _ ha1), decide_eq_false_iff_not]
      omega
theorem q428 (l : List SRequest) (p : Int) : ∀ k, (ordK l k).filter (fun r => r.Priority == p) = if 15 - (k : Int) < p ∧ p ≤ 15 then l.filter (fun r => r.Priority == p) else []
  | 0 => by
    rw [if_neg (by omega)]
    rfl
  | k + 1 => by
    rw [q478, List.filter_append, q428 l p k]
    unfold lev
    rw [List.filter_filter]
    by_cases hp : p = 15 - (k : Int)
    · rw [if_neg (by omega), if_pos (by omega), List.nil_append]
      congr 1
      funext r
      rw [← hp]
      cases r.Priority == p <;> rfl
    · have : (l.filter fun a => (a.Priority == p) && (a.Priority == 15 - (k : Int))) = [] := by
        rw [List.filter_eq_nil_iff]
        intro r _ h
        simp only [Bool.and_eq_true, beq_iff_eq] at h
        omega
      rw [this, List.append_nil]
      by_cases h2 : 15 - (k : Int) < p ∧ p ≤ 15
      · rw [if_pos h2, if_pos (by omega)]
      · rw [if_neg h2, if_neg (by omega)]
theorem q379 {l r : List SRequest} (h : AllD DR l) (hs : Srt q32 r) (ht : Sta DR q32 l r) : r = ordL l := by
  refine srt_uniq sw_dec (ht.all h) (fun x hx => h x ((q434 h).1 hx)) hs (q499 h 16) fun x hx => ?_
  rw [ht.same x hx]
  have e : ∀ m : List SRequest, AllD DR m → m.filter (eqv q32 x) = m.filter (fun r => r.Priority == x.Priority) := fun m hm => List.filter_congr fun y hy => eqv_dec hx (hm y hy)
  rw [e l h, e (ordL l) (fun y hy => h y ((q434 h).1 hy)), q428]
  unfold DR at hx
  rw [if_pos (by omega)]
theorem sm_same : q42 = g_symMergeCmpFunc_s := by kernel_rfl
theorem q436 : ∀ fu, q21 fu = g_symMergeCmpFunc fu
  | 0 => rfl
  | fu + 1 => by
    show q42 (q21 fu) = g_symMergeCmpFunc_s (g_symMergeCmpFunc fu)
    rw [q436 fu, sm_same]
theorem q557 (n : Int) (g : SRequest → SRequest → Option Int) (s3 : Int × List SRequest) : q68 n g s3 = g_stableCmpFunc_b3 n g s3 := by
  funext t
  unfold q68 g_stableCmpFunc_b3
  rw [q436]
theorem q538 : q69 = g_stableCmpFunc_b2 := by
  funext n g t
  unfold q69
  simp only [q436, q557]
  kernel_rfl
theorem q554 : q49 = g_stableCmpFunc := by
  funext d n g
  unfold q49
  rw [q538]
  kernel_rfl
theorem st_same (l : List SRequest) (g : SRequest → SRequest → Option Int) : q46 l g = g_SortStableFunc l g := by
  unfold q46 g_SortStableFunc
  rw [q554]
def dec (s : Sarbiter_span) : List SRequest → List Int
  | [] => []
  | r :: l => (bif chg s r then [r.Source] else []) ++ dec (stp s r) l
theorem dec_len (s : Sarbiter_span) : ∀ l : List SRequest, (dec s l).length ≤ l.length
  | [] => Nat.le_refl _
  | r :: l => by
    have := dec_len (stp s r) l
    unfold dec
    cases chg s r
    · simp only [cond_false, List.nil_append, List.length_cons]; omega
    · simp only [cond_true, List.length_append, List.length_cons, List.length_nil]; omega
theorem dloop : ∀ (q : List SRequest) (i : Int) (acc : List Int) (s : Sarbiter_span), s.low ≤ s.high → (∀ r ∈ q, r.Kind = 1 ∨ r.Kind = 2 ∨ r.Kind = 3) → acc.length + q.length ≤ 10000 →
    stepsL q138 q i (acc, s) = some (.inl (acc ++ dec s q, q.foldl stp s))
  | [], i, acc, s, _, _, _ => by simp [stepsL, dec]
  | r :: q, i, acc, s, hs, hk, hl => by
    simp only [List.length_cons] at hl
    have hr := q477 (r := r) hs
    have hb : q138 i r (acc, s) = some (.next (acc ++ (bif chg s r then [r.Source] else []), stp s r)) := by
      unfold q138
      simp only
      rw [q532 s r hs (hk r (by simp))]
      simp only [Option.bind_some]
      cases chg s r
      · simp
      · simp only [cond_true]
        rw [appendM_ok _ _ (by simp only [List.length_singleton]; omega)]
        rfl
    simp only [stepsL, hb, Option.bind_some]
    rw [dloop q (i + 1) _ (stp s r) (by omega) (fun x hx => hk x (by simp [hx])) (by rw [List.length_append]; cases chg s r <;> simp <;> omega)]
    simp only [dec, List.foldl_cons, List.append_assoc]
def s0 (low high : Int) : Sarbiter_span := ⟨low, high, -1⟩
def fin (l : List SRequest) (low high : Int) : Sarbiter_span := (ordL l).foldl stp (s0 low high)
def srcs (l : List SRequest) (low high : Int) : List Int := compL ((dec (s0 low high) (ordL l)).mergeSort fun x y => decide (x ≤ y))
theorem Fine.dr {l : List SRequest} {low high : Int} (h : Fine l low high) : AllD DR l := fun r hr => by
  have := h.req r hr
  unfold reqP at this
  unfold DR; omega
theorem Fine.kinds {l : List SRequest} {low high : Int} (h : Fine l low high) : ∀ r ∈ l, r.Kind = 1 ∨ r.Kind = 2 ∨ r.Kind = 3 := fun r hr => by
  have := h.req r hr
  unfold reqP at this
  omega
theorem q550 {l : List SRequest} {low high : Int} (h : Fine l low high) : (ordL l).length = l.length := by
  obtain ⟨r, h1, h2, h3⟩ := stable_eq sw_dec l h.dr (by have := h.len; omega)
  rw [← q379 h.dr h2 h3, h3.len]
theorem q523 {l : List SRequest} {low high : Int} (h : Fine l low high) : (ordL l).Perm l := by
  obtain ⟨r, h1, h2, h3⟩ := stable_eq sw_dec l h.dr (by have := h.len; omega)
  rw [← q379 h.dr h2 h3]
  exact h3.perm
theorem q533 {l : List SRequest} {low high : Int} (h : Fine l low high) : q191 l low high = some (fin l low high, srcs l low high) := by
  unfold q191 q146
  have hl := h.len
  rw [appendM_ok _ _ (by simp only [List.length_nil]; omega)]
  simp only [Option.bind_some, List.nil_append]
  rw [st_same]
  obtain ⟨r, h1, h2, h3⟩ := stable_eq sw_dec l h.dr (by omega)
  rw [h1, q379 h.dr h2 h3]
  simp only [Option.bind_some]
  have hlen := q550 h
  rw [rangeM_steps _ (by omega), dloop (ordL l) 0 [] ⟨low, high, -1⟩ h.ord (fun x hx => h.kinds x ((q434 h.dr).1 hx)) (by simp only [List.length_nil]; omega)]
  simp only [Option.bind_some, List.nil_append]
  unfold q235 q167
  have hd := dec_len (s0 low high) (ordL l)
  rw [sortIM_ok (show (dec (⟨low, high, -1⟩ : Sarbiter_span) (ordL l)).length < 4611686018427387904 by unfold s0 at hd; omega)]
  simp only [Option.bind_some]
  rw [compactM_ok (by rw [List.length_mergeSort]; unfold s0 at hd; omega)]
  rfl
theorem q445 : ∀ (q : List SRequest) (s : Sarbiter_span), s.low ≤ s.high → s.low ≤ (q.foldl stp s).low ∧ (q.foldl stp s).low ≤ (q.foldl stp s).high ∧ (q.foldl stp s).high ≤ s.high
  | [], s, h => ⟨Int.le_refl _, h, Int.le_refl _⟩
  | r :: q, s, h => by
    have h1 := q477 (r := r) h
    have h2 := q445 q (stp s r) (by omega)
    rw [List.foldl_cons]
    omega
theorem q471 {l : List SRequest} {low high : Int} (h : low ≤ high) : low ≤ (fin l low high).low ∧ (fin l low high).low ≤ (fin l low high).high ∧ (fin l low high).high ≤ high := q445 (ordL l) (s0 low high) h
end Go.Pv.Ar
set_option linter.unusedSimpArgs false
namespace Go.Pv
open Go
theorem q560 (r : SRequest) : reqB r = decide (Ar.reqP r) := Option.some.inj ((req_eq r).symm.trans (Ar.q78 r))
noncomputable def grantV (g : SGrant) (l : List SRequest) : SGrant :=
  ⟨max (min (min (max (Ar.fin l (-5000) 10000).low (g.Torque - 1000)) (g.Torque + 300)) (Ar.fin l (-5000) 10000).high) (-5000), (Ar.fin l (-5000) 10000).source⟩
def granted (g : SGrant) : Prop := (-5000 ≤ g.Torque ∧ g.Torque ≤ 10000) ∧ (-1 ≤ g.Source ∧ g.Source ≤ 15)
theorem q430 : ∀ (q : List SRequest) (s : Sarbiter_span), (∀ r ∈ q, 0 ≤ r.Source ∧ r.Source ≤ 15) → (-1 ≤ s.source ∧ s.source ≤ 15) → -1 ≤ (q.foldl Ar.stp s).source ∧ (q.foldl Ar.stp s).source ≤ 15
  | [], _, _, h => h
  | r :: q, s, hq, h => by
    rw [List.foldl_cons]
    refine q430 q _ (fun x hx => hq x (List.mem_cons_of_mem _ hx)) ?_
    have := hq r (List.mem_cons_self ..)
    unfold Ar.stp
    simp only
    split <;> omega
theorem q569 {l : List SRequest} (h : Ar.Fine l (-5000) 10000) (g : SGrant) : granted (grantV g l) := by
  have r := Ar.q471 (l := l) (low := -5000) (high := 10000) (by omega)
  have s := q430 (Ar.ordL l) (Ar.s0 (-5000) 10000) (fun x hx => by
    have := h.req x ((Ar.q523 h).mem_iff.1 hx)
    exact this.1) (by show -1 ≤ (-1 : Int) ∧ (-1 : Int) ≤ 15; omega)
  unfold granted grantV
  unfold Ar.fin at r s ⊢
  simp only
  exact ⟨by omega, s⟩
theorem q501 {g : SGrant} {l : List SRequest} (hg : granted g) (h : Ar.Fine l (-5000) 10000) : q104 g l (-5000) 10000 300 1000 = some (grantV g l, 0) := by
  have r := Ar.q471 (l := l) (low := -5000) (high := 10000) (by omega)
  have hl := h.len
  unfold granted at hg
  unfold q104
  rw [show q66 g.Torque = some (inR (-5000) 10000 g.Torque) from rfl, in_true hg.1.1 hg.1.2]
  simp only [Option.bind_some]
  rw [show ((!true || decide (g.Source < -1)) || decide (g.Source > 15)) = false by simp only [Bool.not_true, Bool.false_or, Bool.or_eq_false_iff, decide_eq_false_iff_not]; omega, Ar.q543 _ _ _ (by omega), Ar.q559.2 h]
  simp only [cond_false, Option.bind_some]
  rw [show (((0 : Int) != 0)) = false from rfl, show (((decide ((300 : Int) < 0) || decide ((300 : Int) > 20000)) || decide ((1000 : Int) < 0)) || decide ((1000 : Int) > 20000)) = false from rfl, Ar.q533 h]
  simp only [cond_false, Option.bind_some]
  rw [w64_of (n := g.Torque - 1000) (by omega) (by omega), w64_of (n := g.Torque + 300) (by omega) (by omega)]
  simp only [minI_eq, maxI_eq]
  rfl
structure TabC (t : STables) : Prop where
  air : airB t = true
  spark : sparkB t = true
  tor : torB t = true
  dead : (curB t.Dead && t.Dead.Y.all (inR 0 10000)) = true
  wish : mapB t.Wish = true
  idle : gainB t.Idle = true
structure Giv (t : STables) (e : SEngine) (b : SBody) (c : SControls) (i : SInputs) : Prop where
  t : ctlB t = true
  b : bodyB b = true
  c : goodB e c = true
  i : askB i (e.Order.length : Int) = true
theorem tabOk {t : STables} (h : ctlB t = true) : TabC t := by
  unfold ctlB at h
  have h' := h
  simp only [Bool.and_eq_true] at h'
  exact ⟨h'.1.1.1.1.1, h'.1.1.1.1.2, h'.1.1.1.2, by rw [Bool.and_eq_true]; exact h'.1.1.2, h'.1.2, h'.2⟩
structure GoodC (e : SEngine) (c : SControls) : Prop where
  eng : Ev.engP e
  ped : pedB c.Pedal = true
  mix : mixB c.Probe = true
  num : c.Knock.length = e.Order.length
  kno : c.Knock.all knB = true
  sum : sumOk c.Idle
  film : 0 ≤ c.Film ∧ c.Film ≤ 1073741824
  gra : granted c.Grant
theorem goodOk {e : SEngine} {c : SControls} : goodB e c = true ↔ GoodC e c := by
  unfold goodB
  simp only [Bool.and_eq_true, decide_eq_true_eq, inR_iff]
  exact ⟨fun ⟨⟨⟨⟨⟨⟨⟨⟨a, b⟩, d⟩, f⟩, g⟩, h⟩, i⟩, j⟩, k⟩ => ⟨a, b, d, f, g, h, i, j, k⟩, fun ⟨a, b, d, f, g, h, i, j, k⟩ => ⟨⟨⟨⟨⟨⟨⟨⟨a, b⟩, d⟩, f⟩, g⟩, h⟩, i⟩, j⟩, k⟩⟩
structure AskC (i : SInputs) (n : Nat) : Prop where
  num : 1 ≤ n ∧ n ≤ 8
  len : i.Intensity.length = n
  few : i.Requests.length ≤ 30
  spd : 0 ≤ i.Speed ∧ i.Speed ≤ 12000
  pre : 50 ≤ i.Pressure ∧ i.Pressure ≤ 3000
  air : -40 ≤ i.AirTemp ∧ i.AirTemp ≤ 150
  coo : -40 ≤ i.Coolant ∧ i.Coolant ≤ 150
  vol : 0 ≤ i.Voltage ∧ i.Voltage ≤ 20000
  lam : 0 ≤ i.Lambda ∧ i.Lambda ≤ 20000
  int : i.Intensity.all (inR 0 4095) = true
  req : i.Requests.all reqB = true
theorem askOk {i : SInputs} {n : Nat} : askB i (n : Int) = true ↔ AskC i n := by
  unfold askB
  simp only [Bool.and_eq_true, decide_eq_true_eq, inR_iff]
  exact ⟨fun ⟨⟨⟨⟨⟨⟨⟨⟨⟨⟨a, b⟩, c⟩, d⟩, e⟩, f⟩, g⟩, h⟩, i⟩, j⟩, k⟩ => ⟨by omega, by omega, c, d, e, f, g, h, i, j, k⟩, fun ⟨a, b, c, d, e, f, g, h, i, j, k⟩ => ⟨⟨⟨⟨⟨⟨⟨⟨⟨⟨by omega, by omega⟩, c⟩, d⟩, e⟩, f⟩, g⟩, h⟩, i⟩, j⟩, k⟩⟩
noncomputable def idlR (s : SIntegral) (g : SGain) (c v : Int) : SIntegral × Int × Int := (q150 s g (tgtV c) v).getD (⟨0⟩, 0, 0)
theorem idlR_eq {s : SIntegral} {g : SGain} (hg : gainB g = true) (hs : sumOk s) {c v : Int} (c0 : -40 ≤ c ∧ c ≤ 150) (v0 : 0 ≤ v ∧ v ≤ 12000) : q150 s g (tgtV c) v = some ((idlR s g c v).1, (idlR s g c v).2.1, 0) ∧ sumOk (idlR s g c v).1 := by
  obtain ⟨s', u, h1, h2⟩ := q561 hg hs c0 v0
  unfold idlR
  rw [h1]
  exact ⟨rfl, h2⟩
section
variable (t : STables) (e : SEngine) (b : SBody) (c : SControls) (i : SInputs)
def pdV : SPedal := pedV c.Pedal i.Pedal1 i.Pedal2
noncomputable def wsV : Int := wishV t (pdV c i).Value i.Speed
def acV : Bool := actV (pdV c i).Value i.Speed i.Coolant
noncomputable def idV : SIntegral := bif acV c i then (idlR c.Idle t.Idle i.Coolant i.Speed).1 else ⟨0⟩
noncomputable def rqV : List SRequest := ⟨0, 3, wsV t c i, 0⟩ :: ((bif acV c i then [⟨1, 2, min (max (idlR c.Idle t.Idle i.Coolant i.Speed).2.1 (-5000)) 10000, 1⟩] else []) ++ i.Requests)
noncomputable def grV : SGrant := grantV c.Grant (rqV t c i)
noncomputable def wtV : Int := max 0 (grV t c i).Torque
noncomputable def thV (w : Int) : Int :=
  let r2 := (q157 t i.Speed w).getD (0, 0)
  let r3 := (q187 t i.Speed (max 0 (bif r2.2 != 0 then 1048576 else r2.1)) i.AirTemp).getD (0, 0)
  let p := min 1012 (bif r3.2 != 0 then 3000 else r3.1)
  let r5 := (q179 b (flowV i.Speed p) p).getD (0, 0)
  bif r5.2 != 0 then 1000 else r5.1
noncomputable def cgV : Int := chV t i.Speed i.Pressure i.AirTemp
noncomputable def shV (w n : Int) : Int × Int × Int := (q106 t i.Speed (cgV t i) w n).getD (0, 0, 0)
noncomputable def msV : Int := min 1048576 ((cgV t i * 10000 / 147000) * facV (mxV c.Probe i.Lambda) i.Speed (cgV t i) / 1000)
noncomputable def waV : Int × Int × Int := (q241 b c.Film (msV t c i)).getD (0, 0, 0)
noncomputable def inV (f : Int) : Int × Int := bif (f == 0) || ((waV t b c i).2.2 != 0) then (0, c.Film - leaveV b c.Film) else ((waV t b c i).1, (waV t b c i).2.1)
noncomputable def tmV (j : Int) : Int := bif decide (j > 0) then min (max (cAt t.Dead i.Voltage + upV3 j) 200) 20000 else 0
def tkV : Int := min (max (60000000 / max 1 i.Speed) 4000) 1000000
noncomputable def fiV (n : Nat) (f l tm : Int) (k : Nat) : SFire :=
  ⟨(k : Int) + 1, max (-1280) (angV t i.Speed (cgV t i) i.Coolant ((ksV c.Knock i.Intensity).getD k ⟨0, 0, 0⟩).Retard - l), max 500 (dwellV t i.Voltage (tkV i)), 5760, bif patB n f (k : Int) then tm else 0, 0, 0⟩
end
structure StepOk (t : STables) (e : SEngine) (b : SBody) (c : SControls) (i : SInputs) (f l : Int) : Prop where
  sh : shV t i (wtV t c i) (e.Order.length : Int) = (f, l, 0)
  ok : ShOk t (optV t i.Speed (cgV t i)) (wtV t c i) (e.Order.length : Int) f l
noncomputable def nxC (t : STables) (b : SBody) (c : SControls) (i : SInputs) (f : Int) : SControls := ⟨pdV c i, idV t c i, ksV c.Knock i.Intensity, mxV c.Probe i.Lambda, (inV t b c i f).2, grV t c i⟩
noncomputable def outC (t : STables) (e : SEngine) (b : SBody) (c : SControls) (i : SInputs) (f l : Int) : SOutputs := ⟨thV t b i (wtV t c i), (List.range e.Order.length).map (fiV t c i e.Order.length f l (tmV t i (inV t b c i f).1)), torV t (optV t i.Speed (cgV t i)) l f (e.Order.length : Int)⟩
theorem req0 (w : Int) (h : -5000 ≤ w ∧ w ≤ 10000) : Ar.reqP ⟨0, 3, w, 0⟩ :=
  ⟨⟨(by decide : (0 : Int) ≤ 0), (by decide : (0 : Int) ≤ 15)⟩, ⟨(by decide : (0 : Int) ≤ 0), (by decide : (0 : Int) ≤ 15)⟩, h, .inr ⟨(by decide : (0 : Int) ≤ 1), .inr rfl⟩⟩
theorem req1 (w : Int) (h : -5000 ≤ w ∧ w ≤ 10000) : Ar.reqP ⟨1, 2, w, 1⟩ :=
  ⟨⟨(by decide : (0 : Int) ≤ 1), (by decide : (1 : Int) ≤ 15)⟩, ⟨(by decide : (0 : Int) ≤ 1), (by decide : (1 : Int) ≤ 15)⟩, h, .inr ⟨(by decide : (1 : Int) ≤ 1), .inl rfl⟩⟩
theorem q475 {t : STables} {c : SControls} {i : SInputs} {n : Nat} (hi : AskC i n) : Ar.Fine (rqV t c i) (-5000) 10000 := by
  have hw := q515 t (pdV c i).Value i.Speed
  have hr := hi.few
  refine ⟨fun r h => ?_, ?_, by omega, by omega, by omega⟩
  · unfold rqV at h
    rcases List.mem_cons.1 h with rfl | h
    · exact req0 _ hw
    · rcases List.mem_append.1 h with h | h
      · cases ha : acV c i
        · rw [ha] at h; simp at h
        · rw [ha] at h
          simp only [cond_true, List.mem_cons, List.not_mem_nil, or_false] at h
          subst h
          exact req1 _ ⟨by omega, by omega⟩
      · have := List.all_eq_true.1 hi.req r h
        rw [q560, decide_eq_true_eq] at this
        exact this
  · unfold rqV
    rw [List.length_cons, List.length_append]
    cases acV c i <;> simp <;> omega
theorem q37 (s : Scontrol_step) (h : s.fail = 0) : q19 s 0 = some s := by
  unfold q19
  rw [h]
  simp only [beq_self_eq_true, cond_true]
  cases s
  simp only at h
  subst h
  rfl
theorem q525 {t : STables} {e : SEngine} {b : SBody} {c : SControls} {i : SInputs} {n : Nat} (ht : TabC t) (hc : GoodC e c) (hi : AskC i n) :
    q110 ⟨t, e, b, c, i, 0, 0, 0, 0, [], 0, ⟨0, [], 0⟩, 0⟩ = some ⟨t, e, b, ⟨pdV c i, idV t c i, c.Knock, c.Probe, c.Film, grV t c i⟩, i, wtV t c i, 0, 0, 0, [], 0, ⟨0, [], 0⟩, 0⟩ := by
  obtain ⟨p1, p2⟩ := q446 hc.ped i.Pedal1 i.Pedal2
  have p3 := (pedOk.1 p2).v
  have hw := wish_eq ht.wish (v := (pedV c.Pedal i.Pedal1 i.Pedal2).Value) p3 hi.spd
  have ha := act_eq (v := (pedV c.Pedal i.Pedal1 i.Pedal2).Value) (s := i.Speed) hi.coo
  obtain ⟨d1, d2⟩ := idlR_eq ht.idle hc.sum hi.coo hi.spd
  have hf := q475 (t := t) (c := c) hi
  have hst := q501 hc.gra hf
  have hrl := hi.few
  unfold q110
  simp only
  rw [p1]
  simp only [Option.bind_some]
  rw [q37 _ rfl]
  simp only [Option.bind_some]
  rw [hw]
  simp only [Option.bind_some]
  rw [q37 _ rfl]
  simp only [Option.bind_some]
  rw [ha, (tgt_eq hi.coo).1]
  simp only [Option.bind_some]
  unfold grV wtV grV
  unfold idV rqV acV wsV pdV at *
  cases hac : actV (pedV c.Pedal i.Pedal1 i.Pedal2).Value i.Speed i.Coolant
  · rw [hac] at hst
    simp only [cond_false, Option.bind_some, List.nil_append] at hst ⊢
    rw [appendM_ok _ _ (by simp only [List.length_cons, List.length_nil]; omega)]
    simp only [Option.bind_some, List.cons_append, List.nil_append]
    show Option.bind (Option.bind (q104 c.Grant _ _ _ _ _) _) _ = _
    rw [hst]
    simp only [Option.bind_some]
    rw [q37 _ rfl]
    simp only [Option.bind_some, maxI_eq]
  · rw [hac] at hst
    simp only [cond_true, Option.bind_some, List.cons_append, List.nil_append] at hst ⊢
    show Option.bind (Option.bind (Option.bind (q150 c.Idle t.Idle (tgtV i.Coolant) i.Speed) _) _) _ = _
    rw [d1]
    simp only [Option.bind_some]
    rw [q37 _ rfl]
    simp only [Option.bind_some, q61, minI_eq, maxI_eq]
    rw [appendM_ok _ _ (by simp only [List.length_cons, List.length_nil]; omega)]
    simp only [Option.bind_some]
    rw [appendM_ok _ _ (by simp only [List.length_append, List.length_cons, List.length_nil]; omega)]
    simp only [Option.bind_some, List.cons_append, List.nil_append]
    show Option.bind (Option.bind (q104 c.Grant _ _ _ _ _) _) _ = _
    rw [hst]
    simp only [Option.bind_some]
    rw [q37 _ rfl]
    simp only [Option.bind_some, maxI_eq]
theorem or_eq (x e o : Int) : q192 x e o = some (bif e != 0 then o else x) := by unfold q192; cases e != 0 <;> rfl
theorem q507 {t : STables} {b : SBody} {i : SInputs} {n : Nat} (ht : TabC t) (hb : bodyB b = true) (hi : AskC i n) (e : SEngine) (c : SControls) (w : Int) :
    q85 ⟨t, e, b, c, i, w, 0, 0, 0, [], 0, ⟨0, [], 0⟩, 0⟩ = some ⟨t, e, b, c, i, w, 0, 0, 0, [], 0, ⟨thV t b i w, [], 0⟩, 0⟩ ∧ 0 ≤ thV t b i w ∧ thV t b i w ≤ 1000 := by
  obtain ⟨c2, e2, h2, _, _, _⟩ := q563 ht.tor (w := w) hi.spd
  unfold q85 thV
  simp only
  rw [h2]
  simp only [Option.bind_some, or_eq, Option.getD_some, maxI_eq]
  generalize max 0 (bif e2 != 0 then (1048576 : Int) else c2) = x
  obtain ⟨p, e3, h3, k3⟩ := q509 ht.air (w := x) hi.spd hi.air
  rw [h3]
  simp only [Option.bind_some, or_eq, Option.getD_some, minI_eq]
  have hp : 50 ≤ (min 1012 (bif e3 != 0 then (3000 : Int) else p)) ∧ (min 1012 (bif e3 != 0 then (3000 : Int) else p)) ≤ 1012 := by
    cases he : e3 != 0
    · have h0 : e3 = 0 := by simpa using he
      have := k3.fit h0
      simp only [cond_false]; omega
    · simp only [cond_true]; omega
  generalize min 1012 (bif e3 != 0 then (3000 : Int) else p) = q at hp
  obtain ⟨f1, f2, f3⟩ := flow_eq (s := i.Speed) (p := q) hi.spd (by omega)
  rw [f1]
  simp only [Option.bind_some]
  rw [q37 _ rfl]
  simp only [Option.bind_some]
  obtain ⟨y, e5, h5, k5⟩ := q505 hb (f := flowV i.Speed q) (p := q) (by omega) (by omega)
  rw [h5]
  simp only [Option.bind_some, Option.getD_some]
  refine ⟨trivial, ?_⟩
  cases he : e5 != 0
  · have h0 : e5 = 0 := by simpa using he
    have := k5.fit h0
    simp only [cond_false]; omega
  · simp only [cond_true]; omega
theorem q231 {t : STables} (ht : TabC t) (i : SInputs) : 0 ≤ cgV t i ∧ cgV t i ≤ 1048576 := (ch_eq ht.air i.Speed i.Pressure i.AirTemp).2
theorem sh_ok {t : STables} {i : SInputs} {n : Nat} (ht : TabC t) (hi : AskC i n) {w : Int} (hw : 0 ≤ w) : ∃ f l, shV t i w (n : Int) = (f, l, 0) ∧ q106 t i.Speed (cgV t i) w (n : Int) = some (f, l, 0) ∧ ShOk t (optV t i.Speed (cgV t i)) w (n : Int) f l := by
  have hn := hi.num
  obtain ⟨f, l, h1, h2⟩ := q548 ht.tor hi.spd (q231 ht i) hw (n := (n : Int)) (by omega)
  exact ⟨f, l, by unfold shV; rw [h1]; rfl, h1, h2⟩
theorem q542 {t : STables} {i : SInputs} {e : SEngine} (ht : TabC t) (hi : AskC i e.Order.length) {w f l : Int} (h : q106 t i.Speed (cgV t i) w (e.Order.length : Int) = some (f, l, 0)) (k : ShOk t (optV t i.Speed (cgV t i)) w (e.Order.length : Int) f l) (b : SBody) (c : SControls) (th : Int) :
    q123 ⟨t, e, b, c, i, w, 0, 0, 0, [], 0, ⟨th, [], 0⟩, 0⟩ =
      some ⟨t, e, b, c, i, w, cgV t i, f, l, (List.range e.Order.length).map (fun j : Nat => patB (e.Order.length : Int) f (j : Int)), 0, ⟨th, [], torV t (optV t i.Speed (cgV t i)) l f (e.Order.length : Int)⟩, 0⟩ := by
  have hn := hi.num
  have k1 := k.f0; have k2 := k.f1; have k3 := k.l0; have k4 := k.l1
  unfold q123
  simp only
  rw [q496 ht.air hi.spd hi.pre hi.air]
  simp only [Option.bind_some]
  rw [q37 _ rfl]
  simp only [Option.bind_some]
  rw [show chV t i.Speed i.Pressure i.AirTemp = cgV t i from rfl, h]
  simp only [Option.bind_some]
  rw [q37 _ rfl]
  simp only [Option.bind_some]
  rw [q519 hn ⟨k1, k2⟩]
  simp only [Option.bind_some]
  rw [q37 _ rfl]
  simp only [Option.bind_some]
  rw [q529 ht.tor hi.spd (q231 ht i) ⟨k3, k4⟩ ⟨k1, k2⟩ (by omega)]
  simp only [Option.bind_some]
  rw [q37 _ rfl]
  simp only [Option.bind_some]
theorem q500 {t : STables} {c : SControls} {i : SInputs} (ht : TabC t) : (0 ≤ cgV t i * 10000 / 147000 ∧ cgV t i * 10000 / 147000 ≤ 80000) ∧ (0 ≤ (cgV t i * 10000 / 147000) * facV (mxV c.Probe i.Lambda) i.Speed (cgV t i) ∧ (cgV t i * 10000 / 147000) * facV (mxV c.Probe i.Lambda) i.Speed (cgV t i) ≤ 80000 * 1300) ∧ 0 ≤ msV t c i ∧ msV t c i ≤ 1048576 := by
  have h1 := q231 ht i
  have h2 := q531 (mxV c.Probe i.Lambda) i.Speed (cgV t i)
  have h3 : 0 ≤ cgV t i * 10000 / 147000 ∧ cgV t i * 10000 / 147000 ≤ 80000 := by omega
  have h4 := prod_le h3.1 h3.2 (show 0 ≤ facV (mxV c.Probe i.Lambda) i.Speed (cgV t i) by omega) h2.2
  refine ⟨h3, h4, ?_⟩
  unfold msV
  omega
theorem want_ok {t : STables} {b : SBody} {e : SEngine} {c : SControls} {i : SInputs} (ht : TabC t) (hb : bodyB b = true) (hc : GoodC e c) : q241 b c.Film (msV t c i) = some (waV t b c i) ∧ WantOk b c.Film (msV t c i) (waV t b c i).1 (waV t b c i).2.1 (waV t b c i).2.2 := by
  obtain ⟨j, x, e1, h1, h2⟩ := q566 hb hc.film (q500 (c := c) (i := i) ht).2.2
  unfold waV
  rw [h1]
  exact ⟨rfl, h2⟩
theorem q546 {t : STables} {b : SBody} {e : SEngine} {c : SControls} {i : SInputs} (ht : TabC t) (hb : bodyB b = true) (hc : GoodC e c) (f : Int) : (0 ≤ (inV t b c i f).1 ∧ (inV t b c i f).1 ≤ 1048576) ∧ (0 ≤ (inV t b c i f).2 ∧ (inV t b c i f).2 ≤ 1073741824) := by
  obtain ⟨_, k⟩ := want_ok (i := i) ht hb hc
  have hl := q275 hb hc.film.1
  have hf := hc.film
  unfold inV
  cases hz : (f == 0) || ((waV t b c i).2.2 != 0)
  · rw [Bool.or_eq_false_iff] at hz
    have h0 : (waV t b c i).2.2 = 0 := by simpa using hz.2
    exact ⟨k.inj h0, k.ran h0⟩
  · simp only [cond_true]; omega
theorem st_fuel {t : STables} {b : SBody} {e : SEngine} {c : SControls} {i : SInputs} {n : Nat} (ht : TabC t) (hb : bodyB b = true) (hc : GoodC e c) (hi : AskC i n) (pd : SPedal) (id : SIntegral) (gr : SGrant) (w f l : Int) (pt : List Bool) (o : SOutputs) :
    q136 ⟨t, e, b, ⟨pd, id, c.Knock, c.Probe, c.Film, gr⟩, i, w, cgV t i, f, l, pt, 0, o, 0⟩ =
      some ⟨t, e, b, ⟨pd, id, c.Knock, mxV c.Probe i.Lambda, (inV t b c i f).2, gr⟩, i, w, cgV t i, f, l, pt, tmV t i (inV t b c i f).1, o, 0⟩ := by
  obtain ⟨x1, x2⟩ := q476 hc.mix hi.lam hi.spd (q231 ht i)
  have hf := fac_eq x2 hi.spd (q231 ht i)
  obtain ⟨m1, m2, m3⟩ := q500 (c := c) (i := i) ht
  obtain ⟨w1, w2⟩ := want_ok (i := i) ht hb hc
  have hr := (q546 (i := i) ht hb hc f).1
  have hm : minI 1048576 (w64 (Int.tdiv (w64 ((cgV t i * 10000 / 147000) * facV (mxV c.Probe i.Lambda) i.Speed (cgV t i))) 1000)) = msV t c i := by
    unfold msV
    rw [w64_of (n := (cgV t i * 10000 / 147000) * facV (mxV c.Probe i.Lambda) i.Speed (cgV t i)) (by omega) (by omega), Int.tdiv_eq_ediv_of_nonneg m2.1, w64_of (by omega) (by omega), minI_eq]
  unfold q136
  simp only
  rw [x1]
  simp only [Option.bind_some]
  rw [q37 _ rfl]
  simp only [Option.bind_some]
  rw [hf]
  simp only [Option.bind_some]
  rw [q37 _ rfl]
  simp only [Option.bind_some]
  rw [q562 (q231 ht i)]
  simp only [Option.bind_some]
  rw [q37 _ rfl]
  simp only [Option.bind_some]
  rw [hm, w1]
  simp only [Option.bind_some]
  have hin : ∀ s : Scontrol_step, s.b = b → s.c.Film = c.Film → s.fail = 0 → (bif ((f == 0) || ((waV t b c i).2.2 != 0)) then (Option.bind (q285 b c.Film 0) fun r6 => Option.bind (q19 s r6.2.2) fun v4 => some (0, r6.2.1, v4)) else (some ((waV t b c i).1, (waV t b c i).2.1, s))) = some ((inV t b c i f).1, (inV t b c i f).2, s) := by
    intro s _ _ hs
    unfold inV
    cases (f == 0) || ((waV t b c i).2.2 != 0)
    · rfl
    · simp only [cond_true]
      rw [q541 hb hc.film]
      simp only [Option.bind_some]
      rw [q37 _ hs]
      rfl
  rw [hin _ rfl rfl rfl]
  simp only [Option.bind_some]
  unfold tmV
  cases hj : decide ((inV t b c i f).1 > 0)
  · rfl
  · have hj' := of_decide_eq_true hj
    simp only [cond_true]
    show Option.bind (q284 t (inV t b c i f).1 i.Voltage) _ = _
    rw [q556 ht.dead ⟨hj', hr.2⟩ hi.vol]
    simp only [Option.bind_some]
    rw [q37 _ rfl]
    simp only [Option.bind_some, q61, minI_eq, maxI_eq]
theorem q544 {t : STables} {e : SEngine} {c : SControls} {i : SInputs} (ht : TabC t) (hc : GoodC e c) (hi : AskC i e.Order.length) (b : SBody) (pd : SPedal) (id : SIntegral) (pb : SProbe) (fm : Int) (gr : SGrant) (w f l tm th to_ : Int) (hl : 0 ≤ l ∧ l ≤ 2560) :
    q124 ⟨t, e, b, ⟨pd, id, c.Knock, pb, fm, gr⟩, i, w, cgV t i, f, l, (List.range e.Order.length).map (fun j : Nat => patB (e.Order.length : Int) f (j : Int)), tm, ⟨th, [], to_⟩, 0⟩ =
      some ⟨t, e, b, ⟨pd, id, ksV c.Knock i.Intensity, pb, fm, gr⟩, i, w, cgV t i, f, l, (List.range e.Order.length).map (fun j : Nat => patB (e.Order.length : Int) f (j : Int)), tm, ⟨th, (List.range e.Order.length).map (fiV t c i e.Order.length f l tm), to_⟩, 0⟩ := by
  have hn := hi.num
  have hs := hi.spd
  obtain ⟨k1, k2, k3⟩ := ks_eq hc.kno hi.int (by rw [hc.num]; exact hn) (by rw [hc.num]; exact hi.len)
  rw [hc.num] at k3
  have hk2 := List.all_eq_true.1 k2
  have hq : 0 ≤ 60000000 / max 1 i.Speed ∧ 60000000 / max 1 i.Speed ≤ 60000000 := ⟨Int.ediv_nonneg (by omega) (by omega), Int.ediv_le_self _ (by omega)⟩
  have htk : 4000 ≤ tkV i ∧ tkV i ≤ 1000000 := by unfold tkV; omega
  obtain ⟨d1, d2, d3⟩ := q545 ht.spark ht.tor hi.vol htk
  unfold q124
  simp only
  rw [k1]
  simp only [Option.bind_some]
  rw [q37 _ rfl]
  simp only [Option.bind_some]
  rw [maxI_eq, quoE (by omega) (by omega) (by omega)]
  simp only [Option.bind_some, q61, minI_eq, maxI_eq]
  rw [show min (max (60000000 / max 1 i.Speed) 4000) 1000000 = tkV i from rfl, d1]
  simp only [Option.bind_some]
  rw [q37 _ rfl]
  simp only [Option.bind_some]
  rw [show (((0 : Int) != 0)) = false from rfl]
  simp only [cond_false]
  generalize hP : (List.range e.Order.length).map (fun j : Nat => patB (e.Order.length : Int) f (j : Int)) = P
  have hPl : P.length = e.Order.length := by rw [← hP]; simp
  have hPg : ∀ j, j < e.Order.length → P[j]? = some (patB (e.Order.length : Int) f (j : Int)) := fun j hj => by rw [← hP, List.getElem?_map, List.getElem?_range hj]; rfl
  obtain ⟨u, eu, hu⟩ := rangeN_inv e.Order.length (by omega) (q149 (dwellV t i.Voltage (tkV i), 0)) (fun k u => u = ⟨t, e, b, ⟨pd, id, ksV c.Knock i.Intensity, pb, fm, gr⟩, i, w, cgV t i, f, l, P, tm, ⟨th, (List.range k).map (fiV t c i e.Order.length f l tm), to_⟩, 0⟩)
    ⟨t, e, b, ⟨pd, id, ksV c.Knock i.Intensity, pb, fm, gr⟩, i, w, cgV t i, f, l, P, tm, ⟨th, [], to_⟩, 0⟩ rfl (fun j hj u hu => by
      subst hu
      have hj2 : j < (ksV c.Knock i.Intensity).length := by omega
      have hr := (knOk.1 (hk2 _ (List.getElem_mem hj2))).r
      have hang := q524 t i.Speed (cgV t i) i.Coolant (ksV c.Knock i.Intensity)[j].Retard
      unfold q149
      simp only
      rw [getI_get _ _ hj2]
      simp only [Option.bind_some]
      rw [q539 ht.spark ht.tor hi.spd (q231 ht i) hi.coo ⟨hr.1, by omega⟩]
      simp only [Option.bind_some]
      rw [q37 _ rfl]
      simp only [Option.bind_some]
      rw [getI_nat, hPg j hj]
      simp only [Option.bind_some]
      have hb : (bif patB (e.Order.length : Int) f (j : Int) then (some tm) else (some 0)) = some (bif patB (e.Order.length : Int) f (j : Int) then tm else 0) := by cases patB (e.Order.length : Int) f (j : Int) <;> rfl
      rw [hb]
      simp only [Option.bind_some]
      rw [appendM_ok _ _ (by simp only [List.length_map, List.length_range, List.length_cons, List.length_nil]; omega)]
      simp only [Option.bind_some]
      refine ⟨_, rfl, ?_⟩
      rw [List.range_succ, List.map_append, List.map_cons, List.map_nil]
      unfold fiV
      rw [w64_of (n := (j : Int) + 1) (by omega) (by omega), w64_of (by omega) (by omega), maxI_eq, maxI_eq, List.getD_eq_getElem?_getD, List.getElem?_eq_getElem hj2]
      rfl)
  rw [eu, hu]
  rfl
theorem q553 {t : STables} {e : SEngine} {b : SBody} {c : SControls} {i : SInputs} (h : Giv t e b c i) : ∃ f l, StepOk t e b c i f l ∧ q105 t e b c i = some (nxC t b c i f, outC t e b c i f l, 0) := by
  have ht := tabOk h.t
  have hc := goodOk.1 h.c
  have hi := askOk.1 h.i
  obtain ⟨f, l, s1, s2, s3⟩ := sh_ok ht hi (w := wtV t c i) (by unfold wtV; omega)
  refine ⟨f, l, ⟨s1, s3⟩, ?_⟩
  unfold q105
  rw [q324, h.t, body_eq, h.b, good_eq, h.c]
  simp only [Option.bind_some, Bool.not_true, cond_false]
  rw [ask_eq, h.i]
  simp only [Option.bind_some, Bool.not_true, cond_false]
  rw [q525 ht hc hi]
  simp only [Option.bind_some]
  rw [(q507 ht h.b hi e _ (wtV t c i)).1]
  simp only [Option.bind_some]
  rw [q542 ht hi s2 s3]
  simp only [Option.bind_some]
  rw [st_fuel ht h.b hc hi]
  simp only [Option.bind_some]
  rw [q544 ht hc hi _ _ _ _ _ _ _ _ _ _ _ _ ⟨s3.l0, s3.l1⟩]
  simp only [Option.bind_some]
  rfl
theorem q526 {t : STables} {e : SEngine} {b : SBody} {c : SControls} {i : SInputs} (h : ¬ Giv t e b c i) : ∃ z o g, q105 t e b c i = some (z, o, g) ∧ ((g = 1 ∧ ¬ (ctlB t = true ∧ bodyB b = true ∧ goodB e c = true)) ∨ (g = 2 ∧ askB i (e.Order.length : Int) = false)) := by
  unfold q105
  rw [q324, body_eq, good_eq]
  simp only [Option.bind_some]
  cases h1 : ctlB t
  · exact ⟨_, _, 1, rfl, .inl ⟨rfl, by simp⟩⟩
  · cases h2 : bodyB b
    · exact ⟨_, _, 1, rfl, .inl ⟨rfl, by simp⟩⟩
    · cases h3 : goodB e c
      · exact ⟨_, _, 1, rfl, .inl ⟨rfl, by simp⟩⟩
      · simp only [Bool.not_true, cond_false, Option.bind_some]
        rw [ask_eq]
        cases h4 : askB i (e.Order.length : Int)
        · exact ⟨_, _, 2, rfl, .inr ⟨rfl, rfl⟩⟩
        · exact absurd ⟨h1, h2, h3, h4⟩ h
end Go.Pv
set_option linter.unusedSimpArgs false
namespace Go.Pv
open Go
theorem engP1 : Ev.engP ⟨[1], 0⟩ := by
  have : decide (Ev.engP ⟨[1], 0⟩) = true := by decide
  exact of_decide_eq_true this
theorem awake38 : q119 = some true := by
  unfold q119
  rw [q469, decide_eq_true engP1]
  simp only [cond_true, Option.bind_some, good_eq]
  have g1 : goodB ⟨[1], 0⟩ (newC 1) = true := by unfold goodB; rw [decide_eq_true engP1]; decide
  have g2 : goodB ⟨[1], 0⟩ zeroC = false := by unfold goodB; rw [decide_eq_true engP1]; decide
  rw [show (([1] : List Int).length) = 1 from rfl]
  rw [show (⟨⟨(newC 1).Pedal.Value, (newC 1).Pedal.Differ, (newC 1).Pedal.Fault⟩, ⟨(newC 1).Idle.Sum⟩, (newC 1).Knock, ⟨(newC 1).Probe.Active, (newC 1).Probe.Rich, (newC 1).Probe.Factor, (newC 1).Probe.Wait, (newC 1).Probe.Cells⟩, (newC 1).Film, ⟨(newC 1).Grant.Torque, (newC 1).Grant.Source⟩⟩ : SControls) = newC 1 from rfl, g1]
  rw [show (⟨⟨0, 0, false⟩, ⟨0⟩, [], ⟨false, false, 0, 0, []⟩, 0, ⟨0, 0⟩⟩ : SControls) = zeroC from rfl, g2]
  rfl
theorem few38 (t : STables) : ∃ b, q152 t = some b := by
  have f1 : ∀ m : SMap, ∃ b, q47 m = some b := fun m => by
    unfold q47
    cases h : ((decide ((m.X.length : Int) > 40) || decide ((m.Y.length : Int) > 40)) || decide ((m.Z.length : Int) > 40))
    · have hz : m.Z.length ≤ 40 := by simp at h; omega
      have k : q31 m.Z q75 = some (m.Z.any fun l => decide ((l.length : Int) > 40)) := index_any m.Z (by omega) q75 _ (fun l _ => rfl)
      rw [k]; exact ⟨_, rfl⟩
    · exact ⟨_, rfl⟩
  have e : ∀ (l : List SMap), l.length ≤ 4 → ∃ b, q107 l q47 = some b := fun l hl =>
    ⟨_, index_any l (by omega) q47 (fun m => (f1 m).choose) (fun m _ => (f1 m).choose_spec)⟩
  have e2 : ∀ (l : List SCurve), l.length ≤ 4 → ∃ b, q91 l q83 = some b := fun l hl =>
    ⟨_, index_any l (by omega) q83 (fun c => decide ((c.X.length : Int) > 40) || decide ((c.Y.length : Int) > 40)) (fun m _ => rfl)⟩
  unfold q152
  obtain ⟨b, hb⟩ := e [t.Air, t.Spark, t.Torque, t.Wish] (Nat.le_refl _)
  obtain ⟨b2, hb2⟩ := e2 [t.AirTemp, t.Dwell, t.Dead, t.Efficiency] (Nat.le_refl _)
  rw [hb, hb2]
  cases b <;> exact ⟨_, rfl⟩
theorem err12 {g : Int} (h : g = 1 ∨ g = 2) : (g != 0) = true ∧ ((g == 1) || (g == 2)) = true := by
  rcases h with rfl | rfl <;> exact ⟨rfl, rfl⟩
theorem bad12 {t : STables} {e : SEngine} {b : SBody} {c : SControls} {i : SInputs} (h : ¬ Giv t e b c i) : ∃ z o g, q105 t e b c i = some (z, o, g) ∧ (g != 0) = true ∧ ((g == 1) || (g == 2)) = true := by
  obtain ⟨z, o, g, h1, h2⟩ := q526 h
  refine ⟨z, o, g, h1, err12 ?_⟩
  rcases h2 with h2 | h2
  · exact .inl h2.1
  · exact .inr h2.1
end Go.Pv
set_option linter.unusedSimpArgs false
namespace Go.Pv
open Go
theorem kn_same (l : List SKnock) (h : l.length ≤ 1000) : q111 l l = some true := by
  unfold q111
  rw [show ((l.length : Int) != (l.length : Int)) = false by simp]
  simp only [cond_false]
  obtain ⟨u, e, _⟩ := rangeN_inv (R := Bool) l.length (by omega) (q131 l l) (fun _ _ => True) () trivial (fun j hj u _ => by
    refine ⟨(), ?_, trivial⟩
    unfold q131
    rw [getI_get _ _ hj]
    simp)
  rw [e]; rfl
theorem ce_same (l : List SCell) (h : l.length ≤ 1000) : q82 l l = some true := by
  unfold q82
  rw [show ((l.length : Int) != (l.length : Int)) = false by simp]
  simp only [cond_false]
  obtain ⟨u, e, _⟩ := rangeN_inv (R := Bool) l.length (by omega) (q140 l l) (fun _ _ => True) () trivial (fun j hj u _ => by
    refine ⟨(), ?_, trivial⟩
    unfold q140
    rw [getI_get _ _ hj]
    simp)
  rw [e]; rfl
theorem q540 (t : STables) (e : SEngine) (b : SBody) (c : SControls) (i : SInputs) : q67 t e b c i = some true := by
  unfold q67
  rw [awake38]
  simp only [Option.bind_some, Bool.not_true, cond_false]
  obtain ⟨v, hv⟩ := few38 t
  rw [hv]
  simp only [Option.bind_some]
  cases hx : (bif (!v) then (some true) else (Option.bind (q182 e c i) fun v3 => some (!v3))) with
  | none => cases v <;> cases hx
  | some q =>
    simp only [Option.bind_some]
    cases q
    · simp only [cond_false]
      by_cases h : Giv t e b c i
      · obtain ⟨f, l, k1, k2⟩ := q553 h
        have ht := tabOk h.t
        have hc := goodOk.1 h.c
        have hi := askOk.1 h.i
        have hn := hi.num
        have hrl := hi.few
        obtain ⟨p1, p2⟩ := q446 hc.ped i.Pedal1 i.Pedal2
        have p3 := pedOk.1 p2
        have pv := p3.v
        obtain ⟨s1, s2, s3⟩ := ks_eq hc.kno hi.int (by rw [hc.num]; exact hn) (by rw [hc.num]; exact hi.len)
        obtain ⟨d1, d2⟩ := idlR_eq ht.idle hc.sum hi.coo hi.spd
        have hst := q501 hc.gra (q475 (t := t) (c := c) hi)
        obtain ⟨x1, x2⟩ := q476 hc.mix hi.lam (s := 0) (c := 0) ⟨by omega, by omega⟩ ⟨by omega, by omega⟩
        have xn := (mixOk.1 x2).n
        rw [k2]
        simp only [Option.bind_some]
        rw [show (((0 : Int) != 0)) = false from rfl]
        simp only [cond_false]
        rw [p1]
        simp only [Option.bind_some]
        rw [wish_eq ht.wish pv hi.spd]
        simp only [Option.bind_some]
        rw [s1]
        simp only [Option.bind_some]
        have e1 : (nxC t b c i f).Pedal = pedV c.Pedal i.Pedal1 i.Pedal2 := rfl
        have e2 : (nxC t b c i f).Knock = ksV c.Knock i.Intensity := rfl
        have e3 : (nxC t b c i f).Probe = mxV c.Probe i.Lambda := rfl
        have e4 : (nxC t b c i f).Grant = grantV c.Grant (rqV t c i) := rfl
        have e5 : (nxC t b c i f).Idle = idV t c i := rfl
        rw [e1, e2, e3, e4, e5, kn_same _ (by rw [s3, hc.num]; omega)]
        rw [show (((0 : Int) != 0)) = false from rfl]
        simp only [Bool.or_self, cond_false, beq_self_eq_true, Bool.and_self, Bool.not_true, Option.bind_some, Bool.and_true]
        rw [act_eq hi.coo]
        simp only [Option.bind_some]
        rw [(tgt_eq hi.coo).1]
        simp only [Option.bind_some]
        have tail : (Option.bind (q148 c.Probe i.Lambda 0 0) fun r8 => Option.bind (bif ((((r8.2 == 0) && ((mxV c.Probe i.Lambda).Factor == r8.1.Factor)) && ((mxV c.Probe i.Lambda).Active == r8.1.Active)) && ((mxV c.Probe i.Lambda).Rich == r8.1.Rich)) then (Option.bind (q82 (mxV c.Probe i.Lambda).Cells r8.1.Cells) fun v7 => some v7) else (some false)) fun b8 => some b8) = some true := by
          rw [x1]
          simp only [Option.bind_some, beq_self_eq_true, Bool.and_self, cond_true]
          rw [ce_same _ (by omega)]; rfl
        unfold idV acV pdV
        cases hac : actV (pedV c.Pedal i.Pedal1 i.Pedal2).Value i.Speed i.Coolant
        · have hrq : ⟨0, 3, wishV t (pedV c.Pedal i.Pedal1 i.Pedal2).Value i.Speed, 0⟩ :: i.Requests = rqV t c i := by
            unfold rqV acV wsV pdV
            rw [hac]; rfl
          simp only [cond_false, Option.bind_some, List.nil_append]
          rw [appendM_ok _ _ (by simp only [List.length_cons, List.length_nil]; omega)]
          simp only [Option.bind_some, List.cons_append, List.nil_append]
          rw [hrq, hst]
          simp only [Option.bind_some]
          rw [show (((0 : Int) != 0)) = false from rfl]
          simp only [beq_self_eq_true, Bool.and_self, Bool.and_true, Bool.not_true, cond_false, Option.bind_some]
          exact tail
        · have hrq : ⟨0, 3, wishV t (pedV c.Pedal i.Pedal1 i.Pedal2).Value i.Speed, 0⟩ :: ⟨1, 2, min (max (idlR c.Idle t.Idle i.Coolant i.Speed).2.1 (-5000)) 10000, 1⟩ :: i.Requests = rqV t c i := by
            unfold rqV acV wsV pdV
            rw [hac]; rfl
          simp only [cond_true, Option.bind_some, List.cons_append, List.nil_append]
          rw [d1]
          simp only [Option.bind_some]
          rw [show (((0 : Int) != 0)) = false from rfl]
          simp only [cond_false]
          rw [show maxI (-5000) (minI 10000 (idlR c.Idle t.Idle i.Coolant i.Speed).2.1) = min (max (idlR c.Idle t.Idle i.Coolant i.Speed).2.1 (-5000)) 10000 by rw [maxI_eq, minI_eq]; omega]
          rw [appendM_ok _ _ (by simp only [List.length_cons, List.length_nil]; omega)]
          simp only [Option.bind_some]
          rw [appendM_ok _ _ (by simp only [List.length_append, List.length_cons, List.length_nil]; omega)]
          simp only [Option.bind_some, List.cons_append, List.nil_append]
          rw [hrq, hst]
          simp only [Option.bind_some]
          rw [show (((0 : Int) != 0)) = false from rfl]
          simp only [beq_self_eq_true, Bool.and_self, Bool.and_true, Bool.not_true, cond_false, Option.bind_some]
          exact tail
      · obtain ⟨z, o, g, k1, k2, k3⟩ := bad12 h
        rw [k1]
        simp only [Option.bind_some, k2, cond_true, k3]
    · rfl
end Go.Pv
namespace Go.Pv
open Go
theorem q414 (x0 : STables) (x1 : SEngine) (x2 : SBody) (x3 : SControls) (x4 : SInputs) (g0 : wf_STables x0) (g1 : wf_SEngine x1) (g2 : wf_SBody x2) (g3 : wf_SControls x3) (g4 : wf_SInputs x4) : q67 x0 x1 x2 x3 x4 = some true :=
  have _ := g0
  have _ := g1
  have _ := g2
  have _ := g3
  have _ := g4
  q540 x0 x1 x2 x3 x4
end Go.Pv

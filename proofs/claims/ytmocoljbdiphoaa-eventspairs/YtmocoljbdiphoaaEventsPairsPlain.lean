/- The plain law of EventsPairs. -/
import Derived.Test.YtmocoljbdiphoaaRef
set_option linter.unusedSimpArgs false
namespace Go.Pv
open Go

theorem distP_eq {a b : Int} (ha : 0 ≤ a ∧ a < 46080) (hb : 0 ≤ b ∧ b < 46080) : events_Distance a b = some ((b - a) % 46080) := by
  unfold events_Distance events_angle
  rw [show (decide (a ≥ 0) && decide (a < 46080)) = true by simp; omega, show (decide (b ≥ 0) && decide (b < 46080)) = true by simp; omega, w64_of (by omega) (by omega), mod_eq _ (by omega) (by omega)]
  rfl

/-! What find finds. -/
def isE (k c p : Int) (x : SEvent) : Bool := (x.Kind == k) && (x.Cylinder == c) && (x.Pulse == p)
theorem find_steps (k c p : Int) : ∀ (l : List SEvent) (i : Int) (s : Int × Int), stepsL (magnetolaw23_EventsPairs_2_b1 k c p) l i s = some (.inl (l.foldl (fun s x => bif isE k c p x then (x.Angle, w64 (s.2 + 1)) else s) s))
  | [], _, _ => rfl
  | x :: l, i, s => by
    have h : magnetolaw23_EventsPairs_2_b1 k c p i x s = some (.next (bif isE k c p x then (x.Angle, w64 (s.2 + 1)) else s)) := by
      unfold magnetolaw23_EventsPairs_2_b1 isE
      cases ((x.Kind == k) && (x.Cylinder == c)) && (x.Pulse == p) <;> rfl
    simp only [stepsL, h, Option.bind_some, List.foldl_cons]
    exact find_steps k c p l (i + 1) _
theorem fold_filter {α β : Type} (q : α → Bool) (g : β → α → β) : ∀ (l : List α) (s : β), l.foldl (fun s x => bif q x then g s x else s) s = (l.filter q).foldl g s
  | [], _ => rfl
  | x :: l, s => by
    rw [List.foldl_cons, fold_filter q g l]
    cases h : q x
    · rw [List.filter_cons_of_neg (by simp [h])]; rfl
    · rw [List.filter_cons_of_pos h]; rfl
theorem find_eq {k c p : Int} {l : List SEvent} {x : SEvent} (hl : l.length ≤ 100000) (h : l.filter (isE k c p) = [x]) : magnetolaw23_EventsPairs_2 k c p l = some (x.Angle, true) := by
  unfold magnetolaw23_EventsPairs_2
  rw [rangeM_steps _ (by omega), find_steps]
  simp only [Option.bind_some]
  rw [fold_filter (isE k c p) (fun s x => (x.Angle, w64 (s.2 + 1))) l (0, 0), h]
  rfl

theorem dup_pair {l : List SFire} (h : dupB l = false) : l.Pairwise fun a b => a.Cylinder ≠ b.Cylinder := by
  rw [List.pairwise_iff_getElem]
  intro i j hi hj hij e
  unfold dupB at h
  rw [List.any_eq_false] at h
  refine h j (by rw [List.mem_range'_1]; omega) ?_
  unfold dupAt
  rw [List.getElem?_eq_getElem hj]
  simp only
  rw [List.any_eq_true]
  refine ⟨l[i], ?_, by simp [e]⟩
  rw [List.mem_iff_getElem]
  exact ⟨i, by rw [List.length_take]; omega, by rw [List.getElem_take]⟩

theorem evs_cyl {e : SEngine} {t : Int} {f : SFire} {x : SEvent} (h : x ∈ evs e t f) : x.Cylinder = f.Cylinder := by
  unfold evs at h
  rw [List.mem_map] at h
  obtain ⟨o, _, rfl⟩ := h
  rfl
theorem filt_none {e : SEngine} {t k p : Int} {f : SFire} {c : Int} (h : f.Cylinder ≠ c) : (evs e t f).filter (isE k c p) = [] := by
  rw [List.filter_eq_nil_iff]
  intro x hx
  unfold isE
  rw [evs_cyl hx, show (f.Cylinder == c) = false by simpa using h]
  simp
theorem filt_flat {e : SEngine} {t k p : Int} : ∀ {l : List SFire} {f : SFire}, (l.Pairwise fun a b => a.Cylinder ≠ b.Cylinder) → f ∈ l → (l.flatMap (evs e t)).filter (isE k f.Cylinder p) = (evs e t f).filter (isE k f.Cylinder p)
  | [], _, _, hf => by simp at hf
  | y :: l, f, h, hf => by
    rw [List.pairwise_cons] at h
    rw [List.flatMap_cons, List.filter_append]
    rcases List.mem_cons.1 hf with rfl | hf
    · have : (l.flatMap (evs e t)).filter (isE k f.Cylinder p) = [] := by
        rw [List.filter_eq_nil_iff]
        intro x hx
        rw [List.mem_flatMap] at hx
        obtain ⟨g, hg, hx⟩ := hx
        have := h.1 g hg
        unfold isE
        rw [evs_cyl hx, show (g.Cylinder == f.Cylinder) = false by simpa using fun e => this e.symm]
        simp
      rw [this, List.append_nil]
    · rw [filt_none (h.1 f hf), List.nil_append]
      exact filt_flat h.2 hf
theorem filt_srt {e : SEngine} {t k p : Int} {l : List SFire} {f : SFire} {x : SEvent} (h : dupB l = false) (hf : f ∈ l) (hx : (evs e t f).filter (isE k f.Cylinder p) = [x]) : (srt (l.flatMap (evs e t))).filter (isE k f.Cylinder p) = [x] := by
  have h1 := ((srt_perm (l.flatMap (evs e t))).filter (isE k f.Cylinder p))
  rw [filt_flat (dup_pair h) hf, hx] at h1
  exact List.perm_singleton.1 h1

theorem isE_evF (e : SEngine) (f : SFire) (o : Int × Int × Int) (k p : Int) : isE k f.Cylinder p (evF e f o) = ((o.2.1 == k) && (o.2.2 == p)) := by
  unfold isE evF; simp

theorem filt_evs (e : SEngine) (t : Int) (f : SFire) (k p : Int) : (evs e t f).filter (isE k f.Cylinder p) = ((offs f t).filter fun o => (o.2.1 == k) && (o.2.2 == p)).map (evF e f) := by
  unfold evs
  rw [List.filter_map]
  congr 1
  congr 1
  funext o
  exact isE_evF e f o k p

theorem sum_flat (e : SEngine) (t : Int) (f : SFire) : ((evs e t f).length : Int) = 2 + 2 * pul f := by
  unfold evs; rw [List.length_map]
  rcases pul_cases f with h | h | h <;> simp [offs, h]

theorem sorted_eq (l : List SEvent) (hl : l.length ≤ 100000) (ha : Asc l) (hr : ∀ x ∈ l, 0 ≤ x.Angle ∧ x.Angle < 46080) : slices_IsSortedFunc_sEvent l magnetolaw23_EventsPairs_1 = some true := by
  unfold slices_IsSortedFunc_sEvent
  cases hn : l.length with
  | zero =>
    rw [show w64 (((0 : Nat) : Int) - 1) = -1 from rfl]
    rw [loopM_out (b := .inl (-1)) rfl]; rfl
  | succ n =>
    rw [w64_of (by omega) (by omega), show ((n + 1 : Nat) : Int) - 1 = (n : Int) by omega]
    have k := loopM_count (mb := slices_IsSortedFunc_sEvent_b1 l magnetolaw23_EventsPairs_1) (fun i => ((n - i : Nat) : Int)) (b0 := .inl 0) n (by
      rw [Nat.sub_self]; rfl) (fun i hi => by
      unfold slices_IsSortedFunc_sEvent_b1 magnetolaw23_EventsPairs_1
      rw [show decide (((n - i : Nat) : Int) > 0) = true from decide_eq_true (by omega), w64_of (n := ((n - i : Nat) : Int) - 1) (by omega) (by omega), show ((n - i : Nat) : Int) - 1 = ((n - (i + 1) : Nat) : Int) by omega, getI_get _ _ (by omega), getI_get _ _ (by omega)]
      simp only [cond_true, Option.bind_some]
      have h1 := hr _ (List.getElem_mem (show n - i < l.length by omega))
      have h2 := hr _ (List.getElem_mem (show n - (i + 1) < l.length by omega))
      have h3 := ha
      unfold Asc at h3
      rw [List.pairwise_iff_getElem] at h3
      have h4 := h3 (n - (i + 1)) (n - i) (by omega) (by omega) (by omega)
      unfold ltE at h4
      rw [decide_eq_false_iff_not] at h4
      rw [w64_of (by omega) (by omega), show decide (l[n - i].Angle - l[n - (i + 1)].Angle < 0) = false from decide_eq_false (by omega)]
      rfl)
    simp only [Nat.sub_zero] at k
    rw [k]; rfl

theorem tmod_zero {a : Int} (h : (46080 : Int) ∣ a) : (a.tmod 46080 != 0) = false := by
  rw [Int.tmod_eq_zero_of_dvd h]; rfl

theorem minI_mn (x : Int) : minI x 23040 = mn x := rfl

/-- One fire in the list's check. -/
theorem pair_step (e : SEngine) (l : List SFire) (t i : Int) (x : SFire) (many : Int) (he : engP e) (ht : 4000 ≤ t) (hx : x ∈ l) (hf : fireP e x) (hd : dupB l = false) (hlong : long t x = false) (hl : l.length ≤ 100) (hm : 0 ≤ many ∧ many ≤ 100000) :
    magnetolaw23_EventsPairs_b1 e t (srt (l.flatMap (evs e t)), 0) i x many = some (.next (many + (2 + 2 * pul x))) := by
  obtain ⟨⟨d0, d1⟩, ⟨i0, i1⟩, ⟨g0, g1⟩, ⟨x0, x1⟩, ⟨s0, s1⟩, n0, n1⟩ := fire_ranges hf
  have hfc := hf.1
  have hd2 : 500 ≤ x.Dwell ∧ x.Dwell ≤ 10000 := by have := hf; unfold fireP at this; omega
  obtain ⟨c0, c1⟩ := cen_range e x.Cylinder
  have td := mn_range (trn_range d0 d1 ht).1
  have ti := trn_range i0 i1 ht
  have tg := trn_range g0 g1 ht
  have tx := trn_range x0 x1 ht
  have hsl : (srt (l.flatMap (evs e t))).length ≤ 100000 := by rw [srt_len]; have := flat_len e t l; omega
  unfold long at hlong
  simp only [Bool.or_eq_false_iff, decide_eq_false_iff_not] at hlong
  have f1 : magnetolaw23_EventsPairs_2 1 x.Cylinder 0 (srt (l.flatMap (evs e t))) = some ((cen e x.Cylinder + (-x.Spark - mn (trn x.Dwell t))) % 46080, true) :=
    find_eq (x := evF e x (-x.Spark - mn (trn x.Dwell t), 1, 0)) hsl (filt_srt hd hx (by rw [filt_evs]; rcases pul_cases x with h | h | h <;> simp [offs, h]))
  have f2 : magnetolaw23_EventsPairs_2 2 x.Cylinder 0 (srt (l.flatMap (evs e t))) = some ((cen e x.Cylinder + -x.Spark) % 46080, true) :=
    find_eq (x := evF e x (-x.Spark, 2, 0)) hsl (filt_srt hd hx (by rw [filt_evs]; rcases pul_cases x with h | h | h <;> simp [offs, h]))
  have f3 : 0 < pul x → magnetolaw23_EventsPairs_2 3 x.Cylinder 1 (srt (l.flatMap (evs e t))) = some ((cen e x.Cylinder + (-x.End - trn x.Inject t)) % 46080, true) := fun hp =>
    find_eq (x := evF e x (-x.End - trn x.Inject t, 3, 1)) hsl (filt_srt hd hx (by rw [filt_evs]; rcases pul_cases x with h | h | h <;> first | omega | simp [offs, h]))
  have f4 : 0 < pul x → magnetolaw23_EventsPairs_2 4 x.Cylinder 1 (srt (l.flatMap (evs e t))) = some ((cen e x.Cylinder + -x.End) % 46080, true) := fun hp =>
    find_eq (x := evF e x (-x.End, 4, 1)) hsl (filt_srt hd hx (by rw [filt_evs]; rcases pul_cases x with h | h | h <;> first | omega | simp [offs, h]))
  have f5 : 1 < pul x → magnetolaw23_EventsPairs_2 3 x.Cylinder 2 (srt (l.flatMap (evs e t))) = some ((cen e x.Cylinder + (-x.End + trn x.Gap t)) % 46080, true) := fun hp =>
    find_eq (x := evF e x (-x.End + trn x.Gap t, 3, 2)) hsl (filt_srt hd hx (by rw [filt_evs]; rcases pul_cases x with h | h | h <;> first | omega | simp [offs, h]))
  have f6 : 1 < pul x → magnetolaw23_EventsPairs_2 4 x.Cylinder 2 (srt (l.flatMap (evs e t))) = some ((cen e x.Cylinder + (-x.End + trn x.Gap t + trn x.Extra t)) % 46080, true) := fun hp =>
    find_eq (x := evF e x (-x.End + trn x.Gap t + trn x.Extra t, 4, 2)) hsl (filt_srt hd hx (by rw [filt_evs]; rcases pul_cases x with h | h | h <;> first | omega | simp [offs, h]))
  have qd : quoM .i64 (w64 (x.Dwell * 23040)) t = some (trn x.Dwell t) := by rw [w64_of (by omega) (by omega), quo_eq (by omega) (by omega) (by omega)]; rfl
  have qi : quoM .i64 (w64 (x.Inject * 23040)) t = some (trn x.Inject t) := by rw [w64_of (by omega) (by omega), quo_eq (by omega) (by omega) (by omega)]; rfl
  have qx : quoM .i64 (w64 (x.Extra * 23040)) t = some (trn x.Extra t) := by rw [w64_of (by omega) (by omega), quo_eq (by omega) (by omega) (by omega)]; rfl
  have hC : events_Center e x.Cylinder = some (cen e x.Cylinder, 0) := by rw [Center_eq, decide_eq_true he, decide_eq_true hfc]; rfl
  unfold magnetolaw23_EventsPairs_b1
  rw [hC]
  simp only [Option.bind_some]
  rw [f1, f2]
  simp only [Option.bind_some, Bool.not_true, cond_false, bne_self_eq_false]
  rw [show decide (x.Dwell < 0) = false from decide_eq_false (by omega), show decide (x.Dwell > 10000) = false from decide_eq_false (by omega), qd, pulses_eq]
  simp only [Option.bind_some, cond_false, minI_mn]
  generalize hgC : cen e x.Cylinder = C at *
  generalize hgD : mn (trn x.Dwell t) = D at *
  rw [distP_eq ⟨by omega, by omega⟩ ⟨by omega, by omega⟩, w64_of (n := (C + -x.Spark) % 46080 + x.Spark) (by omega) (by omega), w64_of (n := (C + -x.Spark) % 46080 + x.Spark - C) (by omega) (by omega)]
  simp only [Option.bind_some]
  rw [show (((C + -x.Spark) % 46080 - (C + (-x.Spark - D)) % 46080) % 46080 != D) = false by simp; omega, tmod_zero (show (46080 : Int) ∣ (C + -x.Spark) % 46080 + x.Spark - C by omega)]
  simp only [cond_false, Option.bind_some]
  have hloop : loopM (magnetolaw23_EventsPairs_b2 t (srt (l.flatMap (evs e t)), 0) x (C, 0)) 1 = some (.inl (pul x + 1)) := by
    have stop : ∀ p : Int, p > pul x → loopM (magnetolaw23_EventsPairs_b2 t (srt (l.flatMap (evs e t)), 0) x (C, 0)) p = some (.inl p) := fun p hp => by
      refine loopM_out ?_
      unfold magnetolaw23_EventsPairs_b2
      rw [pulses_eq]
      simp only [Option.bind_some]
      rw [show decide (p ≤ pul x) = false from decide_eq_false (by omega)]; rfl
    have one : 0 < pul x → magnetolaw23_EventsPairs_b2 t (srt (l.flatMap (evs e t)), 0) x (C, 0) 1 = some (.inl 2) := fun hp => by
      unfold magnetolaw23_EventsPairs_b2
      rw [pulses_eq]
      simp only [Option.bind_some]
      rw [show decide (1 ≤ pul x) = true from decide_eq_true (by omega), f3 hp, f4 hp]
      simp only [cond_true, Option.bind_some, Bool.not_true, cond_false, show ((1 : Int) == 2) = false from rfl]
      rw [show decide (x.Inject > 20000) = false from decide_eq_false (by omega), qi]
      generalize hgA : trn x.Inject t = A at *
      rw [distP_eq ⟨by omega, by omega⟩ ⟨by omega, by omega⟩]
      simp only [cond_false, Option.bind_some]
      rw [show (((C + -x.End) % 46080 - (C + (-x.End - A)) % 46080) % 46080 != A) = false by simp; omega, show decide (((C + -x.End) % 46080 - (C + (-x.End - A)) % 46080) % 46080 > 23040) = false from decide_eq_false (by omega), w64_of (n := (C + -x.End) % 46080 + x.End) (by omega) (by omega), w64_of (n := (C + -x.End) % 46080 + x.End - C) (by omega) (by omega), tmod_zero (show (46080 : Int) ∣ (C + -x.End) % 46080 + x.End - C by omega)]
      rfl
    have two : 1 < pul x → magnetolaw23_EventsPairs_b2 t (srt (l.flatMap (evs e t)), 0) x (C, 0) 2 = some (.inl 3) := fun hp => by
      unfold magnetolaw23_EventsPairs_b2
      rw [pulses_eq]
      simp only [Option.bind_some]
      rw [show decide (2 ≤ pul x) = true from decide_eq_true (by omega), f5 hp, f6 hp]
      simp only [cond_true, Option.bind_some, Bool.not_true, cond_false, show ((2 : Int) == 2) = true from rfl]
      rw [show decide (x.Extra > 20000) = false from decide_eq_false (by omega), qx]
      generalize hgA : trn x.Gap t = A at *
      generalize hgB : trn x.Extra t = B at *
      rw [distP_eq ⟨by omega, by omega⟩ ⟨by omega, by omega⟩]
      simp only [cond_false, Option.bind_some]
      rw [show (((C + (-x.End + A + B)) % 46080 - (C + (-x.End + A)) % 46080) % 46080 != B) = false by simp; omega, show decide (((C + (-x.End + A + B)) % 46080 - (C + (-x.End + A)) % 46080) % 46080 > 23040) = false from decide_eq_false (by omega)]
      rfl
    rcases pul_cases x with h | h | h
    · rw [stop 1 (by omega), h]; rfl
    · rw [loopM_next (one (by omega)), stop 2 (by omega), h]; rfl
    · rw [loopM_next (one (by omega)), loopM_next (two (by omega)), stop 3 (by omega), h]; rfl
  rw [hloop]
  simp only [Option.bind_some]
  have hp := pul_cases x
  rw [w64_of (n := 2 * pul x) (by omega) (by omega), w64_of (n := 2 + 2 * pul x) (by omega) (by omega), w64_of (by omega) (by omega)]

theorem evsP_angle {e : SEngine} {t : Int} {f : SFire} {x : SEvent} (h : x ∈ evs e t f) : 0 ≤ x.Angle ∧ x.Angle < 46080 := by
  unfold evs at h
  rw [List.mem_map] at h
  obtain ⟨o, ho, rfl⟩ := h
  unfold evF
  simp only
  omega

theorem plain_EventsPairs (x0 : SEngine) (x1 : List SFire) (x2 : Int) (_ : wf_SEngine x0) (_ : (wfL wf_SFire) x1) (_ : (fun n => (Lit.int .i64 n).wf = true) x2) : magnetolaw23_EventsPairs x0 x1 x2 = some true := by
  unfold magnetolaw23_EventsPairs
  rw [awake23]
  simp only [Option.bind_some, Bool.not_true, cond_false]
  cases h20 : decide ((x1.length : Int) > 20)
  · have hl : x1.length ≤ 20 := by simp at h20; omega
    simp only [cond_false]
    rw [plan_eq _ _ _ (by omega)]
    simp only [Option.bind_some]
    unfold planV
    cases hd : decide (engP x0)
    · rfl
    · have he := of_decide_eq_true hd
      cases hb : badF x0 x1
      · have hf := badF_false hb
        cases ht : tickB x2
        · rfl
        · have ht2 : 4000 ≤ x2 ∧ x2 ≤ 1000000 := by unfold tickB at ht; simp at ht; omega
          cases hdup : dupB x1
          · cases hlong : x1.any (long x2)
            · simp only [Bool.not_true, cond_false, bne_self_eq_false]
              rw [show (decide (x2 < 4000) || decide (x2 > 1000000)) = false by simp; omega]
              have hfl := flat_len x0 x2 x1
              simp only [cond_false]
              rw [sorted_eq _ (by rw [srt_len]; omega) (srt_asc _) (fun x hx => by
                have := (srt_perm _).mem_iff.1 hx
                rw [List.mem_flatMap] at this
                obtain ⟨f, _, hf⟩ := this
                exact evsP_angle hf)]
              simp only [Option.bind_some, Bool.not_true, cond_false]
              rw [List.any_eq_false] at hlong
              obtain ⟨s, k1, k2⟩ := rangeM_inv (R := Bool) x1 (by omega) (magnetolaw23_EventsPairs_b1 x0 x2 (srt (x1.flatMap (evs x0 x2)), 0)) (fun i s => s = (((x1.take i).flatMap (evs x0 x2)).length : Int)) 0 (by simp) (fun j hj s hs => by
                have h6 := flat_len x0 x2 (x1.take j)
                rw [List.length_take] at h6
                subst hs
                rw [pair_step x0 x1 x2 _ x1[j] _ he ht2.1 (List.getElem_mem hj) (hf _ (List.getElem_mem hj)) hdup (by simpa using hlong _ (List.getElem_mem hj)) (by omega) ⟨by omega, by omega⟩]
                refine ⟨_, rfl, ?_⟩
                rw [List.take_succ_eq_append_getElem hj, List.flatMap_append, List.flatMap_singleton, List.length_append, ← sum_flat x0 x2]
                omega)
              rw [k1]
              simp only [Option.bind_some]
              rw [k2, srt_len, List.take_length]
              simp
            · rfl
          · rfl
      · rfl
  · rfl
end Go.Pv

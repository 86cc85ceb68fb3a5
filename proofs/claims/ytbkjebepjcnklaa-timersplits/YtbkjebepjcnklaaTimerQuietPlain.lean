/- The plain law of TimerQuiet. -/
import Derived.Test.YtbkjebepjcnklaaTimerLevelsPlain
set_option linter.unusedSimpArgs false
namespace Go.Pv
open Go

/-- The least time of the armed channels. -/
def nxS (s : Int × Bool) (c : SChannel) : Int × Bool := bif c.Armed && ((!s.2) || decide (c.At < s.1)) then (c.At, true) else s
def nxV (l : List SChannel) : Int × Bool := l.foldl nxS (0, false)

theorem next_fold (l : List SChannel) (h : l.length ≤ 1000) (s : Int × Bool) : rangeM l timer_Next_b1 s = some (.inl (l.foldl nxS s)) := by
  rw [rangeM_steps _ (by omega)]
  refine stepsL_fold l 0 s fun i s y _ => ?_
  unfold timer_Next_b1 nxS
  cases y.Armed <;> cases ((!s.2) || decide (y.At < s.1)) <;> rfl

theorem next_eq (t : STimer) : timer_Next t = some (bif timB t then nxV t.Channels else (0, false)) := by
  unfold timer_Next
  rw [tvalid]
  cases h : timB t
  · rfl
  · have hl := timB_len h
    simp only [Option.bind_some, Bool.not_true, cond_false, cond_true]
    rw [next_fold _ (by omega)]
    rfl

theorem nx_spec : ∀ (l : List SChannel) (s : Int × Bool), (∀ c ∈ l, c.Armed = true → (l.foldl nxS s).2 = true ∧ (l.foldl nxS s).1 ≤ c.At) ∧ (s.2 = true → (l.foldl nxS s).2 = true ∧ (l.foldl nxS s).1 ≤ s.1) ∧
    ((l.foldl nxS s).2 = true → (l.foldl nxS s) = s ∨ ∃ c ∈ l, c.Armed = true ∧ c.At = (l.foldl nxS s).1)
  | [], s => ⟨fun c h => by simp at h, fun h => ⟨h, Int.le_refl _⟩, fun _ => .inl rfl⟩
  | x :: l, s => by
    obtain ⟨h1, h2, h3⟩ := nx_spec l (nxS s x)
    simp only [List.foldl_cons]
    have hx : x.Armed = true → (nxS s x).2 = true ∧ (nxS s x).1 ≤ x.At := fun ha => by
      unfold nxS; rw [ha]
      cases hc : (!s.2) || decide (x.At < s.1)
      · simp only [Bool.or_eq_false_iff, Bool.not_eq_false', decide_eq_false_iff_not] at hc
        simp only [Bool.true_and, cond_false]
        exact ⟨hc.1, by omega⟩
      · exact ⟨rfl, Int.le_refl _⟩
    have hs : s.2 = true → (nxS s x).2 = true ∧ (nxS s x).1 ≤ s.1 := fun hb => by
      unfold nxS
      cases hc : x.Armed && ((!s.2) || decide (x.At < s.1))
      · exact ⟨hb, Int.le_refl _⟩
      · simp only [hb, Bool.not_true, Bool.false_or, Bool.and_eq_true, decide_eq_true_eq] at hc
        exact ⟨rfl, by simp only [cond_true]; omega⟩
    refine ⟨fun c hc ha => ?_, fun hb => ?_, fun hb => ?_⟩
    · rcases List.mem_cons.1 hc with rfl | hc
      · have := hx ha
        have h4 := h2 this.1
        exact ⟨h4.1, Int.le_trans h4.2 this.2⟩
      · exact h1 c hc ha
    · have := hs hb
      have h4 := h2 this.1
      exact ⟨h4.1, Int.le_trans h4.2 this.2⟩
    · rcases h3 hb with h4 | ⟨c, h5, h6, h7⟩
      · rw [h4]
        unfold nxS
        cases hc : x.Armed && ((!s.2) || decide (x.At < s.1))
        · exact .inl rfl
        · simp only [Bool.and_eq_true] at hc
          exact .inr ⟨x, List.mem_cons_self .., hc.1, rfl⟩
      · exact .inr ⟨c, List.mem_cons_of_mem _ h5, h6, h7⟩

theorem nxV_armed {l : List SChannel} {c : SChannel} (hc : c ∈ l) (ha : c.Armed = true) : (nxV l).2 = true ∧ (nxV l).1 ≤ c.At := (nx_spec l (0, false)).1 c hc ha
theorem nxV_some {l : List SChannel} (h : (nxV l).2 = true) : ∃ c ∈ l, c.Armed = true ∧ c.At = (nxV l).1 := by
  rcases (nx_spec l (0, false)).2.2 h with h1 | h1
  · exfalso; unfold nxV at h; rw [h1] at h; cases h
  · exact h1
theorem nxV_none {l : List SChannel} (h : ∀ c ∈ l, c.Armed = false) : nxV l = (0, false) := by
  unfold nxV
  induction l with
  | nil => rfl
  | cons x l ih =>
    have : nxS (0, false) x = (0, false) := by unfold nxS; rw [h x (List.mem_cons_self ..)]; rfl
    rw [List.foldl_cons, this]
    exact ih fun c hc => h c (List.mem_cons_of_mem _ hc)

theorem none_due {l : List SChannel} {v_to : Int} (h : ∀ c ∈ l, due v_to c = false) : advS v_to l = [] ∧ l.map (advC v_to) = l := by
  have h1 : ∀ (l : List SChannel) (i : Nat), (∀ c ∈ l, due v_to c = false) → swsF v_to i l = [] := by
    intro l
    induction l with
    | nil => intro i _; rfl
    | cons x l ih =>
      intro i h
      have : swC v_to i x = [] := by unfold swC; rw [h x (List.mem_cons_self ..)]; rfl
      simp only [swsF, this, List.nil_append]
      exact ih (i + 1) fun c hc => h c (List.mem_cons_of_mem _ hc)
  refine ⟨by unfold advS; rw [h1 l 0 h]; simp, ?_⟩
  rw [List.map_congr_left (g := id) (fun c hc => by unfold advC; rw [h c hc]; rfl)]
  simp

theorem plain_TimerQuiet (x0 : STimer) (x1 : Int) (_ : wf_STimer x0) (_ : (fun n => (Lit.int .i64 n).wf = true) x1) : magnetolaw24_TimerQuiet x0 x1 = some true := by
  unfold magnetolaw24_TimerQuiet
  rw [awake24, tvalid]
  simp only [Option.bind_some, Bool.not_true, Bool.false_or]
  cases h100 : decide ((x0.Channels.length : Int) > 100)
  · simp only [cond_false]
    cases hv : timB x0
    · rfl
    · have hl := timB_len hv
      have hall : ∀ c ∈ x0.Channels, chB x0.Now c = true := by
        have := hv; unfold timB at this
        simp only [Bool.and_eq_true, List.all_eq_true] at this
        exact this.2
      simp only [Option.bind_some, Bool.not_true, cond_false]
      rw [next_eq, hv]
      simp only [cond_true, Option.bind_some]
      -- the first part
      have hfirst : (bif (nxV x0.Channels).2 then (Option.bind (timer_Advance x0 (w64 ((nxV x0.Channels).1 - 1))) fun r3 => Option.bind (timer_Next r3.1) fun r4 => Option.bind (bif ((((r3.2.2 != 0) || ((r3.2.1.length : Int) != 0)) || (!r4.2)) || (r4.1 != (nxV x0.Channels).1)) then (some true) else (Option.bind (slices_Equal_sChannel r3.1.Channels x0.Channels) fun v4 => some (!v4))) fun b3 => bif b3 then (some (Sum.inr false)) else (some (Sum.inl ()))) else (some (Sum.inl ()))) = (some (Sum.inl ()) : Option (Unit ⊕ Bool)) := by
        cases hn : (nxV x0.Channels).2
        · rfl
        · obtain ⟨c, hc, ha, hat⟩ := nxV_some hn
          have hcb := chB_armed (hall c hc) ha
          simp only [cond_true]
          rw [w64_of (by omega) (by omega), adv_eq, hv]
          have h1 : decide ((nxV x0.Channels).1 - 1 < x0.Now) = false := by simp; omega
          have h2 : decide ((nxV x0.Channels).1 - 1 > MAXT) = false := by unfold MAXT; simp; omega
          rw [h1, h2]
          have hd : ∀ d ∈ x0.Channels, due ((nxV x0.Channels).1 - 1) d = false := fun d hd => by
            unfold due
            cases hda : d.Armed
            · rfl
            · have := (nxV_armed hd hda).2
              simp; omega
          obtain ⟨k1, k2⟩ := none_due hd
          simp only [Bool.not_true, cond_false, Option.bind_some]
          have hv2 := timB_adv hv (v_to := (nxV x0.Channels).1 - 1) (by omega) (by omega)
          rw [k1, k2] at *
          rw [next_eq, hv2]
          simp only [cond_true, Option.bind_some, bne_self_eq_false, List.length_nil, hn, Bool.not_true, Bool.or_self]
          have e0 : (((0 : Nat) : Int) != 0) = false := rfl
          rw [e0]
          simp only [Bool.or_self, cond_false]
          rw [equalC_self _ (by omega)]
          rfl
      rw [hfirst]
      simp only [Option.bind_some]
      -- all disarmed
      obtain ⟨s, e1, e2⟩ := rangeN_inv (R := Bool) x0.Channels.length (by omega) magnetolaw24_TimerQuiet_b1 (fun i t => timB t = true ∧ t.Channels.length = x0.Channels.length ∧ ∀ j c, j < i → t.Channels[j]? = some c → c.Armed = false) x0 ⟨hv, rfl, fun j c h => by omega⟩ (fun i hi t ⟨i1, i2, i3⟩ => by
        have hi' : i < t.Channels.length := by omega
        unfold magnetolaw24_TimerQuiet_b1
        rw [disarm_eq t _ i rfl hi' i1]
        refine ⟨_, rfl, ?_, by simp [i2], fun j c hj hc => ?_⟩
        · have hl2 := timB_len i1
          unfold timB at i1 ⊢
          simp only [Bool.and_eq_true, Bool.not_eq_true', List.all_eq_true] at i1 ⊢
          refine ⟨headB_of (by simp; omega), fun c hc => ?_⟩
          rcases List.mem_or_eq_of_mem_set hc with h | h
          · exact i1.2 c h
          · subst h; rfl
        · simp only at hc
          rw [List.getElem?_set] at hc
          by_cases e : i = j
          · subst e; rw [if_pos rfl, if_pos hi'] at hc; cases hc; rfl
          · rw [if_neg e] at hc; exact i3 j c (by omega) hc)
      rw [e1]
      obtain ⟨i1, i2, i3⟩ := e2
      have harm : ∀ c ∈ s.Channels, c.Armed = false := fun c hc => by
        obtain ⟨j, hj, rfl⟩ := List.mem_iff_getElem.1 hc
        exact i3 j _ (by omega) (List.getElem?_eq_getElem hj)
      simp only [Option.bind_some]
      rw [next_eq, i1, nxV_none harm]
      simp only [cond_true, Option.bind_some, cond_false]
      rw [adv_eq, i1]
      have hd : ∀ d ∈ s.Channels, due x1 d = false := fun d hd => by unfold due; rw [harm d hd]; rfl
      obtain ⟨k1, k2⟩ := none_due hd
      rw [k1, k2]
      simp only [Bool.not_true, cond_false]
      cases decide (x1 < s.Now)
      · cases decide (x1 > MAXT) <;> rfl
      · rfl
  · rfl
end Go.Pv

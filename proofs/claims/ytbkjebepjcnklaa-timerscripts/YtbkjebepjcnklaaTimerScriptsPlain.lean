/- The plain law of TimerScripts. -/
import Derived.Test.YtbkjebepjcnklaaTimerLevelsPlain
set_option linter.unusedSimpArgs false
namespace Go.Pv
open Go

theorem set_self {α : Type} (l : List α) (j : Nat) (y : α) (h : l[j]? = some y) : l.set j y = l := by
  apply List.ext_getElem?
  intro k
  rw [List.getElem?_set]
  by_cases e : j = k
  · subst e
    rw [if_pos rfl, if_pos (List.getElem?_eq_some_iff.1 h).1, h]
  · rw [if_neg e]

theorem map_set_level (l : List SChannel) (j : Nat) (hj : j < l.length) (c : SChannel) : (l.set j c).map (·.Level) = (l.map (·.Level)).set j c.Level := by
  rw [List.map_set]

theorem timB_set {t : STimer} {j : Nat} {c : SChannel} (h : timB t = true) (hc : chB t.Now c = true) : timB ⟨t.Now, t.Channels.set j c⟩ = true := by
  have hl := timB_len h
  unfold timB at h ⊢
  simp only [Bool.and_eq_true, Bool.not_eq_true', List.all_eq_true] at h ⊢
  refine ⟨headB_of (by simp; omega), fun x hx => ?_⟩
  rcases List.mem_or_eq_of_mem_set hx with h1 | h1
  · exact h.2 x h1
  · subst h1; exact hc

/-- The switches that an operation gives, taken one by one. -/
structure RunOk (t x : STimer) (last : Int) (S : List SSwitch) : Prop where
  tim : timB x = true
  len : x.Channels.length = t.Channels.length
  ex : ∃ (f : Nat → Int × List Bool), f 0 = (last, t.Channels.map (·.Level)) ∧ (∀ i (hi : i < S.length), ∃ (j : Nat) (b : Bool), S[i].Channel = (j : Int) ∧ j < t.Channels.length ∧ (f i).2.length = t.Channels.length ∧ (f i).2[j]? = some b ∧ (S[i].Level == b) = false ∧ (f i).1 ≤ S[i].At ∧ S[i].At ≤ x.Now ∧ f (i + 1) = (S[i].At, (f i).2.set j S[i].Level)) ∧
    (f S.length).2 = x.Channels.map (·.Level) ∧ (f S.length).1 ≤ x.Now
  small : S.length ≤ 16

theorem run_switches (t x : STimer) (last : Int) (S : List SSwitch) (N e : Int) (n2 : Int) (h : RunOk t x last S) (hN : w64 (1 + (Int.tmod (w64 n2) 16)) = (t.Channels.length : Int)) :
    ∃ la, rangeM S (magnetolaw24_TimerScripts_b2 n2 (S, e, x)) (last, t.Channels.map (·.Level)) = some (.inl (la, x.Channels.map (·.Level))) ∧ la ≤ x.Now := by
  obtain ⟨f, f0, fs, fe, fl⟩ := h.ex
  obtain ⟨s, h1, h2⟩ := rangeM_inv (R := Bool) S (by have := h.small; omega) (magnetolaw24_TimerScripts_b2 n2 (S, e, x)) (fun i s => s = f i) (last, t.Channels.map (·.Level)) f0.symm (fun i hi s hs => by
    subst hs
    obtain ⟨j, b, k1, k2, k3, k4, k5, k6, k7, k8⟩ := fs i hi
    refine ⟨f (i + 1), ?_, rfl⟩
    unfold magnetolaw24_TimerScripts_b2
    have d1 : decide ((j : Int) < 0) = false := by simp
    have d2 : decide ((j : Int) ≥ (t.Channels.length : Int)) = false := by simp; omega
    have d3 : decide (S[i].At < (f i).1) = false := by simp; omega
    have d4 : decide (S[i].At > x.Now) = false := by simp; omega
    have hg : getI (f i).2 (j : Int) = some b := by rw [getI_nat]; exact k4
    simp only [hN, k1, d1, d2, d3, d4, cond_false, hg, k5, Option.bind_some, setM_nat _ _ _ (by rw [k3]; exact k2 : j < (f i).2.length)]
    rw [k8])
  refine ⟨(f S.length).1, ?_, fl⟩
  rw [h1, h2]
  rw [← fe]

theorem levels3 (x : STimer) (S : List SSwitch) (e la : Int) (h : x.Channels.length ≤ 16) : rangeN (x.Channels.length : Int) (magnetolaw24_TimerScripts_b3 (S, e, x) (la, x.Channels.map (·.Level))) () = some (.inl ()) := by
  obtain ⟨s, h1, _⟩ := rangeN_inv (R := Bool) x.Channels.length (by omega) (magnetolaw24_TimerScripts_b3 (S, e, x) (la, x.Channels.map (·.Level))) (fun _ _ => True) () trivial (fun j hj u _ => ⟨(), by
    unfold magnetolaw24_TimerScripts_b3
    have hg : getI (x.Channels.map (·.Level)) (j : Int) = some x.Channels[j].Level := by rw [getI_nat]; simp [hj]
    simp only [getI_get _ _ hj, hg, Option.bind_some, beq_self_eq_true, Bool.not_true, cond_false], trivial⟩)
  exact h1

theorem runOk_none {t x : STimer} {last : Int} (h1 : timB x = true) (h2 : x.Channels.length = t.Channels.length) (h3 : x.Channels.map (·.Level) = t.Channels.map (·.Level)) (h4 : last ≤ x.Now) : RunOk t x last [] :=
  ⟨h1, h2, ⟨fun _ => (last, t.Channels.map (·.Level)), rfl, fun i hi => by simp at hi, h3.symm, h4⟩, by simp⟩

theorem runOk_adv {t : STimer} {last v_to : Int} (h : timB t = true) (hl : last ≤ t.Now) (h1 : ¬ v_to < t.Now) (h2 : ¬ v_to > 1099511627776) : RunOk t ⟨v_to, t.Channels.map (advC v_to)⟩ last (advS v_to t.Channels) := by
  have hS := swOk h v_to
  refine ⟨timB_adv h h1 h2, by simp, ?_, hS.len⟩
  have hend := fun j c => lvls_end t v_to j c
  generalize advS v_to t.Channels = S at hS hend
  refine ⟨fun i => (match i with | 0 => last | k + 1 => (match S[k]? with | some s => s.At | none => last), lvls t (S.take i)), by simp [lvls_nil], fun i hi => ?_, ?_, ?_⟩
  · obtain ⟨j, c, hc, ha, h3, h4, h5, h6⟩ := hS.get i hi
    obtain ⟨k1, k2⟩ := lvls_step hS i hi j c hc h6
    have hj : j < t.Channels.length := (List.getElem?_eq_some_iff.1 hc).1
    refine ⟨j, c.Level, by rw [h6], hj, by simp only; rw [lvls_len], k1, by rw [h6]; exact h5, ?_, by rw [h6]; exact h4, ?_⟩
    · cases i with
      | zero => simp only; rw [h6]; simp only; omega
      | succ k =>
        have hk : k < S.length := by omega
        simp only [List.getElem?_eq_getElem hk]
        have := List.pairwise_iff_getElem.1 hS.asc k (k + 1) hk hi (by omega)
        unfold ltS at this; simp only [decide_eq_true_eq] at this
        omega
    · simp only [List.getElem?_eq_getElem hi]
      rw [h6]; simp only; rw [k2]
  · simp only [List.take_length]
    apply List.ext_getElem?
    intro j
    cases hc : t.Channels[j]? with
    | none =>
      have := List.getElem?_eq_none_iff.1 hc
      rw [List.getElem?_eq_none (by rw [lvls_len]; exact this), List.getElem?_eq_none (by simpa using this)]
    | some c => rw [hend j c hc]; simp [hc]
  · simp only
    cases hk : S.length with
    | zero => simp only; omega
    | succ k =>
      have hk' : k < S.length := by omega
      simp only [List.getElem?_eq_getElem hk']
      obtain ⟨j, c, _, _, _, h4, _, h6⟩ := hS.get k hk'
      rw [h6]; exact h4

theorem runOk_force {t : STimer} {last : Int} {j : Nat} {lvl : Bool} (h : timB t = true) (hl : last ≤ t.Now) (hj : j < t.Channels.length) :
    RunOk t ⟨t.Now, t.Channels.set j ⟨false, 0, false, lvl⟩⟩ last (bif t.Channels[j].Level == lvl then [] else [⟨t.Now, (j : Int), lvl⟩]) := by
  have ht : timB ⟨t.Now, t.Channels.set j ⟨false, 0, false, lvl⟩⟩ = true := timB_set h rfl
  cases hq : (t.Channels[j].Level == lvl)
  · refine ⟨ht, by simp, ⟨fun i => match i with | 0 => (last, t.Channels.map (·.Level)) | _ + 1 => (t.Now, (t.Channels.map (·.Level)).set j lvl), rfl, fun i hi => ?_, ?_, ?_⟩, by simp⟩
    · have : i = 0 := by simp at hi; omega
      subst this
      have hne : (lvl == t.Channels[j].Level) = false := by rw [beq_eq_false_iff_ne] at hq ⊢; exact Ne.symm hq
      exact ⟨j, t.Channels[j].Level, rfl, hj, by simp, by simp [hj], hne, hl, Int.le_refl _, rfl⟩
    · simp only [cond_false, List.length_singleton]
      rw [map_set_level _ _ hj]
    · simp
  · refine runOk_none ht (by simp) ?_ hl
    have : lvl = t.Channels[j].Level := by have := eq_of_beq hq; exact this.symm
    rw [map_set_level _ _ hj, this]
    simp only
    rw [set_self _ _ _ (by simp [hj])]

theorem plain_TimerScripts (x0 : Int) (x1 : List Smagnetolaw24_Op) (g0 : (fun n => (Lit.int .u8 n).wf = true) x0) (_ : (wfL wf_Smagnetolaw24_Op) x1) : magnetolaw24_TimerScripts x0 x1 = some true := by
  have hk : 0 ≤ x0 ∧ x0 ≤ 255 := by
    have m0 : IntKind.u8.min = 0 := rfl
    have m1 : IntKind.u8.max = 255 := rfl
    simp [Lit.wf, m0, m1] at g0
    omega
  obtain ⟨n, hn, hn1, hn2⟩ : ∃ n : Nat, w64 (1 + (Int.tmod (w64 x0) 16)) = (n : Int) ∧ 1 ≤ n ∧ n ≤ 16 := by
    have h1 : 0 ≤ x0.tmod 16 := Int.tmod_nonneg _ hk.1
    have h2 : x0.tmod 16 < 16 := Int.tmod_lt_of_pos _ (by omega)
    rw [w64_of (n := x0) (by omega) (by omega), w64_of (by omega) (by omega)]
    exact ⟨(1 + x0.tmod 16).toNat, by omega, by omega, by omega⟩
  unfold magnetolaw24_TimerScripts
  rw [awake24]
  simp only [Option.bind_some, Bool.not_true, Bool.false_or]
  cases h60 : decide ((x1.length : Int) > 60)
  · have hl60 : x1.length ≤ 60 := by simp at h60; omega
    simp only [cond_false]
    rw [hn, new_eq n hn1 hn2]
    simp only [Option.bind_some, bne_self_eq_false, List.length_replicate, Bool.or_self, cond_false]
    rw [makeM_nat _ (by omega)]
    simp only [Option.bind_some]
    obtain ⟨s, e1, _⟩ := rangeM_inv (R := Bool) x1 (by omega) (magnetolaw24_TimerScripts_b1 x0) (fun _ s => timB s.2.1 = true ∧ s.2.1.Channels.length = n ∧ s.2.2 = s.2.1.Channels.map (·.Level) ∧ s.1 ≤ s.2.1.Now) (0, ⟨0, List.replicate n ⟨false, 0, false, false⟩⟩, List.replicate n false)
      ⟨by unfold timB; rw [headB_of (by simp; omega)]; simp [chB], by simp, by simp, by simp⟩ (fun i hi s ⟨i1, i2, i3, i4⟩ => by
        obtain ⟨last, t, lv⟩ := s
        simp only at i1 i2 i3 i4
        subst i3
        generalize x1[i] = o
        have hl := timB_len i1
        -- what an operation that goes well does
        have good : ∀ (x : STimer) (S : List SSwitch), RunOk t x last S → ∃ s', (Option.bind (timer_Valid x) fun v4 => bif ((!v4) || ((x.Channels.length : Int) != (w64 (1 + (Int.tmod (w64 x0) 16))))) then (some (.ret false)) else (Option.bind (rangeM S (magnetolaw24_TimerScripts_b2 x0 (S, 0, x)) (last, t.Channels.map (·.Level))) fun (t : (Int × List Bool) ⊕ Bool) => match t with | .inl s5 => (Option.bind (rangeN (x.Channels.length : Int) (magnetolaw24_TimerScripts_b3 (S, 0, x) s5) ()) fun (t : Unit ⊕ Bool) => match t with | .inl _ => (some (Fl.next (s5.1, x, s5.2))) | .inr r7 => some (.ret r7)) | .inr r8 => some (.ret r8))) = (some (Fl.next s') : Option (Fl (Int × STimer × List Bool) Bool)) ∧ timB s'.2.1 = true ∧ s'.2.1.Channels.length = n ∧ s'.2.2 = s'.2.1.Channels.map (·.Level) ∧ s'.1 ≤ s'.2.1.Now := fun x S hR => by
          obtain ⟨la, h1, h2⟩ := run_switches t x last S 0 0 x0 hR (by rw [hn, i2])
          have hx := timB_len hR.tim
          rw [tvalid, hR.tim, hR.len, i2, hn]
          simp only [Option.bind_some, Bool.not_true, bne_self_eq_false, Bool.or_self, cond_false]
          rw [h1]
          simp only [Option.bind_some]
          have h3 := levels3 x S 0 la (by omega)
          rw [hR.len, i2] at h3
          rw [h3]
          exact ⟨_, rfl, hR.tim, by rw [← i2]; exact hR.len, rfl, h2⟩
        have bad : ∀ (e : Int), (e != 0) = true → (bif (e != 0) then (Option.bind (bif ((decide (o.Kind ≤ 3)) && (decide (o.Kind ≥ 0))) then (Option.bind (magnetolaw24_none tz) fun v3 => some (!v3)) else (some false)) fun b2 => bif b2 then (some (.ret false)) else (some (Fl.next (last, t, t.Channels.map (·.Level))))) else none) = (some (Fl.next (last, t, t.Channels.map (·.Level))) : Option (Fl (Int × STimer × List Bool) Bool)) := fun e he => by
          rw [he, none_tz]
          cases ((decide (o.Kind ≤ 3)) && (decide (o.Kind ≥ 0))) <;> rfl
        unfold magnetolaw24_TimerScripts_b1
        simp only
        cases k0 : (o.Kind == 0)
        · cases k1 : (o.Kind == 1)
          · cases k2 : (o.Kind == 2)
            · cases k3 : (o.Kind == 3)
              · simp only [cond_false, Option.bind_some, bne_self_eq_false]
                exact good t [] (runOk_none i1 rfl rfl i4)
              · -- force
                simp only [cond_false, cond_true]
                cases hb : badC t o.Channel
                · obtain ⟨j, hj1, hj⟩ := badC_nat hb
                  rw [force_eq t _ o.Level j hj1 hj i1]
                  simp only [Option.bind_some, bne_self_eq_false, cond_false]
                  exact good _ _ (runOk_force i1 i4 hj)
                · rw [force_bad t _ _ 2 (by rw [i1, hb]; rfl) rfl]
                  have := bad 2 rfl
                  simp only [Option.bind_some] at this ⊢
                  exact ⟨_, this, i1, i2, rfl, i4⟩
            · -- advance
              simp only [cond_false, cond_true]
              rw [adv_eq, i1]
              simp only [Bool.not_true, cond_false]
              unfold MAXT
              cases h1 : decide (o.At < t.Now)
              · cases h2 : decide (o.At > 1099511627776)
                · simp only [cond_false, Option.bind_some, bne_self_eq_false]
                  exact good _ _ (runOk_adv i1 i4 (by simpa using h1) (by simpa using h2))
                · have := bad 2 rfl
                  simp only [cond_false, cond_true, Option.bind_some] at this ⊢
                  exact ⟨_, this, i1, i2, rfl, i4⟩
              · have := bad 16 rfl
                simp only [cond_true, Option.bind_some] at this ⊢
                exact ⟨_, this, i1, i2, rfl, i4⟩
          · -- disarm
            simp only [cond_false, cond_true]
            cases hb : badC t o.Channel
            · obtain ⟨j, hj1, hj⟩ := badC_nat hb
              rw [disarm_eq t _ j hj1 hj i1]
              simp only [Option.bind_some, bne_self_eq_false, cond_false]
              refine good _ _ (runOk_none (timB_set i1 rfl) (by simp) ?_ i4)
              rw [map_set_level _ _ hj]
              simp only
              rw [set_self _ _ _ (by simp [hj])]
            · rw [disarm_bad t _ 2 (by rw [i1, hb]; rfl) rfl]
              have := bad 2 rfl
              simp only [Option.bind_some] at this ⊢
              exact ⟨_, this, i1, i2, rfl, i4⟩
        · -- arm
          simp only [cond_true]
          cases hb : badC t o.Channel
          · obtain ⟨j, hj1, hj⟩ := badC_nat hb
            rw [arm_eq t _ o.At o.Level j hj1 hj i1]
            unfold MAXT
            cases h1 : decide (o.At ≤ t.Now)
            · cases h2 : decide (o.At > 1099511627776)
              · simp only [cond_false, Option.bind_some, bne_self_eq_false]
                refine good _ _ (runOk_none (timB_set i1 ?_) (by simp) ?_ i4)
                · unfold chB; simp at h1 h2 ⊢; omega
                · rw [map_set_level _ _ hj]
                  simp only
                  rw [set_self _ _ _ (by simp [hj])]
              · have := bad 2 rfl
                simp only [cond_false, cond_true, Option.bind_some] at this ⊢
                exact ⟨_, this, i1, i2, rfl, i4⟩
            · have := bad 16 rfl
              simp only [cond_true, Option.bind_some] at this ⊢
              exact ⟨_, this, i1, i2, rfl, i4⟩
          · rw [arm_bad t _ _ _ 2 (by rw [i1, hb]; rfl) rfl]
            have := bad 2 rfl
            simp only [Option.bind_some] at this ⊢
            exact ⟨_, this, i1, i2, rfl, i4⟩)
    rw [e1]
    rfl
  · rfl
end Go.Pv

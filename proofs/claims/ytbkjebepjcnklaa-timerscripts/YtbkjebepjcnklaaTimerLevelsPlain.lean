/- The plain law of TimerLevels. -/
import Derived.Test.YtbkjebepjcnklaaBase
set_option linter.unusedSimpArgs false
namespace Go.Pv
open Go

/-- What is known of the switches of a valid timer. -/
structure SwOk (t : STimer) (v_to : Int) (S : List SSwitch) : Prop where
  get : ∀ i (hi : i < S.length), ∃ (j : Nat) (c : SChannel), t.Channels[j]? = some c ∧ c.Armed = true ∧ t.Now < c.At ∧ c.At ≤ v_to ∧ (c.Next == c.Level) = false ∧ S[i] = ⟨c.At, (j : Int), c.Next⟩
  asc : S.Pairwise (fun a b => ltS a b = true)
  chan : S.Pairwise (fun a b => a.Channel ≠ b.Channel)
  len : S.length ≤ 16

theorem chB_armed {now : Int} {c : SChannel} (h : chB now c = true) (ha : c.Armed = true) : now < c.At ∧ c.At ≤ 1099511627776 := by
  unfold chB at h; rw [ha] at h
  simp at h; omega

theorem swOk {t : STimer} (h : timB t = true) (v_to : Int) : SwOk t v_to (advS v_to t.Channels) := by
  have hl := timB_len h
  refine ⟨fun i hi => ?_, advS_sorted _ _, ?_, Nat.le_trans (advS_len _ _) hl.2.1⟩
  · obtain ⟨j, c, h1, h2, h3, h4⟩ := mem_advS.1 (List.getElem_mem hi)
    unfold due at h2
    simp only [Bool.not_eq_true', Bool.or_eq_false_iff, decide_eq_false_iff_not] at h2
    have ha : c.Armed = true := by simpa using h2.1
    have hc : chB t.Now c = true := by
      unfold timB at h
      simp only [Bool.and_eq_true, List.all_eq_true] at h
      exact h.2 c (List.mem_of_getElem? h1)
    exact ⟨j, c, h1, ha, (chB_armed hc ha).1, by omega, h3, h4⟩
  · have h3 : (swsF v_to 0 t.Channels).Pairwise (fun a b => a.Channel ≠ b.Channel) := (swsF_asc t.Channels 0).imp fun h => by omega
    exact (List.Perm.pairwise_iff (fun h => Ne.symm h) (advS_perm v_to t.Channels)).2 h3

/-- The levels behind the first switches. -/
def lvls (t : STimer) (S : List SSwitch) : List Bool := t.Channels.zipIdx.map fun p => bif S.any (fun s => s.Channel == (p.2 : Int)) then p.1.Next else p.1.Level

theorem lvls_len (t : STimer) (S : List SSwitch) : (lvls t S).length = t.Channels.length := by simp [lvls]
theorem lvls_get (t : STimer) (S : List SSwitch) (j : Nat) (c : SChannel) (h : t.Channels[j]? = some c) : (lvls t S)[j]? = some (bif S.any (fun s => s.Channel == (j : Int)) then c.Next else c.Level) := by
  unfold lvls; rw [List.getElem?_map, List.getElem?_zipIdx, h]; simp

theorem lvls_nil (t : STimer) : lvls t [] = t.Channels.map (·.Level) := by
  unfold lvls
  apply List.ext_getElem? 
  intro j
  rw [List.getElem?_map, List.getElem?_zipIdx, List.getElem?_map]
  cases t.Channels[j]? <;> simp

theorem lvls_step {t : STimer} {v_to : Int} {S : List SSwitch} (h : SwOk t v_to S) (i : Nat) (hi : i < S.length) (j : Nat) (c : SChannel) (hc : t.Channels[j]? = some c) (hs : S[i] = ⟨c.At, (j : Int), c.Next⟩) :
    (lvls t (S.take i))[j]? = some c.Level ∧ (lvls t (S.take i)).set j c.Next = lvls t (S.take (i + 1)) := by
  have hfresh : (S.take i).any (fun s => s.Channel == (j : Int)) = false := by
    rw [List.any_eq_false]
    intro s hs'
    obtain ⟨k, hk, rfl⟩ := List.mem_iff_getElem.1 hs'
    simp only [List.length_take] at hk
    have := List.pairwise_iff_getElem.1 h.chan k i (by omega) hi (by omega)
    rw [hs] at this
    simp only [List.getElem_take]
    simpa using this
  refine ⟨by rw [lvls_get t _ j c hc, hfresh]; rfl, ?_⟩
  apply List.ext_getElem?
  intro k
  have hj : j < t.Channels.length := (List.getElem?_eq_some_iff.1 hc).1
  rw [List.getElem?_set, lvls_len]
  by_cases e : j = k
  · subst e
    rw [if_pos rfl, if_pos hj, lvls_get t _ j c hc, List.take_succ_eq_append_getElem hi]
    simp [hs]
  · rw [if_neg e]
    cases hk : t.Channels[k]? with
    | none =>
      have hk' := List.getElem?_eq_none_iff.1 hk
      rw [List.getElem?_eq_none (by rw [lvls_len]; exact hk'), List.getElem?_eq_none (by rw [lvls_len]; exact hk')]
    | some d =>
      rw [lvls_get t _ k d hk, lvls_get t _ k d hk, List.take_succ_eq_append_getElem hi]
      have : ((j : Int) == (k : Int)) = false := by rw [beq_eq_false_iff_ne]; omega
      simp [hs, this]

/-- At the end the levels are those of the timer that has gone on. -/
theorem lvls_end (t : STimer) (v_to : Int) (j : Nat) (c : SChannel) (hc : t.Channels[j]? = some c) : (lvls t (advS v_to t.Channels))[j]? = some (advC v_to c).Level := by
  rw [lvls_get t _ j c hc]
  congr 1
  unfold advC
  cases hd : due v_to c
  · have : (advS v_to t.Channels).any (fun s => s.Channel == (j : Int)) = false := by
      rw [List.any_eq_false]
      intro s hs
      obtain ⟨k, d, h1, h2, h3, rfl⟩ := mem_advS.1 hs
      simp only [beq_iff_eq]
      intro e
      have : k = j := by omega
      subst this
      rw [hc] at h1; cases h1
      rw [hd] at h2; cases h2
    rw [this]; rfl
  · simp only [cond_true]
    cases hn : (c.Next == c.Level)
    · have : (advS v_to t.Channels).any (fun s => s.Channel == (j : Int)) = true := by
        rw [List.any_eq_true]
        exact ⟨_, mem_advS.2 ⟨j, c, hc, hd, hn, rfl⟩, by simp⟩
      rw [this]; rfl
    · have : c.Next = c.Level := by simpa using hn
      rw [this]; cases (advS v_to t.Channels).any (fun s => s.Channel == (j : Int)) <;> rfl

theorem levels1 (t : STimer) (h : t.Channels.length ≤ 16) : rangeN (t.Channels.length : Int) (magnetolaw24_TimerLevels_b1 t) (List.replicate t.Channels.length false) = some (.inl (lvls t [])) := by
  obtain ⟨s, h1, h2⟩ := rangeN_inv (R := Empty) t.Channels.length (by omega) (magnetolaw24_TimerLevels_b1 t) (fun i s => s = (t.Channels.take i).map (·.Level) ++ List.replicate (t.Channels.length - i) false) (List.replicate t.Channels.length false) (by simp) (fun j hj s hs => by
    have hlen : j < s.length := by rw [hs]; simp; omega
    refine ⟨s.set j t.Channels[j].Level, by unfold magnetolaw24_TimerLevels_b1; simp only [getI_get _ _ hj, Option.bind_some, getI_get _ _ hlen, setM_nat _ _ _ hlen], ?_⟩
    rw [hs, List.set_append_right _ _ (by simp; omega)]
    have hlt : (t.Channels.take j).length = j := by simp; omega
    rw [List.length_map, hlt, Nat.sub_self, show t.Channels.length - j = (t.Channels.length - (j + 1)) + 1 by omega, List.replicate_succ, List.set_cons_zero, List.take_succ_eq_append_getElem hj]
    simp only [List.map_append, List.map_cons, List.map_nil, List.append_assoc, List.singleton_append])
  rw [h1, h2, lvls_nil]
  simp

theorem plain_TimerLevels (x0 : STimer) (x1 : Int) (_ : wf_STimer x0) (_ : (fun n => (Lit.int .i64 n).wf = true) x1) : magnetolaw24_TimerLevels x0 x1 = some true := by
  unfold magnetolaw24_TimerLevels
  rw [awake24]
  simp only [Option.bind_some, Bool.not_true, Bool.false_or]
  cases h100 : decide ((x0.Channels.length : Int) > 100)
  · simp only [cond_false]
    rw [adv_eq]
    cases hv : timB x0
    · rfl
    · have hl := timB_len hv
      simp only [Bool.not_true, cond_false]
      unfold MAXT
      cases h1 : decide (x1 < x0.Now)
      · cases h2 : decide (x1 > 1099511627776)
        · simp only [cond_false, Option.bind_some, bne_self_eq_false, List.length_map, Bool.or_self]
          rw [tvalid, timB_adv hv (by simpa using h1) (by simpa using h2)]
          simp only [Option.bind_some, Bool.not_true, cond_false]
          rw [makeM_nat _ (by omega)]
          simp only [Option.bind_some]
          rw [levels1 x0 (by omega)]
          simp only [Option.bind_some]
          have hS := swOk hv x1
          generalize hSd : advS x1 x0.Channels = S at hS
          -- the switches
          obtain ⟨s, e1, e2⟩ := rangeN_inv (R := Bool) S.length (by have := hS.len; omega) (magnetolaw24_TimerLevels_b2 x0 x1 (⟨x1, x0.Channels.map (advC x1)⟩, S, 0)) (fun i f => f = lvls x0 (S.take i)) (lvls x0 []) (by simp) (fun i hi f hf => by
            subst hf
            obtain ⟨j, c, hc, ha, h3, h4, h5, h6⟩ := hS.get i hi
            have hj : j < x0.Channels.length := (List.getElem?_eq_some_iff.1 hc).1
            obtain ⟨k1, k2⟩ := lvls_step hS i hi j c hc h6
            have hlen : j < (lvls x0 (S.take i)).length := by rw [lvls_len]; exact hj
            have hget : getI (lvls x0 (S.take i)) (j : Int) = some c.Level := by rw [getI_nat]; exact k1
            have hgc : getI x0.Channels (j : Int) = some c := by rw [getI_nat]; exact hc
            have hnl : (c.Level == c.Next) = false := by rw [beq_eq_false_iff_ne] at h5 ⊢; exact Ne.symm h5
            have d1 : decide ((j : Int) < 0) = false := by simp
            have d2 : decide ((j : Int) ≥ ((lvls x0 (S.take i)).length : Int)) = false := by rw [lvls_len]; simp; omega
            have d3 : decide (c.At ≤ x0.Now) = false := by simp; omega
            have d4 : decide (c.At > x1) = false := by simp; omega
            have hlast : (bif (decide ((i : Int) > 0)) then (Option.bind (getI S (w64 ((i : Int) - 1))) fun x5 => bif (decide (x5.At > c.At)) then (some true) else (bif (x5.At == c.At) then (some (decide (x5.Channel ≥ (j : Int)))) else (some false))) else (some false)) = some false := by
              by_cases hi0 : i = 0
              · subst hi0; rfl
              · have : decide ((i : Int) > 0) = true := by simp; omega
                rw [this]
                simp only [cond_true]
                have hwl := hS.len
                rw [w64_of (by omega) (by omega), show (i : Int) - 1 = ((i - 1 : Nat) : Int) by omega, getI_get _ _ (by omega)]
                have hlt := List.pairwise_iff_getElem.1 hS.asc (i - 1) i (by omega) hi (by omega)
                rw [h6] at hlt
                unfold ltS at hlt
                simp only [decide_eq_true_eq] at hlt
                generalize S[i - 1] = y at hlt
                simp only [Option.bind_some]
                have g1 : decide (y.At > c.At) = false := by simp; omega
                rw [g1]
                simp only [cond_false]
                by_cases g2 : y.At = c.At
                · have g3 : decide (y.Channel ≥ (j : Int)) = false := by simp; omega
                  simp [g2, g3]
                · have g4 : (y.At == c.At) = false := by simpa using g2
                  rw [g4]; rfl
            refine ⟨lvls x0 (S.take (i + 1)), ?_, rfl⟩
            unfold magnetolaw24_TimerLevels_b2
            simp only [getI_get _ _ hi, Option.bind_some, h6, d1, d2, d3, d4, cond_false, hget, hnl, hlast, setM_nat _ _ _ hlen, hgc, ha, Bool.not_true, bne_self_eq_false, beq_self_eq_true, Bool.or_self]
            rw [k2])
          rw [e1, e2]
          simp only [Option.bind_some, List.take_length]
          -- the levels at the end
          obtain ⟨s3, e3, _⟩ := rangeN_inv (R := Bool) x0.Channels.length (by omega) (magnetolaw24_TimerLevels_b3 x0 x1 (⟨x1, x0.Channels.map (advC x1)⟩, S, 0) (lvls x0 S)) (fun _ _ => True) () trivial (fun j hj u _ => ⟨(), by
            have hc : x0.Channels[j]? = some x0.Channels[j] := List.getElem?_eq_getElem hj
            have hle := lvls_end x0 x1 j _ hc
            rw [hSd] at hle
            unfold magnetolaw24_TimerLevels_b3
            have hg1 : getI (x0.Channels.map (advC x1)) (j : Int) = some (advC x1 x0.Channels[j]) := by rw [getI_nat]; simp [hj]
            have hg2 : getI (lvls x0 S) (j : Int) = some (advC x1 x0.Channels[j]).Level := by rw [getI_nat]; exact hle
            simp only [hg1, hg2, getI_get _ _ hj, Option.bind_some, beq_self_eq_true, Bool.not_true, cond_false]
            unfold advC due
            cases ha : x0.Channels[j].Armed
            · simp [ha]
            · by_cases h4 : x0.Channels[j].At > x1
              · simp [h4, ha]
              · simp [h4], trivial⟩)
          rw [e3]
          rfl
        · rfl
      · rfl
  · rfl
end Go.Pv

/- The plain law of TimerSplits. -/
import Derived.Test.YtbkjebepjcnklaaTimerAdvancesPlain
set_option linter.unusedSimpArgs false
namespace Go.Pv
open Go

theorem grow_eq (n : Nat) (h : n ≤ 1000000) : slices_Grow_sSwitch (n : Int) = some [] := by
  unfold slices_Grow_sSwitch
  rw [show decide ((n : Int) < 0) = false from decide_eq_false (by omega), w64_of (n := 0 - 0) (by omega) (by omega), w64_of (n := (n : Int) - (0 - 0)) (by omega) (by omega)]
  simp only [cond_false, Option.bind_some]
  by_cases h0 : n = 0
  · subst h0
    rfl
  · rw [show decide ((n : Int) - (0 - 0) > 0) = true from decide_eq_true (by omega)]
    simp only [cond_true]
    unfold zerosM
    rw [if_pos ⟨by omega, by omega⟩]
    simp only [Option.bind_some]
    unfold sliceM
    rw [if_pos ⟨by omega, by omega, by omega⟩]
    simp

theorem concat_eq (l m : List SSwitch) (h : l.length + m.length ≤ 100000) : slices_Concat_sSwitch [l, m] = some (l ++ m) := by
  unfold slices_Concat_sSwitch
  rw [rangeM_steps _ (by simp)]
  simp only [stepsL, slices_Concat_sSwitch_b1]
  rw [w64_of (n := 0 + (l.length : Int)) (by omega) (by omega), show decide (0 + (l.length : Int) < 0) = false from decide_eq_false (by omega)]
  simp only [cond_false, Option.bind_some]
  rw [w64_of (n := 0 + (l.length : Int) + (m.length : Int)) (by omega) (by omega), show decide (0 + (l.length : Int) + (m.length : Int) < 0) = false from decide_eq_false (by omega)]
  simp only [cond_false, Option.bind_some]
  rw [show 0 + (l.length : Int) + (m.length : Int) = ((l.length + m.length : Nat) : Int) by omega, grow_eq _ (by omega)]
  simp only [Option.bind_some]
  rw [rangeM_steps _ (by simp)]
  simp only [stepsL, slices_Concat_sSwitch_b2]
  rw [appendM_ok _ _ (by simp only [List.length_nil]; omega)]
  simp only [Option.bind_some, List.nil_append]
  rw [appendM_ok _ _ (by omega)]
  rfl

theorem adv_adv {a b : Int} (h : a ≤ b) (c : SChannel) : advC b (advC a c) = advC b c := by
  cases hd : due a c
  · have : advC a c = c := by unfold advC; rw [hd]; rfl
    rw [this]
  · have h1 : advC a c = ⟨false, 0, false, c.Next⟩ := by unfold advC; rw [hd]; rfl
    have h2 : due b c = true := by
      unfold due at *
      cases ha : c.Armed
      · rw [ha] at hd; simp at hd
      · rw [ha] at hd; simp at hd ⊢; omega
    have h3 : advC b c = ⟨false, 0, false, c.Next⟩ := by unfold advC; rw [h2]; rfl
    rw [h1, h3]; rfl

theorem two_perm {a b : Int} (h : a ≤ b) : ∀ (l : List SChannel) (i : Nat), (swsF b i l).Perm (swsF a i l ++ swsF b i (l.map (advC a)))
  | [], _ => .refl _
  | c :: r, i => by
    have ih := two_perm h r (i + 1)
    have hw : swC b i c = swC a i c ++ swC b i (advC a c) := by
      cases hd : due a c
      · have h1 : swC a i c = [] := by unfold swC; rw [hd]; rfl
        have h2 : advC a c = c := by unfold advC; rw [hd]; rfl
        rw [h1, h2]; rfl
      · have h1 : advC a c = ⟨false, 0, false, c.Next⟩ := by unfold advC; rw [hd]; rfl
        have h2 : swC b i (advC a c) = [] := by rw [h1]; rfl
        have h3 : due b c = true := by
          unfold due at *
          cases ha : c.Armed
          · rw [ha] at hd; simp at hd
          · rw [ha] at hd; simp at hd ⊢; omega
        rw [h2, List.append_nil]
        unfold swC; rw [hd, h3]
    simp only [swsF, List.map_cons]
    rw [hw]
    simp only [List.append_assoc]
    refine List.Perm.append_left _ ?_
    refine (List.Perm.append_left _ ih).trans ?_
    rw [← List.append_assoc, ← List.append_assoc]
    exact List.Perm.append_right _ List.perm_append_comm

theorem adv_two {a b : Int} (h : a ≤ b) (l : List SChannel) : advS b l = advS a l ++ advS b (l.map (advC a)) := by
  refine uniq_sorted (advS_sorted _ _) ?_ ((advS_perm b l).trans ((two_perm h l 0).trans (List.Perm.append (advS_perm a l).symm (advS_perm b _).symm)))
  rw [List.pairwise_append]
  refine ⟨advS_sorted a l, advS_sorted b _, fun x hx y hy => ?_⟩
  obtain ⟨j, c, h1, h2, h3, rfl⟩ := mem_advS.1 hx
  obtain ⟨k, d, h4, h5, h6, rfl⟩ := mem_advS.1 hy
  rw [List.getElem?_map] at h4
  cases hd : l[k]? with
  | none => rw [hd] at h4; cases h4
  | some e =>
    rw [hd] at h4
    simp only [Option.map_some, Option.some.injEq] at h4
    subst h4
    have hc : c.At ≤ a := by
      unfold due at h2
      cases ha : c.Armed
      · rw [ha] at h2; simp at h2
      · rw [ha] at h2; simp at h2; omega
    cases he : due a e
    · have e1 : advC a e = e := by unfold advC; rw [he]; rfl
      rw [e1] at h5 ⊢
      have : a < e.At := by
        unfold due at he h5
        cases ha : e.Armed
        · rw [ha] at h5; simp at h5
        · rw [ha] at he; simp at he; omega
      unfold ltS
      simp only [decide_eq_true_eq]
      left; omega
    · exfalso
      have e1 : advC a e = ⟨false, 0, false, e.Next⟩ := by unfold advC; rw [he]; rfl
      rw [e1] at h5
      unfold due at h5; simp at h5

theorem plain_TimerSplits (x0 : STimer) (x1 : Int) (x2 : Int) (_ : wf_STimer x0) (_ : (fun n => (Lit.int .i64 n).wf = true) x1) (_ : (fun n => (Lit.int .i64 n).wf = true) x2) : magnetolaw24_TimerSplits x0 x1 x2 = some true := by
  unfold magnetolaw24_TimerSplits
  rw [awake24]
  simp only [Option.bind_some, Bool.not_true, Bool.false_or]
  cases h100 : decide ((x0.Channels.length : Int) > 100)
  · simp only [cond_false]
    rw [adv_eq]
    cases hv : timB x0
    · rfl
    · have hl := timB_len hv
      simp only [Bool.not_true, cond_false, Option.bind_some]
      cases h1 : decide (x1 < x0.Now)
      · cases h2 : decide (x1 > MAXT)
        · have g1 := of_decide_eq_false h1
          have g2 := of_decide_eq_false h2
          simp only [cond_false, Option.bind_some, bne_self_eq_false]
          rw [adv_eq, timB_adv hv g1 g2]
          simp only [Bool.not_true, cond_false, Option.bind_some]
          rw [adv_eq, hv]
          simp only [Bool.not_true, cond_false, Option.bind_some]
          cases h3 : decide (x2 < x1)
          · cases h4 : decide (x2 > MAXT)
            · have g3 := of_decide_eq_false h3
              have g4 := of_decide_eq_false h4
              rw [show decide (x2 < x0.Now) = false from decide_eq_false (by omega)]
              simp only [cond_false, Option.bind_some, bne_self_eq_false, beq_self_eq_true, cond_true]
              have hm : (x0.Channels.map (advC x1)).map (advC x2) = x0.Channels.map (advC x2) := by
                rw [List.map_map]
                exact List.map_congr_left fun c _ => adv_adv (by omega) c
              rw [hm, same_self _ (by simp; omega)]
              simp only [Option.bind_some, cond_true]
              have l1 := advS_len x1 x0.Channels
              have l2 := advS_len x2 (x0.Channels.map (advC x1))
              rw [List.length_map] at l2
              rw [concat_eq _ _ (by omega), ← adv_two (by omega)]
              simp only [Option.bind_some]
              have l3 := advS_len x2 x0.Channels
              rw [equal_self _ (by omega)]
              rfl
            · simp only [cond_false, cond_true]
              rfl
          · simp only [cond_true]
            rfl
        · rfl
      · rfl
  · rfl
end Go.Pv

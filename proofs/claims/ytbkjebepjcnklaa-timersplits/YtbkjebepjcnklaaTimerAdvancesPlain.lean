/- The plain law of TimerAdvances. -/
import Derived.Test.YtbkjebepjcnklaaTimerQuietPlain
set_option linter.unusedSimpArgs false
namespace Go.Pv
open Go

theorem rnext_eq (t : STimer) (h : t.Channels.length ≤ 1000) : magnetoref24_Next t = some (nxV t.Channels) := by
  unfold magnetoref24_Next
  have k := loopM_fold (mb := magnetoref24_Next_b1 t) (fun i s => (s.1, s.2, (i : Int))) (g := nxS) (out := fun s => .inl (s.1, s.2, (t.Channels.length : Int))) t.Channels (0, false) (fun s => by simp [magnetoref24_Next_b1]) (fun j ⟨a, b⟩ y hy => by
    have hj := (List.getElem?_eq_some_iff.1 hy).1
    unfold magnetoref24_Next_b1 nxS
    have e : decide ((j : Int) < (t.Channels.length : Int)) = true := by simp; omega
    simp only [e, getI_nat, hy, Option.bind_some, cond_true, w64_of (n := (j : Int) + 1) (by omega) (by omega)]
    cases y.Armed <;> cases b <;> cases decide (y.At < a) <;> rfl)
  simp only at k
  rw [show ((0 : Nat) : Int) = 0 from rfl] at k
  rw [k]
  rfl

def atB (m : Int) (c : SChannel) : Bool := !((!c.Armed) || (c.At != m))
def atC (m : Int) (c : SChannel) : SChannel := bif atB m c then ⟨false, 0, false, c.Next⟩ else c
def atW (m : Int) (i : Nat) (c : SChannel) : List SSwitch := bif atB m c && !(c.Level == c.Next) then [⟨m, (i : Int), c.Next⟩] else []
def atS (m : Int) : Nat → List SChannel → List SSwitch
  | _, [] => []
  | i, c :: r => atW m i c ++ atS m (i + 1) r

theorem atW_len (m : Int) (i : Nat) (c : SChannel) : (atW m i c).length ≤ 1 := by
  unfold atW; cases (atB m c && !(c.Level == c.Next)) <;> simp
theorem atS_len (m : Int) : ∀ (l : List SChannel) (i : Nat), (atS m i l).length ≤ l.length
  | [], _ => Nat.le_refl _
  | c :: r, i => by
    have := atS_len m r (i + 1)
    have := atW_len m i c
    simp only [atS, List.length_append, List.length_cons]; omega
theorem atS_snoc (m : Int) : ∀ (l : List SChannel) (i : Nat) (c : SChannel), atS m i (l ++ [c]) = atS m i l ++ atW m (i + l.length) c
  | [], i, c => by simp [atS]
  | x :: l, i, c => by
    simp only [List.cons_append, atS, List.append_assoc, List.append_cancel_left_eq, List.length_cons]
    rw [atS_snoc m l (i + 1) c, show i + 1 + l.length = i + (l.length + 1) by omega]
theorem mem_atS {m : Int} {s : SSwitch} : ∀ {l : List SChannel} {i : Nat}, s ∈ atS m i l → s.At = m ∧ (i : Int) ≤ s.Channel
  | [], i, h => by simp [atS] at h
  | c :: r, i, h => by
    simp only [atS, List.mem_append] at h
    rcases h with h | h
    · unfold atW at h
      cases hd : (atB m c && !(c.Level == c.Next)) <;> rw [hd] at h
      · simp at h
      · simp only [cond_true, List.mem_singleton] at h
        subst h; exact ⟨rfl, Int.le_refl _⟩
    · have := mem_atS h
      exact ⟨this.1, by omega⟩
theorem atS_asc {m : Int} : ∀ (l : List SChannel) (i : Nat), (atS m i l).Pairwise (fun a b => ltS a b = true)
  | [], _ => .nil
  | c :: r, i => by
    simp only [atS]
    rw [List.pairwise_append]
    refine ⟨?_, atS_asc r (i + 1), fun a ha b hb => ?_⟩
    · unfold atW; cases (atB m c && !(c.Level == c.Next)) <;> simp
    · have h1 : a.At = m ∧ a.Channel = (i : Int) := by
        unfold atW at ha
        cases hd : (atB m c && !(c.Level == c.Next)) <;> rw [hd] at ha
        · simp at ha
        · simp at ha; rw [ha]; exact ⟨rfl, rfl⟩
      have h2 := mem_atS hb
      unfold ltS; simp only [decide_eq_true_eq]; right
      exact ⟨by rw [h1.1, h2.1], by omega⟩

theorem atB_iff {m : Int} {c : SChannel} : atB m c = true ↔ c.Armed = true ∧ c.At = m := by
  unfold atB; cases c.Armed <;> simp

/-- One time's switches, then the rest. -/
theorem split_perm {v_to m : Int} (hm : m ≤ v_to) : ∀ (l : List SChannel) (i : Nat), (swsF v_to i l).Perm (atS m i l ++ swsF v_to i (l.map (atC m)))
  | [], _ => .refl _
  | c :: r, i => by
    have ih := split_perm hm r (i + 1)
    have hw : swC v_to i c = atW m i c ++ swC v_to i (atC m c) := by
      cases hb : atB m c
      · have h1 : atW m i c = [] := by unfold atW; rw [hb]; rfl
        have h2 : atC m c = c := by unfold atC; rw [hb]; rfl
        rw [h1, h2]; rfl
      · have h2 : swC v_to i (atC m c) = [] := by unfold atC swC due; rw [hb]; rfl
        obtain ⟨ha, he⟩ := atB_iff.1 hb
        have hd : due v_to c = true := by unfold due; rw [ha]; simp; omega
        rw [h2, List.append_nil]
        unfold swC atW
        rw [hb, hd, he]
        have : (c.Next == c.Level) = (c.Level == c.Next) := by cases c.Next <;> cases c.Level <;> rfl
        rw [this]
    simp only [swsF, atS, List.map_cons]
    rw [hw]
    simp only [List.append_assoc]
    refine List.Perm.append_left _ ?_
    refine (List.Perm.append_left _ ih).trans ?_
    rw [← List.append_assoc, ← List.append_assoc]
    exact List.Perm.append_right _ List.perm_append_comm

theorem uniq_sorted : ∀ {l m : List SSwitch}, l.Pairwise (fun a b => ltS a b = true) → m.Pairwise (fun a b => ltS a b = true) → l.Perm m → l = m
  | [], m, _, _, hp => hp.nil_eq
  | x :: l, [], _, _, hp => by have := hp.length_eq; simp at this
  | x :: l, y :: m, hl, hm, hp => by
    have asym : ∀ a b : SSwitch, ltS a b = true → ltS b a = true → False := fun a b h1 h2 => by unfold ltS at h1 h2; simp only [decide_eq_true_eq] at h1 h2; omega
    have hxy : x = y := by
      have h1 : x ∈ y :: m := hp.mem_iff.1 (List.mem_cons_self ..)
      have h2 : y ∈ x :: l := hp.mem_iff.2 (List.mem_cons_self ..)
      rcases List.mem_cons.1 h1 with h1 | h1
      · exact h1
      · rcases List.mem_cons.1 h2 with h2 | h2
        · exact h2.symm
        · exact (asym x y ((List.pairwise_cons.1 hl).1 y h2) ((List.pairwise_cons.1 hm).1 x h1)).elim
    subst hxy
    rw [uniq_sorted (List.pairwise_cons.1 hl).2 (List.pairwise_cons.1 hm).2 (List.Perm.cons_inv hp)]

theorem adv_split {v_to m : Int} {l : List SChannel} (hm : m ≤ v_to) (hmin : ∀ c ∈ l, c.Armed = true → m ≤ c.At) : advS v_to l = atS m 0 l ++ advS v_to (l.map (atC m)) := by
  refine uniq_sorted (advS_sorted _ _) ?_ ((advS_perm v_to l).trans ((split_perm hm l 0).trans (List.Perm.append_left _ (advS_perm v_to _).symm)))
  rw [List.pairwise_append]
  refine ⟨atS_asc l 0, advS_sorted _ _, fun a ha b hb => ?_⟩
  have h1 := (mem_atS ha).1
  obtain ⟨j, c, h2, h3, h4, rfl⟩ := mem_advS.1 hb
  rw [List.getElem?_map] at h2
  cases hd : l[j]? with
  | none => rw [hd] at h2; cases h2
  | some d =>
    rw [hd] at h2
    simp only [Option.map_some, Option.some.injEq] at h2
    subst h2
    cases hb : atB m d
    · have e : atC m d = d := by unfold atC; rw [hb]; rfl
      rw [e] at h3 ⊢
      have ha : d.Armed = true := by unfold due at h3; cases h : d.Armed <;> simp [h] at h3 ⊢
      have := hmin d (List.mem_of_getElem? hd) ha
      have hne : d.At ≠ m := fun h => by rw [atB_iff.2 ⟨ha, h⟩] at hb; cases hb
      unfold ltS; simp only [decide_eq_true_eq]; left; rw [h1]; show m < d.At; omega
    · exfalso
      unfold atC due at h3; rw [hb] at h3; simp at h3

theorem adv_atC {v_to m : Int} (hm : m ≤ v_to) (c : SChannel) : advC v_to (atC m c) = advC v_to c := by
  cases hb : atB m c
  · have e : atC m c = c := by unfold atC; rw [hb]; rfl
    rw [e]
  · obtain ⟨ha, he⟩ := atB_iff.1 hb
    have hd : due v_to c = true := by unfold due; rw [ha]; simp; omega
    have e : atC m c = ⟨false, 0, false, c.Next⟩ := by unfold atC; rw [hb]; rfl
    have e2 : advC v_to c = ⟨false, 0, false, c.Next⟩ := by unfold advC; rw [hd]; rfl
    rw [e, e2]; rfl

theorem inner_eq (out : List SSwitch) (m : Int) (b : Bool) (l : List SChannel) (h : l.length ≤ 16) (ho : out.length ≤ 1000) :
    loopM (magnetoref24_Advance_b2 (out, m, b, l)) (0, l, out) = some (.inl ((l.length : Int), l.map (atC m), out ++ atS m 0 l)) := by
  obtain ⟨r, h1, h2⟩ := loopM_inv (mb := magnetoref24_Advance_b2 (out, m, b, l)) (fun i s => s = ((i : Int), (l.take i).map (atC m) ++ l.drop i, out ++ atS m 0 (l.take i))) (fun r => r = .inl ((l.length : Int), l.map (atC m), out ++ atS m 0 l)) l.length 0 (0, l, out) (by simp [atS]) (fun j _ hj s hs => by
    subst hs
    have hj : j < l.length := by omega
    have htk : l.take (j + 1) = l.take j ++ [l[j]] := List.take_succ_eq_append_getElem hj
    have hdr : l.drop j = l[j] :: l.drop (j + 1) := List.drop_eq_getElem_cons hj
    have hlt : (l.take j).length = j := by simp; omega
    have hlen : ((l.take j).map (atC m) ++ l.drop j).length = l.length := by simp; omega
    have hget : ((l.take j).map (atC m) ++ l.drop j)[j]? = some l[j] := by
      rw [List.getElem?_append_right (by simp; omega), List.length_map, hlt, Nat.sub_self, hdr]; rfl
    unfold magnetoref24_Advance_b2
    have d1 : decide ((j : Int) < ((((l.take j).map (atC m) ++ l.drop j)).length : Int)) = true := by rw [hlen]; simp; omega
    simp only [d1, cond_true, getI_nat, hget, Option.bind_some, w64_of (n := (j : Int) + 1) (by omega) (by omega)]
    have hset : ((l.take j).map (atC m) ++ l.drop j).set j ⟨false, 0, false, l[j].Next⟩ = (l.take j).map (atC m) ++ ⟨false, 0, false, l[j].Next⟩ :: l.drop (j + 1) := by
      rw [List.set_append_right _ _ (by simp; omega), List.length_map, hlt, Nat.sub_self, hdr, List.set_cons_zero]
    cases hc : ((!l[j].Armed) || (l[j].At != m))
    · have hb : atB m l[j] = true := by unfold atB; rw [hc]; rfl
      have e1 : atC m l[j] = ⟨false, 0, false, l[j].Next⟩ := by unfold atC; rw [hb]; rfl
      simp only [cond_false]
      have hol : (out ++ atS m 0 (l.take j)).length ≤ 1100 := by
        have := atS_len m (l.take j) 0
        simp only [List.length_append, List.length_take] at this ⊢; omega
      cases hn : (l[j].Level == l[j].Next)
      · simp only [Bool.not_false, cond_true]
        rw [appendM_ok _ _ (by simp only [List.length_singleton]; omega)]
        simp only [Option.bind_some]
        rw [setM_nat _ _ _ (by rw [hlen]; exact hj), hset]
        refine ⟨_, rfl, ?_⟩
        rw [htk, atS_snoc, hlt, Nat.zero_add]
        unfold atW; rw [hb, hn]
        simp only [List.map_append, List.map_cons, List.map_nil, e1, List.append_assoc, List.singleton_append]
        first | rfl | (simp only [Bool.not_true, Bool.and_false, cond_false, List.append_nil]; rfl)
      · simp only [Bool.not_true, cond_false, Option.bind_some]
        rw [setM_nat _ _ _ (by rw [hlen]; exact hj), hset]
        refine ⟨_, rfl, ?_⟩
        rw [htk, atS_snoc, hlt, Nat.zero_add]
        unfold atW; rw [hb, hn]
        simp only [List.map_append, List.map_cons, List.map_nil, e1, List.append_assoc, List.singleton_append]
        first | rfl | (simp only [Bool.not_true, Bool.and_false, cond_false, List.append_nil]; rfl)
    · have hb : atB m l[j] = false := by unfold atB; rw [hc]; rfl
      have e1 : atC m l[j] = l[j] := by unfold atC; rw [hb]; rfl
      refine ⟨_, rfl, ?_⟩
      rw [htk, atS_snoc, hlt, Nat.zero_add, hdr]
      unfold atW; rw [hb]
      simp only [List.map_append, List.map_cons, List.map_nil, e1, List.append_assoc, List.singleton_append, Bool.false_and, cond_false, List.append_nil]
      rfl) (fun s hs => by
    subst hs
    unfold magnetoref24_Advance_b2
    have d1 : decide (((0 + l.length : Nat) : Int) < ((((l.take (0 + l.length)).map (atC m) ++ l.drop (0 + l.length))).length : Int)) = false := by simp
    simp only [d1, cond_false]
    exact ⟨_, rfl, by simp⟩)
  rw [h1, h2]

theorem outer_end (v_to : Int) (v : STimer) (l : List SChannel) (out : List SSwitch) (hd : ∀ c ∈ l, due v_to c = false) :
    ∃ a b, loopM (magnetoref24_Advance_b1 v_to v) (out, (nxV l).1, (nxV l).2, l) = some (.inl (out ++ advS v_to l, a, b, l.map (advC v_to))) := by
  have hb : ((nxV l).2 && decide ((nxV l).1 ≤ v_to)) = false := by
    cases h2 : (nxV l).2
    · rfl
    · obtain ⟨c, hc, ha, hat⟩ := nxV_some h2
      have := hd c hc
      unfold due at this; rw [ha] at this; simp at this
      simp; omega
  obtain ⟨k1, k2⟩ := none_due hd
  refine ⟨(nxV l).1, (nxV l).2, ?_⟩
  rw [k1, k2, List.append_nil]
  refine loopM_out ?_
  unfold magnetoref24_Advance_b1
  simp only [hb, cond_false]

theorem count_lt {α : Type} {p q : α → Bool} : ∀ {l : List α} {y : α}, (∀ x, p x = true → q x = true) → y ∈ l → q y = true → p y = false → l.countP p < l.countP q
  | [], y, _, hy, _, _ => by simp at hy
  | x :: l, y, h, hy, hq, hp => by
    have hle : l.countP p ≤ l.countP q := List.countP_mono_left fun x _ hx => h x hx
    rcases List.mem_cons.1 hy with rfl | hy
    · rw [List.countP_cons_of_pos hq, List.countP_cons_of_neg (by simp [hp])]; omega
    · have := count_lt h hy hq hp
      cases hpx : p x
      · rw [List.countP_cons_of_neg (by simp [hpx])]
        have : l.countP q ≤ (x :: l).countP q := by rw [List.countP_cons]; omega
        omega
      · rw [List.countP_cons_of_pos hpx, List.countP_cons_of_pos (h x hpx)]; omega

theorem outer_eq (v_to : Int) (v : STimer) : ∀ (n : Nat) (l : List SChannel) (out : List SSwitch), l.countP (due v_to) ≤ n → l.length ≤ 16 → out.length + n * 16 ≤ 1000 →
    ∃ a b, loopM (magnetoref24_Advance_b1 v_to v) (out, (nxV l).1, (nxV l).2, l) = some (.inl (out ++ advS v_to l, a, b, l.map (advC v_to))) := by
  intro n
  induction n with
  | zero =>
    intro l out hn hl ho
    exact outer_end v_to v l out (fun c hc => by
      have := List.countP_eq_zero.1 (Nat.le_zero.1 hn) c hc
      simpa using this)
  | succ n ih =>
    intro l out hn hl ho
    by_cases hd : ∀ c ∈ l, due v_to c = false
    · exact outer_end v_to v l out hd
    · obtain ⟨c, hc, hdc⟩ : ∃ c ∈ l, due v_to c = true := by
        refine Classical.byContradiction fun hx => hd fun c hc => ?_
        cases h : due v_to c
        · rfl
        · exact (hx ⟨c, hc, h⟩).elim
      have hac : c.Armed = true ∧ c.At ≤ v_to := by
        unfold due at hdc; cases h : c.Armed <;> simp [h] at hdc ⊢; exact hdc
      obtain ⟨h1, h2⟩ := nxV_armed hc hac.1
      have hb : ((nxV l).2 && decide ((nxV l).1 ≤ v_to)) = true := by rw [h1]; simp; omega
      obtain ⟨c0, hc0, ha0, hat0⟩ := nxV_some h1
      have hm : (nxV l).1 ≤ v_to := by omega
      have hlen : (l.map (atC (nxV l).1)).length ≤ 16 := by simpa using hl
      have hstep : magnetoref24_Advance_b1 v_to v (out, (nxV l).1, (nxV l).2, l) = some (.inl (out ++ atS (nxV l).1 0 l, (nxV (l.map (atC (nxV l).1))).1, (nxV (l.map (atC (nxV l).1))).2, l.map (atC (nxV l).1))) := by
        unfold magnetoref24_Advance_b1
        simp only [hb, cond_true]
        rw [inner_eq _ _ _ _ hl (by omega)]
        simp only [Option.bind_some]
        rw [rnext_eq _ (by simp only [List.length_map]; omega)]
        rfl
      have hcount : (l.map (atC (nxV l).1)).countP (due v_to) ≤ n := by
        have h3 : (l.map (atC (nxV l).1)).countP (due v_to) < l.countP (due v_to) := by
          rw [List.countP_map]
          exact count_lt (fun x hx => by
            simp only [Function.comp_apply] at hx
            cases hxb : atB (nxV l).1 x
            · have e : atC (nxV l).1 x = x := by unfold atC; rw [hxb]; rfl
              rwa [e] at hx
            · unfold atC due at hx; rw [hxb] at hx; simp at hx) hc0 (by unfold due; rw [ha0]; simp; omega) (by
            simp only [Function.comp_apply]
            unfold atC due; rw [atB_iff.2 ⟨ha0, hat0⟩]; rfl)
        omega
      have hol : (out ++ atS (nxV l).1 0 l).length + n * 16 ≤ 1000 := by
        have := atS_len (nxV l).1 l 0
        simp only [List.length_append]; omega
      obtain ⟨a, b, h4⟩ := ih _ (out ++ atS (nxV l).1 0 l) hcount hlen hol
      refine ⟨a, b, ?_⟩
      have e5 : (l.map (atC (nxV l).1)).map (advC v_to) = l.map (advC v_to) := by
        rw [List.map_map]
        exact List.map_congr_left fun x _ => adv_atC hm x
      rw [loopM_next hstep, h4, adv_split hm (fun c hc ha => (nxV_armed hc ha).2), List.append_assoc, e5]

theorem plain_TimerAdvances (x0 : STimer) (x1 : Int) (_ : wf_STimer x0) (_ : (fun n => (Lit.int .i64 n).wf = true) x1) : magnetolaw24_TimerAdvances x0 x1 = some true := by
  unfold magnetolaw24_TimerAdvances
  rw [awake24]
  simp only [Option.bind_some, Bool.not_true, Bool.false_or]
  cases h100 : decide ((x0.Channels.length : Int) > 100)
  · simp only [cond_false]
    rw [adv_eq, next_eq, rvalid]
    cases hv : timB x0
    · rfl
    · have hl := timB_len hv
      simp only [Bool.not_true, cond_false, cond_true, Option.bind_some]
      rw [rnext_eq _ (by omega)]
      simp only [Option.bind_some, bne_self_eq_false, beq_self_eq_true, Bool.not_true, Bool.or_self, cond_false]
      unfold MAXT
      cases h1 : decide (x1 < x0.Now)
      · cases h2 : decide (x1 > 1099511627776)
        · simp only [cond_false]
          have hadv : magnetoref24_Advance x0 x1 = some (⟨x1, x0.Channels.map (advC x1)⟩, advS x1 x0.Channels) := by
            unfold magnetoref24_Advance
            rw [copy_eq _ (by omega)]
            simp only [Option.bind_some]
            rw [rnext_eq _ (by omega)]
            simp only [Option.bind_some]
            have hc : x0.Channels.countP (due x1) ≤ 16 := Nat.le_trans List.countP_le_length hl.2.1
            obtain ⟨a, b, h⟩ := outer_eq x1 x0 16 x0.Channels [] hc hl.2.1 (by simp)
            rw [h]
            rfl
          rw [hadv]
          simp only [Option.bind_some]
          rw [same_self _ (by simp; omega)]
          simp only [Option.bind_some, cond_true]
          rw [equal_self _ (by have := advS_len x1 x0.Channels; omega)]
          rfl
        · rfl
      · rfl
  · rfl
end Go.Pv

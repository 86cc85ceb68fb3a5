/- The timer's functions, as they compute. Plain Lean. -/
import Derived.Test.YtbkjebepjcnklaaWf
import Derived.Test.YtbkjebepjcnklaaPvXg
set_option linter.unusedSimpArgs false
namespace Go.Pv
open Go

abbrev MAXT : Int := 1099511627776
abbrev tz : STimer := ⟨0, []⟩

def chB (now : Int) (c : SChannel) : Bool := !(bif c.Armed then (decide (c.At ≤ now) || decide (c.At > 1099511627776)) else ((c.At != 0) || c.Next))
def headB (t : STimer) : Bool := (((decide (t.Now < 0)) || (decide (t.Now > 1099511627776))) || (decide ((t.Channels.length : Int) < 1))) || (decide ((t.Channels.length : Int) > 16))
def timB (t : STimer) : Bool := !headB t && t.Channels.all (chB t.Now)

theorem headB_len {t : STimer} (h : headB t = false) : 1 ≤ t.Channels.length ∧ t.Channels.length ≤ 16 ∧ 0 ≤ t.Now ∧ t.Now ≤ 1099511627776 := by
  unfold headB at h
  simp only [Bool.or_eq_false_iff, decide_eq_false_iff_not] at h
  omega

theorem headB_of {t : STimer} (h : 1 ≤ t.Channels.length ∧ t.Channels.length ≤ 16 ∧ 0 ≤ t.Now ∧ t.Now ≤ 1099511627776) : headB t = false := by
  unfold headB
  simp only [Bool.or_eq_false_iff, decide_eq_false_iff_not]
  omega

theorem timB_len {t : STimer} (h : timB t = true) : 1 ≤ t.Channels.length ∧ t.Channels.length ≤ 16 ∧ 0 ≤ t.Now ∧ t.Now ≤ 1099511627776 := by
  unfold timB at h
  simp only [Bool.and_eq_true, Bool.not_eq_true'] at h
  exact headB_len h.1

theorem tvalid (t : STimer) : timer_Valid t = some (timB t) := by
  unfold timer_Valid timB
  cases hh : headB t
  · unfold headB at hh
    rw [hh]
    have hl := headB_len (t := t) hh
    have k := index_any t.Channels (by omega) (fun c => timer_Valid_1 c t) (fun c => !chB t.Now c) (fun y _ => by unfold timer_Valid_1 chB; cases y.Armed <;> simp)
    have e2 : (t.Channels.any fun z => !chB t.Now z) = !t.Channels.all (chB t.Now) := by rw [List.any_eq_not_all_not]; simp
    rw [e2] at k
    simp only [cond_false, Bool.not_false, Bool.true_and]
    have : slices_ContainsFunc_sChannel t.Channels (fun x0 => timer_Valid_1 x0 t) = some (!t.Channels.all (chB t.Now)) := k
    rw [this]
    simp
  · unfold headB at hh
    rw [hh]; rfl

theorem rvalid (t : STimer) : magnetoref24_Valid t = some (timB t) := by
  unfold magnetoref24_Valid timB
  cases hh : headB t
  · unfold headB at hh
    rw [hh]
    have hl := headB_len (t := t) hh
    have k := loopM_allL (mb := magnetoref24_Valid_b1 t) (fun i => (i : Int)) (p := chB t.Now) (b0 := .inl (t.Channels.length : Int)) (b1 := .inr false) t.Channels (by simp [magnetoref24_Valid_b1]) (fun j y hy => by
      have hj := (List.getElem?_eq_some_iff.1 hy).1
      unfold magnetoref24_Valid_b1
      have e : decide ((j : Int) < (t.Channels.length : Int)) = true := by simp; omega
      rw [e, getI_nat, hy, w64_of (n := (j : Int) + 1) (by omega) (by omega)]
      unfold chB
      simp only [Option.bind_some, cond_true]
      cases y.Armed <;> cases (decide (y.At ≤ t.Now) || decide (y.At > 1099511627776)) <;> cases ((y.At != 0) || y.Next) <;> rfl)
    rw [show ((0 : Nat) : Int) = 0 from rfl] at k
    simp only [cond_false, Bool.not_false, Bool.true_and]
    rw [k]
    cases t.Channels.all (chB t.Now) <;> rfl
  · unfold headB at hh
    rw [hh]; rfl

def badC (t : STimer) (ch : Int) : Bool := (decide (ch < 0)) || (decide (ch ≥ (t.Channels.length : Int)))

theorem begin_eq (t : STimer) (ch : Int) : timer_begin t ch = some (bif !timB t then (tz, 1) else bif badC t ch then (tz, 2) else (t, 0)) := by
  unfold timer_begin
  rw [tvalid]
  cases h : timB t
  · rfl
  · have hl := timB_len h
    simp only [Option.bind_some, Bool.not_true, cond_false]
    cases hb : badC t ch
    · unfold badC at hb
      rw [hb]
      simp only [cond_false]
      rw [makeM_nat _ (by omega)]
      simp only [Option.bind_some]
      rw [copyL_same _ _ (by simp)]
    · unfold badC at hb
      rw [hb]; rfl

theorem badC_nat {t : STimer} {ch : Int} (h : badC t ch = false) : ∃ j : Nat, ch = (j : Int) ∧ j < t.Channels.length := by
  unfold badC at h
  simp only [Bool.or_eq_false_iff, decide_eq_false_iff_not] at h
  exact ⟨ch.toNat, by omega, by omega⟩

theorem first_eq (t : STimer) (ch : Int) : magnetolaw24_first t ch = some (bif !timB t then 1 else bif badC t ch then 2 else 0) := by
  unfold magnetolaw24_first badC
  rw [rvalid]
  cases timB t
  · rfl
  · simp only [Option.bind_some, Bool.not_true, cond_false]
    cases ((decide (ch < 0)) || (decide (ch ≥ (t.Channels.length : Int)))) <;> rfl

theorem arm_eq (t : STimer) (ch at_ : Int) (lvl : Bool) : ∀ j : Nat, ch = (j : Int) → (hj : j < t.Channels.length) → timB t = true →
    timer_Arm t ch at_ lvl = some (bif decide (at_ ≤ t.Now) then (tz, 16) else bif decide (at_ > MAXT) then (tz, 2) else (⟨t.Now, t.Channels.set j ⟨true, at_, lvl, t.Channels[j].Level⟩⟩, 0)) := by
  rintro j rfl hj h
  unfold timer_Arm
  have hb : badC t (j : Int) = false := by unfold badC; simp; omega
  rw [begin_eq, h, hb]
  simp only [Bool.not_true, cond_false, Option.bind_some, bne_self_eq_false]
  cases decide (at_ ≤ t.Now)
  · simp only [cond_false]
    unfold MAXT
    cases decide (at_ > 1099511627776)
    · simp only [cond_false, getI_get _ _ hj, Option.bind_some, setM_nat _ _ _ hj]
    · rfl
  · rfl

theorem arm_bad (t : STimer) (ch at_ : Int) (lvl : Bool) (e : Int) (he : (bif !timB t then (1 : Int) else bif badC t ch then 2 else 0) = e) (h0 : (e != 0) = true) : timer_Arm t ch at_ lvl = some (tz, e) := by
  unfold timer_Arm
  rw [begin_eq]
  subst he
  revert h0
  cases timB t
  · intro _; rfl
  · simp only [Bool.not_true, cond_false]
    cases badC t ch
    · intro h; simp at h
    · intro _; rfl

theorem disarm_eq (t : STimer) (ch : Int) : ∀ j : Nat, ch = (j : Int) → (hj : j < t.Channels.length) → timB t = true →
    timer_Disarm t ch = some (⟨t.Now, t.Channels.set j ⟨false, 0, false, t.Channels[j].Level⟩⟩, 0) := by
  rintro j rfl hj h
  unfold timer_Disarm
  have hb : badC t (j : Int) = false := by unfold badC; simp; omega
  rw [begin_eq, h, hb]
  simp only [Bool.not_true, cond_false, Option.bind_some, bne_self_eq_false, getI_get _ _ hj, setM_nat _ _ _ hj]

theorem disarm_bad (t : STimer) (ch : Int) (e : Int) (he : (bif !timB t then (1 : Int) else bif badC t ch then 2 else 0) = e) (h0 : (e != 0) = true) : timer_Disarm t ch = some (tz, e) := by
  unfold timer_Disarm
  rw [begin_eq]
  subst he
  revert h0
  cases timB t
  · intro _; rfl
  · simp only [Bool.not_true, cond_false]
    cases badC t ch
    · intro h; simp at h
    · intro _; rfl

theorem force_eq (t : STimer) (ch : Int) (lvl : Bool) : ∀ j : Nat, ch = (j : Int) → (hj : j < t.Channels.length) → timB t = true →
    timer_Force t ch lvl = some (⟨t.Now, t.Channels.set j ⟨false, 0, false, lvl⟩⟩, bif t.Channels[j].Level == lvl then [] else [⟨t.Now, (j : Int), lvl⟩], 0) := by
  rintro j rfl hj h
  unfold timer_Force
  have hb : badC t (j : Int) = false := by unfold badC; simp; omega
  rw [begin_eq, h, hb]
  simp only [Bool.not_true, cond_false, Option.bind_some, bne_self_eq_false, getI_get _ _ hj, setM_nat _ _ _ hj]
  cases (t.Channels[j].Level == lvl) <;> rfl

theorem force_bad (t : STimer) (ch : Int) (lvl : Bool) (e : Int) (he : (bif !timB t then (1 : Int) else bif badC t ch then 2 else 0) = e) (h0 : (e != 0) = true) : timer_Force t ch lvl = some (tz, [], e) := by
  unfold timer_Force
  rw [begin_eq]
  subst he
  revert h0
  cases timB t
  · intro _; rfl
  · simp only [Bool.not_true, cond_false]
    cases badC t ch
    · intro h; simp at h
    · intro _; rfl

theorem same_self (t : STimer) (h : t.Channels.length ≤ 9223372036854775806) : magnetoref24_Same t t = some true := by
  unfold magnetoref24_Same
  simp only [bne_self_eq_false, Bool.or_self, cond_false]
  have k := loopM_allL (mb := magnetoref24_Same_b1 t t) (fun i => (i : Int)) (p := fun _ => true) (b0 := .inl (t.Channels.length : Int)) (b1 := .inr false) t.Channels (by simp [magnetoref24_Same_b1]) (fun j y hy => by
    have hj := (List.getElem?_eq_some_iff.1 hy).1
    unfold magnetoref24_Same_b1
    have e : decide ((j : Int) < (t.Channels.length : Int)) = true := by simp; omega
    rw [e, getI_nat, hy, w64_of (n := (j : Int) + 1) (by omega) (by omega)]
    simp)
  rw [show ((0 : Nat) : Int) = 0 from rfl] at k
  rw [k]
  have : (t.Channels.all fun _ => true) = true := by simp
  rw [this]; rfl

theorem equal_self (l : List SSwitch) (h : l.length ≤ 9223372036854775807) : slices_Equal_sSwitch l l = some true := by
  unfold slices_Equal_sSwitch
  simp only [bne_self_eq_false, cond_false]
  obtain ⟨s, h1, _⟩ := rangeN_inv (R := Bool) l.length h (slices_Equal_sSwitch_b1 l l) (fun _ _ => True) () trivial (fun j hj s _ => ⟨(), by
    unfold slices_Equal_sSwitch_b1
    rw [getI_get _ _ hj]
    simp, trivial⟩)
  rw [h1]; rfl

theorem equalC_self (l : List SChannel) (h : l.length ≤ 9223372036854775807) : slices_Equal_sChannel l l = some true := by
  unfold slices_Equal_sChannel
  simp only [bne_self_eq_false, cond_false]
  obtain ⟨s, h1, _⟩ := rangeN_inv (R := Bool) l.length h (slices_Equal_sChannel_b1 l l) (fun _ _ => True) () trivial (fun j hj s _ => ⟨(), by
    unfold slices_Equal_sChannel_b1
    rw [getI_get _ _ hj]
    simp, trivial⟩)
  rw [h1]; rfl

theorem none_tz : magnetolaw24_none tz = some true := rfl

theorem copy_eq (t : STimer) (h : t.Channels.length ≤ 1000) : magnetoref24_Copy t = some t := by
  unfold magnetoref24_Copy
  rw [appendM_ok _ _ (by simp; omega)]
  rfl

/-! ### Advance -/
def due (v_to : Int) (c : SChannel) : Bool := !((!c.Armed) || (decide (c.At > v_to)))
def swC (v_to : Int) (i : Nat) (c : SChannel) : List SSwitch := bif due v_to c && !(c.Next == c.Level) then [⟨c.At, (i : Int), c.Next⟩] else []
def advC (v_to : Int) (c : SChannel) : SChannel := bif due v_to c then ⟨false, 0, false, c.Next⟩ else c
def swsF (v_to : Int) : Nat → List SChannel → List SSwitch
  | _, [] => []
  | i, c :: r => swC v_to i c ++ swsF v_to (i + 1) r

theorem swC_len (v_to : Int) (i : Nat) (c : SChannel) : (swC v_to i c).length ≤ 1 := by
  unfold swC; cases (due v_to c && !(c.Next == c.Level)) <;> simp

theorem swsF_len (v_to : Int) : ∀ (l : List SChannel) (i : Nat), (swsF v_to i l).length ≤ l.length
  | [], _ => Nat.le_refl _
  | c :: r, i => by
    have := swsF_len v_to r (i + 1)
    have := swC_len v_to i c
    simp only [swsF, List.length_append, List.length_cons]; omega

theorem swsF_snoc (v_to : Int) : ∀ (l : List SChannel) (i : Nat) (c : SChannel), swsF v_to i (l ++ [c]) = swsF v_to i l ++ swC v_to (i + l.length) c
  | [], i, c => by simp [swsF]
  | x :: l, i, c => by
    simp only [List.cons_append, swsF, List.append_assoc, List.append_cancel_left_eq, List.length_cons]
    rw [swsF_snoc v_to l (i + 1) c, show i + 1 + l.length = i + (l.length + 1) by omega]

theorem mem_swsF {v_to : Int} {s : SSwitch} : ∀ {l : List SChannel} {i : Nat}, s ∈ swsF v_to i l → ∃ j c, l[j]? = some c ∧ due v_to c = true ∧ (c.Next == c.Level) = false ∧ s = ⟨c.At, ((i + j : Nat) : Int), c.Next⟩
  | [], i, h => by simp [swsF] at h
  | c :: r, i, h => by
    simp only [swsF, List.mem_append] at h
    rcases h with h | h
    · unfold swC at h
      cases hd : (due v_to c && !(c.Next == c.Level)) <;> rw [hd] at h
      · simp at h
      · simp only [cond_true, List.mem_singleton] at h
        simp only [Bool.and_eq_true, Bool.not_eq_true'] at hd
        exact ⟨0, c, rfl, hd.1, hd.2, by simpa using h⟩
    · obtain ⟨j, c', h1, h2, h3, h4⟩ := mem_swsF h
      exact ⟨j + 1, c', by simpa using h1, h2, h3, by rw [h4, show i + 1 + j = i + (j + 1) by omega]⟩

theorem swsF_mem {v_to : Int} : ∀ {l : List SChannel} {i j : Nat} {c : SChannel}, l[j]? = some c → due v_to c = true → (c.Next == c.Level) = false → (⟨c.At, ((i + j : Nat) : Int), c.Next⟩ : SSwitch) ∈ swsF v_to i l
  | [], i, j, c, h, _, _ => by simp at h
  | x :: r, i, 0, c, h, hd, hn => by
    simp only [List.getElem?_cons_zero, Option.some.injEq] at h; subst h
    simp [swsF, swC, hd, hn]
  | x :: r, i, j + 1, c, h, hd, hn => by
    simp only [List.getElem?_cons_succ] at h
    have := swsF_mem (i := i + 1) h hd hn
    simp only [swsF, List.mem_append]
    right
    rw [show i + (j + 1) = i + 1 + j by omega]; exact this

/-- Channels ascend. -/
theorem swsF_asc {v_to : Int} : ∀ (l : List SChannel) (i : Nat), (swsF v_to i l).Pairwise (fun a b => a.Channel < b.Channel)
  | [], _ => .nil
  | c :: r, i => by
    simp only [swsF]
    rw [List.pairwise_append]
    refine ⟨?_, swsF_asc r (i + 1), fun a ha b hb => ?_⟩
    · unfold swC; cases (due v_to c && !(c.Next == c.Level)) <;> simp
    · have h1 : a.Channel = (i : Int) := by
        unfold swC at ha
        cases hd : (due v_to c && !(c.Next == c.Level)) <;> rw [hd] at ha
        · simp at ha
        · simp at ha; rw [ha]
      obtain ⟨j, c', _, _, _, h4⟩ := mem_swsF hb
      rw [h1, h4]; simp only; omega

def ltS (a b : SSwitch) : Bool := decide (a.At < b.At ∨ (a.At = b.At ∧ a.Channel < b.Channel))

theorem cmp_eq (x y : Int) : cmp_Compare_int x y = some (if x < y then -1 else if x > y then 1 else 0) := by
  unfold cmp_Compare_int cmp_isNaN_int
  simp only [Option.bind_some, bne_self_eq_false, cond_false]
  by_cases h1 : x < y
  · simp [h1]
  · by_cases h2 : x > y <;> simp [h1, h2]

theorem or_eq (v v2 : Int) : cmp_Or_int [v, v2] = some (if v ≠ 0 then v else v2) := by
  unfold cmp_Or_int
  rw [rangeM_steps _ (by simp)]
  by_cases h1 : v = 0
  · by_cases h2 : v2 = 0
    · simp [stepsL, cmp_Or_int_b1, h1, h2]
    · have h3 : (v2 != 0) = true := by simpa using h2
      simp [stepsL, cmp_Or_int_b1, h1, h3]
  · have h3 : (v != 0) = true := by simpa using h1
    simp [stepsL, cmp_Or_int_b1, h1, h3]

theorem cmpS (a b : SSwitch) : ∃ c, timer_Advance_1 a b = some c ∧ (decide (c < 0)) = ltS a b := by
  unfold timer_Advance_1
  rw [cmp_eq, cmp_eq]
  simp only [Option.bind_some, or_eq]
  refine ⟨_, rfl, ?_⟩
  unfold ltS
  rw [Bool.eq_iff_iff]
  simp only [decide_eq_true_eq]
  by_cases h1 : a.At < b.At
  · simp [h1]
  · by_cases h2 : a.At > b.At
    · simp [h1, h2]; omega
    · have : a.At = b.At := by omega
      by_cases h3 : a.Channel < b.Channel
      · simp [this, h3]
      · by_cases h4 : a.Channel > b.Channel <;> simp [this, h3, h4] <;> omega

theorem ltM_eq (a b : SSwitch) : ltM timer_Advance_1 a b = ltS a b := by
  obtain ⟨c, h1, h2⟩ := cmpS a b
  unfold ltM; rw [h1]; exact h2

theorem sortS (l : List SSwitch) (hl : l.length ≤ 100) (hd : ∀ x ∈ l, ∀ y ∈ l, x.Channel = y.Channel → x = y) : slices_SortFunc_sSwitch l timer_Advance_1 = some (l.mergeSort fun x y => !ltS y x) := by
  unfold slices_SortFunc_sSwitch
  have e : (fun x y => !ltM timer_Advance_1 y x) = fun x y => !ltS y x := by funext x y; rw [ltM_eq]
  rw [sortM_ok ⟨by omega, fun x _ y _ => by obtain ⟨c, h, _⟩ := cmpS x y; exact ⟨c, h⟩, fun x _ => by rw [ltM_eq]; unfold ltS; simp, fun x _ y _ z _ => by rw [ltM_eq, ltM_eq, ltM_eq]; unfold ltS; simp only [decide_eq_true_eq]; omega,
    fun x _ y _ z _ => by rw [ltM_eq, ltM_eq, ltM_eq]; unfold ltS; simp only [decide_eq_false_iff_not]; omega,
    fun x hx y hy => by rw [ltM_eq, ltM_eq]; unfold ltS; simp only [decide_eq_false_iff_not]; intro a b; exact hd x hx y hy (by omega)⟩, e]

def advS (v_to : Int) (l : List SChannel) : List SSwitch := (swsF v_to 0 l).mergeSort fun x y => !ltS y x

theorem chan_inj {R : SSwitch → SSwitch → Prop} {l : List SSwitch} (h : l.Pairwise R) (hR : ∀ a b, R a b → a.Channel ≠ b.Channel) : ∀ x ∈ l, ∀ y ∈ l, x.Channel = y.Channel → x = y := by
  induction h with
  | nil => intro x hx; simp at hx
  | cons h1 _ ih =>
    intro x hx y hy e
    rcases List.mem_cons.1 hx with hx1 | hx1
    · rcases List.mem_cons.1 hy with hy1 | hy1
      · rw [hx1, hy1]
      · rw [hx1] at e; exact absurd e (hR _ _ (h1 y hy1))
    · rcases List.mem_cons.1 hy with hy1 | hy1
      · rw [hy1] at e; exact absurd e.symm (hR _ _ (h1 x hx1))
      · exact ih x hx1 y hy1 e

theorem adv_eq (t : STimer) (v_to : Int) : timer_Advance t v_to = some (bif !timB t then (tz, [], 1) else bif decide (v_to < t.Now) then (tz, [], 16) else bif decide (v_to > MAXT) then (tz, [], 2) else (⟨v_to, t.Channels.map (advC v_to)⟩, advS v_to t.Channels, 0)) := by
  unfold timer_Advance
  rw [begin_eq]
  cases h : timB t
  · rfl
  · have hl := timB_len h
    have hb : badC t 0 = false := by unfold badC; simp only [Bool.or_eq_false_iff, decide_eq_false_iff_not]; omega
    rw [hb]
    simp only [Bool.not_true, cond_false, Option.bind_some, bne_self_eq_false]
    unfold MAXT
    cases decide (v_to < t.Now)
    · simp only [cond_false]
      cases decide (v_to > 1099511627776)
      · simp only [cond_false]
        obtain ⟨s, h1, h2⟩ := rangeN_inv (R := Empty) t.Channels.length (by omega) (timer_Advance_b1 t v_to) (fun i s => s.1 = swsF v_to 0 (t.Channels.take i) ∧ s.2 = (t.Channels.take i).map (advC v_to) ++ t.Channels.drop i) ([], t.Channels) ⟨by simp [swsF], by simp⟩ (fun j hj s ⟨i1, i2⟩ => by
          have htk : t.Channels.take (j + 1) = t.Channels.take j ++ [t.Channels[j]] := List.take_succ_eq_append_getElem hj
          have hdr : t.Channels.drop j = t.Channels[j] :: t.Channels.drop (j + 1) := List.drop_eq_getElem_cons hj
          have hlt : (t.Channels.take j).length = j := by simp; omega
          unfold timer_Advance_b1
          rw [getI_get _ _ hj]
          simp only [Option.bind_some]
          cases hc : ((!t.Channels[j].Armed) || (decide (t.Channels[j].At > v_to)))
          · have hdue : due v_to t.Channels[j] = true := by unfold due; rw [hc]; rfl
            have hlen2 : j < s.2.length := by rw [i2]; simp; omega
            have hlen1 : s.1.length ≤ 16 := by
              rw [i1]; have := swsF_len v_to (t.Channels.take j) 0; simp at this; omega
            have hset : s.2.set j ⟨false, 0, false, t.Channels[j].Next⟩ = (t.Channels.take (j + 1)).map (advC v_to) ++ t.Channels.drop (j + 1) := by
              rw [i2, List.set_append_right _ _ (by simp; omega), hdr, htk]
              simp only [List.length_map, hlt, Nat.sub_self, List.set_cons_zero, List.map_append, List.map_cons, List.map_nil, List.append_assoc, List.singleton_append]
              unfold advC; rw [hdue]; rfl
            simp only [cond_false]
            cases hn : (t.Channels[j].Next == t.Channels[j].Level)
            · simp only [Bool.not_false, cond_true]
              rw [appendM_ok _ _ (by simp; omega)]
              simp only [Option.bind_some, getI_get _ _ hlen2, setM_nat _ _ _ hlen2]
              refine ⟨_, rfl, ?_, hset⟩
              simp only
              rw [htk, swsF_snoc, ← i1, hlt, Nat.zero_add]
              unfold swC; rw [hdue, hn]; rfl
            · simp only [Bool.not_true, cond_false]
              simp only [Option.bind_some, getI_get _ _ hlen2, setM_nat _ _ _ hlen2]
              refine ⟨_, rfl, ?_, hset⟩
              simp only
              rw [htk, swsF_snoc, ← i1, hlt, Nat.zero_add]
              unfold swC; rw [hdue, hn]; simp
          · have hdue : due v_to t.Channels[j] = false := by unfold due; rw [hc]; rfl
            simp only [cond_true]
            refine ⟨_, rfl, ?_, ?_⟩
            · simp only
              rw [htk, swsF_snoc, ← i1]
              unfold swC; rw [hdue]; simp
            · simp only
              rw [i2, hdr, htk]
              simp only [List.map_append, List.map_cons, List.map_nil, List.append_assoc, List.singleton_append]
              unfold advC; rw [hdue]; rfl)
        rw [h1]
        obtain ⟨i1, i2⟩ := h2
        rw [List.take_length] at i1
        rw [List.take_length, List.drop_length, List.append_nil] at i2
        simp only [Option.bind_some]
        rw [i1, i2, sortS _ (by have := swsF_len v_to t.Channels 0; omega) (chan_inj (swsF_asc t.Channels 0) (fun a b h => by omega))]
        rfl
      · rfl
    · rfl

theorem advS_perm (v_to : Int) (l : List SChannel) : (advS v_to l).Perm (swsF v_to 0 l) := List.mergeSort_perm _ _

theorem advS_sorted (v_to : Int) (l : List SChannel) : (advS v_to l).Pairwise (fun a b => ltS a b = true) := by
  have h1 : (advS v_to l).Pairwise (fun a b => (!ltS b a) = true) := List.pairwise_mergeSort (le := fun x y => !ltS y x) (fun a b c => by simp only [Bool.not_eq_true']; unfold ltS; simp only [decide_eq_false_iff_not]; omega) (fun a b => by simp only [Bool.or_eq_true, Bool.not_eq_true']; unfold ltS; simp only [decide_eq_false_iff_not]; omega) _
  have h2 : (advS v_to l).Pairwise (fun a b => a.Channel ≠ b.Channel) := by
    have h3 : (swsF v_to 0 l).Pairwise (fun a b => a.Channel ≠ b.Channel) := (swsF_asc l 0).imp fun h => by omega
    exact (List.Perm.pairwise_iff (fun h => Ne.symm h) (advS_perm v_to l)).2 h3
  refine (h1.and h2).imp fun {a b} h => ?_
  obtain ⟨h3, h4⟩ := h
  simp only [Bool.not_eq_true'] at h3
  unfold ltS at h3 ⊢
  simp only [decide_eq_false_iff_not, decide_eq_true_eq] at h3 ⊢
  omega

theorem mem_advS {v_to : Int} {l : List SChannel} {s : SSwitch} : s ∈ advS v_to l ↔ ∃ (j : Nat) (c : SChannel), l[j]? = some c ∧ due v_to c = true ∧ (c.Next == c.Level) = false ∧ s = ⟨c.At, (j : Int), c.Next⟩ := by
  rw [(advS_perm v_to l).mem_iff]
  constructor
  · intro h; obtain ⟨j, c, h1, h2, h3, h4⟩ := mem_swsF h; exact ⟨j, c, h1, h2, h3, by simpa using h4⟩
  · rintro ⟨j, c, h1, h2, h3, rfl⟩; have := swsF_mem (i := 0) h1 h2 h3; simpa using this

theorem advS_len (v_to : Int) (l : List SChannel) : (advS v_to l).length ≤ l.length := by
  rw [(advS_perm v_to l).length_eq]; exact swsF_len v_to l 0

theorem timB_adv {t : STimer} {v_to : Int} (h : timB t = true) (h1 : ¬ v_to < t.Now) (h2 : ¬ v_to > 1099511627776) : timB ⟨v_to, t.Channels.map (advC v_to)⟩ = true := by
  have hl := timB_len h
  unfold timB at h ⊢
  simp only [Bool.and_eq_true, Bool.not_eq_true', List.all_eq_true] at h ⊢
  refine ⟨headB_of (by simp; omega), fun c hc => ?_⟩
  simp only [List.mem_map] at hc
  obtain ⟨c0, hc0, rfl⟩ := hc
  have h3 := h.2 c0 hc0
  unfold advC due
  unfold chB at h3 ⊢
  cases ha : c0.Armed
  · rw [ha] at h3; simp only [Bool.not_false, Bool.true_or, Bool.not_true, cond_false, ha] at h3 ⊢; exact h3
  · rw [ha] at h3
    simp only [Bool.not_true, Bool.false_or] at h3 ⊢
    by_cases h4 : c0.At > v_to
    · simp only [h4, decide_true, Bool.not_true, cond_false, ha, cond_true] at h3 ⊢
      simp at h3 ⊢; omega
    · simp [h4]

theorem new_eq (n : Nat) (h1 : 1 ≤ n) (h2 : n ≤ 16) : timer_New (n : Int) = some (⟨0, List.replicate n ⟨false, 0, false, false⟩⟩, 0) := by
  unfold timer_New
  have : ((decide ((n : Int) < 1)) || (decide ((n : Int) > 16))) = false := by simp; omega
  rw [this, makeM_nat _ (by omega)]
  rfl

theorem awake24 : magnetolaw24_awake = some true := by
  unfold magnetolaw24_awake
  rw [show (2 : Int) = ((2 : Nat) : Int) from rfl, new_eq 2 (by omega) (by omega)]
  simp only [Option.bind_some]
  have e1 := arm_eq ⟨0, List.replicate 2 ⟨false, 0, false, false⟩⟩ 1 10 true 1 rfl (by simp) (by decide)
  rw [e1]
  simp only [Option.bind_some]
  have e2 := arm_eq ⟨0, [⟨false, 0, false, false⟩, ⟨true, 10, true, false⟩]⟩ 0 10 true 0 rfl (by simp) (by decide)
  have r1 : (bif decide ((10 : Int) ≤ (⟨0, List.replicate 2 ⟨false, 0, false, false⟩⟩ : STimer).Now) then ((tz, 16) : STimer × Int) else bif decide ((10 : Int) > MAXT) then (tz, 2) else (⟨(⟨0, List.replicate 2 ⟨false, 0, false, false⟩⟩ : STimer).Now, (List.replicate 2 (⟨false, 0, false, false⟩ : SChannel)).set 1 ⟨true, 10, true, ((List.replicate 2 (⟨false, 0, false, false⟩ : SChannel))[1]'(by simp)).Level⟩⟩, 0)) = (⟨0, [⟨false, 0, false, false⟩, ⟨true, 10, true, false⟩]⟩, 0) := rfl
  rw [r1]
  rw [e2]
  simp only [Option.bind_some]
  have r2 : (bif decide ((10 : Int) ≤ (⟨0, [⟨false, 0, false, false⟩, ⟨true, 10, true, false⟩]⟩ : STimer).Now) then ((tz, 16) : STimer × Int) else bif decide ((10 : Int) > MAXT) then (tz, 2) else (⟨(⟨0, [⟨false, 0, false, false⟩, ⟨true, 10, true, false⟩]⟩ : STimer).Now, ([⟨false, 0, false, false⟩, ⟨true, 10, true, false⟩] : List SChannel).set 0 ⟨true, 10, true, (([⟨false, 0, false, false⟩, ⟨true, 10, true, false⟩] : List SChannel)[0]'(by simp)).Level⟩⟩, 0)) = (⟨0, [⟨true, 10, true, false⟩, ⟨true, 10, true, false⟩]⟩, 0) := rfl
  rw [r2]
  have e3 := adv_eq ⟨0, [⟨true, 10, true, false⟩, ⟨true, 10, true, false⟩]⟩ 20
  have hs : advS 20 [⟨true, 10, true, false⟩, ⟨true, 10, true, false⟩] = [⟨10, 0, true⟩, ⟨10, 1, true⟩] := List.mergeSort_of_pairwise (le := fun x y => !ltS y x) (l := [⟨10, 0, true⟩, ⟨10, 1, true⟩]) (by simp [ltS])
  rw [e3, hs]
  have e4 := arm_eq ⟨20, [⟨false, 0, false, true⟩, ⟨false, 0, false, true⟩]⟩ 1 20 false 1 rfl (by simp) (by decide)
  have r3 : (bif !timB ⟨0, [⟨true, 10, true, false⟩, ⟨true, 10, true, false⟩]⟩ then ((tz, [], 1) : STimer × List SSwitch × Int) else bif decide ((20 : Int) < (⟨0, [⟨true, 10, true, false⟩, ⟨true, 10, true, false⟩]⟩ : STimer).Now) then (tz, [], 16) else bif decide ((20 : Int) > MAXT) then (tz, [], 2) else (⟨20, ([⟨true, 10, true, false⟩, ⟨true, 10, true, false⟩] : List SChannel).map (advC 20)⟩, [⟨10, 0, true⟩, ⟨10, 1, true⟩], 0)) = (⟨20, [⟨false, 0, false, true⟩, ⟨false, 0, false, true⟩]⟩, [⟨10, 0, true⟩, ⟨10, 1, true⟩], 0) := rfl
  rw [r3]
  simp only [Option.bind_some]
  rw [e4]
  simp only [Option.bind_some]
  rw [equal_self _ (by simp)]
  rfl
end Go.Pv

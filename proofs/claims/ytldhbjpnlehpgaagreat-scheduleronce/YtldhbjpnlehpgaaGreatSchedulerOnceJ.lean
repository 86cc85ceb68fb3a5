/- This file joins: Plain Lean: what a scheduler's going on does to each channel. Plain Lean: a tooth at a constant speed: what is switched and what is left, by channels. Plain Lean: a tooth at a constant speed. Plain Lean: the teeth of a run. Plain Lean: a run at a constant speed. Plain Lean: SchedulerOnce. The plain law of SchedulerOnce. -/
import Derived.Test.YtldhbjpnlehpgaaGreatSchedulerOnceI
set_option linter.unusedSimpArgs false
set_option linter.unusedVariables false
set_option linter.unusedSimpArgs false
namespace Go.Pv.Sc
open Go Go.Pv Go.Pv.Ev
def fl (l : List SJob) : List Bool := l.map fun j => onK j.Event.Kind
def swc (out : List SSwitch) (c : Int) : List Bool := (out.filter fun w => w.Channel == c).map fun w => w.Level
theorem q475 (a b : List SJob) : fl (a ++ b) = fl a ++ fl b := List.map_append
theorem q217 (a b : List SSwitch) (c : Int) : swc (a ++ b) c = swc a c ++ swc b c := by unfold swc; rw [List.filter_append, List.map_append]
def st (j : SJob) : SEvent × Int := (j.Event, j.Left)
theorem fl_st {a b : List SJob} (h : a.map st = b.map st) : fl a = fl b := by
  have : ∀ l : List SJob, fl l = (l.map st).map fun x => onK x.1.Kind := fun l => by unfold fl; rw [List.map_map]; rfl
  rw [this, this, h]
theorem mine_st {a b : List SJob} (c : Int) (h : a.map st = b.map st) : (mine a c).map st = (mine b c).map st := by
  have : ∀ l : List SJob, (mine l c).map st = (l.map st).filter fun x => chn x.1 == c := fun l => by unfold mine; rw [List.filter_map]; rfl
  rw [this, this, h]
theorem armC_st (now : Int) (k : SClock) (c : Nat) (u : List SChannel × List SJob) : (armC now k c u).2.map st = u.2.map st := by
  unfold armC
  cases hs : split (c : Int) u.2 with
  | none => rfl
  | some t =>
    obtain ⟨a, j, b⟩ := t
    simp only
    split
    · rfl
    · cases u.1[c]? with
      | none => rfl
      | some x =>
        have := (q111 hs).1
        simp only
        rw [this]
        simp [st]
theorem armN_st (now : Int) (k : SClock) (u : List SChannel × List SJob) : ∀ m, (armN now k m u).2.map st = u.2.map st
  | 0 => rfl
  | m + 1 => by rw [armN, armC_st, armN_st now k u m]
theorem armV_st (s : SScheduler) : (armV s).Jobs.map st = s.Jobs.map st := by
  unfold armV
  split
  · rfl
  · exact armN_st _ _ _ _
theorem q488 (now : Int) (k : SClock) (c : Nat) (u : List SChannel × List SJob) : (armC now k c u).1.map (fun x => x.Level) = u.1.map (fun x => x.Level) := by
  unfold armC
  cases split (c : Int) u.2 with
  | none => rfl
  | some t =>
    simp only
    split
    · rfl
    · cases hx : u.1[c]? with
      | none => rfl
      | some x =>
        simp only
        rw [List.map_set]
        apply List.ext_getElem?
        intro i
        rw [List.getElem?_set]
        split
        · rename_i hi
          subst hi
          rw [List.getElem?_map, hx]
          obtain ⟨hl, _⟩ := List.getElem?_eq_some_iff.1 hx
          simp [hl]
        · rfl
theorem q403 (t : Int) : ∀ (l : List SChannel) (i : Nat) (c : Int), c < (i : Int) → ((Tm.swsF t i l).filter fun w => w.Channel == c) = []
  | [], _, _, _ => rfl
  | x :: l, i, c, h => by
    simp only [Tm.swsF, List.filter_append]
    rw [q403 t l (i + 1) c (by omega), List.append_nil]
    unfold Tm.swC
    cases Tm.due t x && !(x.Next == x.Level)
    · rfl
    · simp; omega
theorem sws_one (t : Int) : ∀ (l : List SChannel) (i c : Nat) (h : c < l.length), ((Tm.swsF t i l).filter fun w => w.Channel == ((i + c : Nat) : Int)) = Tm.swC t (i + c) l[c]
  | x :: l, i, 0, _ => by
    simp only [Tm.swsF, List.filter_append, List.getElem_cons_zero, Nat.add_zero]
    rw [q403 t l (i + 1) (i : Int) (by omega), List.append_nil]
    unfold Tm.swC
    cases Tm.due t x && !(x.Next == x.Level)
    · rfl
    · simp
  | x :: l, i, c + 1, h => by
    simp only [Tm.swsF, List.filter_append, List.getElem_cons_succ]
    have := sws_one t l (i + 1) c (by simpa using h)
    rw [show i + 1 + c = i + (c + 1) by omega] at this
    rw [this]
    have e : ((Tm.swC t i x).filter fun w => w.Channel == ((i + (c + 1) : Nat) : Int)) = [] := by
      unfold Tm.swC
      cases Tm.due t x && !(x.Next == x.Level)
      · rfl
      · simp; omega
    rw [e]; rfl
theorem q435 {α : Type} {a b : List α} (h : a.Perm b) (hb : b.length ≤ 1) : a = b := by
  match b, hb with
  | [], _ => exact h.eq_nil
  | [x], _ => exact List.perm_singleton.1 h
theorem adv_one (t : Int) (l : List SChannel) (c : Nat) (h : c < l.length) : ((Tm.advS t l).filter fun w => w.Channel == (c : Int)) = Tm.swC t c l[c] := by
  have h1 := (Tm.q205 t l).filter fun w => w.Channel == (c : Int)
  have h2 := sws_one t l 0 c h
  rw [Nat.zero_add] at h2
  rw [h2] at h1
  exact q435 h1 (Tm.swC_len t c l[c])
theorem q417 {q : List SJob} {x : SChannel} {t : Int} (c : Nat) (h : rowB q x = true) (hmin : x.Armed = true → t ≤ x.At) :
    (Tm.swC t c x).map (fun w => w.Level) ++ fl (q.filter fun j => !dueJ t j) = fl q ∧ (∀ w ∈ Tm.swC t c x, w.At = t ∧ w.Channel = (c : Int)) ∧
      (x.Armed = true → x.At = t → ∃ j r, q = j :: r ∧ (q.filter fun j => !dueJ t j) = r ∧ Tm.swC t c x = [⟨t, (c : Int), onK j.Event.Kind⟩]) ∧ (¬ (x.Armed = true ∧ x.At = t) → (q.filter fun j => !dueJ t j) = q ∧ Tm.swC t c x = []) := by
  cases q with
  | nil =>
    simp only [rowB, Bool.and_eq_true, Bool.not_eq_true'] at h
    have hs : Tm.swC t c x = [] := by unfold Tm.swC Tm.due; rw [h.2]; rfl
    rw [hs]
    exact ⟨rfl, by simp, fun h2 => absurd (h.2.symm.trans h2) (by decide), fun _ => ⟨rfl, rfl⟩⟩
  | cons j r =>
    simp only [rowB, Bool.and_eq_true, Bool.not_eq_true', Bool.or_eq_true, beq_iff_eq] at h
    obtain ⟨⟨⟨h1, h2⟩, h3⟩, h4⟩ := h
    have hr := q280 t (q270 h4)
    have hon : onK j.Event.Kind = !x.Level := by cases ho : onK j.Event.Kind <;> cases hl : x.Level <;> simp_all
    by_cases ha : x.Armed = true ∧ x.At = t
    · have hj : j.Armed = true := by rw [h2]; exact ha.1
      have h3' : j.At = x.At ∧ x.Next = !x.Level := by
        rcases h3 with h3 | h3
        · rw [hj] at h3; cases h3
        · exact h3
      have hd : dueJ t j = true := by unfold dueJ; rw [hj, h3'.1, ha.2]; simp
      have hdx : Tm.due t x = true := by unfold Tm.due; rw [ha.1, ha.2]; simp
      have hs : Tm.swC t c x = [⟨t, (c : Int), onK j.Event.Kind⟩] := by
        unfold Tm.swC
        have : (x.Next == x.Level) = false := by rw [h3'.2]; cases x.Level <;> rfl
        rw [hdx, this, ha.2, h3'.2, hon]
        rfl
      have hq : ((j :: r).filter fun j => !dueJ t j) = r := by rw [List.filter_cons, hd]; simpa using hr
      rw [hs, hq]
      refine ⟨rfl, fun w hw => ?_, fun _ _ => ⟨j, r, rfl, rfl, rfl⟩, fun h => absurd ha h⟩
      simp only [List.mem_cons, List.not_mem_nil, or_false] at hw
      subst hw; exact ⟨rfl, rfl⟩
    · have hdx : Tm.due t x = false := by
        unfold Tm.due
        cases hxa : x.Armed
        · rfl
        · have := hmin hxa
          have : ¬ x.At = t := fun e => ha ⟨hxa, e⟩
          simp; omega
      have hd : dueJ t j = false := by
        unfold dueJ
        cases hja : j.Armed
        · rfl
        · have hxa : x.Armed = true := by rw [← h2]; exact hja
          have h3' : j.At = x.At ∧ x.Next = !x.Level := by
            rcases h3 with h3 | h3
            · rw [hja] at h3; cases h3
            · exact h3
          have : ¬ x.At = t := fun e => ha ⟨hxa, e⟩
          rw [h3'.1]; simpa using this
      have hs : Tm.swC t c x = [] := by unfold Tm.swC; rw [hdx]; rfl
      have hq : ((j :: r).filter fun j => !dueJ t j) = j :: r := by
        rw [List.filter_cons, hd]
        simp only [Bool.not_false, if_true]
        rw [hr]
      rw [hs, hq]
      exact ⟨rfl, by simp, fun a b => absurd ⟨a, b⟩ ha, fun _ => ⟨rfl, rfl⟩⟩
theorem q472 (t : Int) (s : SScheduler) (c : Int) : (mine (stepG t s).Jobs c).map st = ((mine s.Jobs c).filter fun j => !dueJ t j).map st := by
  unfold stepG
  rw [mine_st c (armV_st _)]
  show (mine (s.Jobs.filter fun j => !dueJ t j) c).map st = _
  rw [q272]
theorem q440 {n : Nat} {s : SScheduler} (h : Live n s) (hn : (Tm.nxV s.Timer.Channels).2 = true) (c : Nat) (hc : c < s.Timer.Channels.length) :
    swc (Tm.advS (Tm.nxV s.Timer.Channels).1 s.Timer.Channels) (c : Int) ++ fl (mine (stepG (Tm.nxV s.Timer.Channels).1 s).Jobs (c : Int)) = fl (mine s.Jobs (c : Int)) := by
  obtain ⟨_, _, h3⟩ := nx_now h hn
  have hrow := h.rows.row c hc
  simp only at hrow
  have := (q417 c hrow (h3 _ (List.getElem_mem hc))).1
  rw [fl_st (q472 _ s (c : Int))]
  unfold swc
  rw [adv_one _ _ c hc]
  exact this
structure Sw (m : Nat) (lo hi : Int) (out : List SSwitch) : Prop where
  asc : out.Pairwise fun a b => a.At ≤ b.At
  ran : ∀ w ∈ out, lo < w.At ∧ w.At ≤ hi
  ch : ∀ w ∈ out, 0 ≤ w.Channel ∧ w.Channel < (m : Int)
theorem Sw.nil (m : Nat) (lo hi : Int) : Sw m lo hi [] := ⟨.nil, by simp, by simp⟩
theorem Sw.append {m : Nat} {a b c : Int} {x y : List SSwitch} (h : Sw m a b x) (k : Sw m b c y) (hab : a ≤ b) (hbc : b ≤ c) : Sw m a c (x ++ y) := by
  refine ⟨List.pairwise_append.2 ⟨h.asc, k.asc, fun v hv w hw => ?_⟩, fun w hw => ?_, fun w hw => ?_⟩
  · have := h.ran v hv; have := k.ran w hw; omega
  · rcases List.mem_append.1 hw with hw | hw
    · have := h.ran w hw; omega
    · have := k.ran w hw; omega
  · rcases List.mem_append.1 hw with hw | hw
    · exact h.ch w hw
    · exact k.ch w hw
theorem Sw.wide {m : Nat} {a b c : Int} {x : List SSwitch} (h : Sw m a b x) (hbc : b ≤ c) : Sw m a c x := ⟨h.asc, fun w hw => by have := h.ran w hw; omega, h.ch⟩
theorem step_sw {n : Nat} {s : SScheduler} (h : Live n s) (hn : (Tm.nxV s.Timer.Channels).2 = true) : Sw s.Timer.Channels.length s.Timer.Now (Tm.nxV s.Timer.Channels).1 (Tm.advS (Tm.nxV s.Timer.Channels).1 s.Timer.Channels) := by
  obtain ⟨h1, _, h3⟩ := nx_now h hn
  have hat : ∀ w ∈ Tm.advS (Tm.nxV s.Timer.Channels).1 s.Timer.Channels, w.At = (Tm.nxV s.Timer.Channels).1 ∧ 0 ≤ w.Channel ∧ w.Channel < (s.Timer.Channels.length : Int) := by
    intro w hw
    obtain ⟨j, c, e1, e2, _, e4⟩ := Tm.q409.1 hw
    obtain ⟨hj, rfl⟩ := List.getElem?_eq_some_iff.1 e1
    have hd := e2
    unfold Tm.due at hd
    simp only [Bool.not_eq_true', Bool.or_eq_false_iff, Bool.not_eq_false', decide_eq_false_iff_not] at hd
    have := h3 _ (List.getElem_mem hj) hd.1
    rw [e4]
    simp only
    exact ⟨by omega, by omega, by omega⟩
  refine ⟨?_, fun w hw => by have := hat w hw; omega, fun w hw => (hat w hw).2⟩
  rw [List.pairwise_iff_forall_sublist]
  intro a b hab
  have ha := hat a (hab.subset (by simp))
  have hb := hat b (hab.subset (by simp))
  omega
theorem q328 (to : Int) {n : Nat} : ∀ (f : Nat) (s : SScheduler), Live n s → s.Timer.Now ≤ to →
    ∃ out, (∀ o, (goV to f (o, s)).1 = o ++ out) ∧ (∀ o, (goV to f (o, s)).2 = (goV to f ([], s)).2) ∧ Sw (2 * n) s.Timer.Now (goV to f ([], s)).2.Timer.Now out ∧ s.Timer.Now ≤ (goV to f ([], s)).2.Timer.Now ∧
      ∀ c : Nat, c < 2 * n → swc out (c : Int) ++ fl (mine (goV to f ([], s)).2.Jobs (c : Int)) = fl (mine s.Jobs (c : Int))
  | 0, s, h, ht => ⟨[], fun o => by simp [goV], fun o => rfl, Sw.nil _ _ _, Int.le_refl _, fun c _ => rfl⟩
  | f + 1, s, h, ht => by
    by_cases hy : (Tm.nxV s.Timer.Channels).2 = true ∧ (Tm.nxV s.Timer.Channels).1 ≤ to
    · have eg : ∀ o, goV to (f + 1) (o, s) = goV to f (o ++ Tm.advS (Tm.nxV s.Timer.Channels).1 s.Timer.Channels, stepG (Tm.nxV s.Timer.Channels).1 s) := fun o => by
        show (if _ then _ else _) = _
        rw [if_pos hy]
      obtain ⟨out, i1, i2, i3, i4, i5⟩ := q328 to f _ (q318 h hy.1) (by rw [q297]; exact hy.2)
      obtain ⟨h1, _, _⟩ := nx_now h hy.1
      have hlen := h.len
      have e2 : ∀ o, (goV to (f + 1) (o, s)).2 = (goV to f ([], stepG (Tm.nxV s.Timer.Channels).1 s)).2 := fun o => by rw [eg, i2]
      rw [q297] at i3 i4
      refine ⟨Tm.advS (Tm.nxV s.Timer.Channels).1 s.Timer.Channels ++ out, fun o => by rw [eg, i1, List.append_assoc], fun o => by rw [e2, e2], ?_, ?_, fun c hc => ?_⟩
      · rw [e2]
        have := step_sw h hy.1
        rw [hlen] at this
        exact this.append i3 (by omega) i4
      · rw [e2]; omega
      · rw [e2, q217, List.append_assoc, i5 c hc]
        exact q440 h hy.1 c (by omega)
    · have eg : ∀ o, goV to (f + 1) (o, s) = (o, s) := fun o => by
        show (if _ then _ else _) = _
        rw [if_neg hy]
      refine ⟨[], fun o => by rw [eg]; simp, fun o => by rw [eg, eg], by rw [eg]; exact Sw.nil _ _ _, by rw [eg]; exact Int.le_refl _, fun c _ => by rw [eg]; rfl⟩
theorem q396 {n : Nat} {s : SScheduler} (h : Live n s) (to : Int) (h1 : s.Timer.Now ≤ to) :
    Sw (2 * n) s.Timer.Now to (goE to s).1 ∧ ∀ c : Nat, c < 2 * n → swc (goE to s).1 (c : Int) ++ fl (mine (goE to s).2.Jobs (c : Int)) = fl (mine s.Jobs (c : Int)) := by
  obtain ⟨out, i1, i2, i3, i4, i5⟩ := q328 to s.Jobs.length s h h1
  have hm := h.most
  obtain ⟨_, _, _, _, r5, _⟩ := go_run to s.Jobs.length s [] h (Nat.le_refl _) (by simp; omega) h1
  have e := i1 []
  rw [List.nil_append] at e
  unfold goE
  rw [e]
  exact ⟨i3.wide r5, i5⟩
theorem q489 {n : Nat} {s : SScheduler} (h : Live n s) (to : Int) (h1 : s.Timer.Now < to) (ha : ∀ x ∈ s.Timer.Channels, x.Armed = true → x.At = s.Timer.Now + 1) (c : Nat) (hc : c < 2 * n)
    (hne : ∀ x, s.Timer.Channels[c]? = some x → mine s.Jobs (c : Int) ≠ [] → x.Armed = true) : (mine (goE to s).2.Jobs (c : Int)).length ≤ (mine s.Jobs (c : Int)).length - 1 := by
  have hlen := h.len
  have hc2 : c < s.Timer.Channels.length := by omega
  obtain ⟨_, g2⟩ := q396 h to (by omega)
  have hfl := congrArg List.length (g2 c hc)
  rw [List.length_append] at hfl
  have fll : ∀ l : List SJob, (fl l).length = l.length := fun l => by unfold fl; rw [List.length_map]
  rw [fll, fll] at hfl
  by_cases hq : mine s.Jobs (c : Int) = []
  · rw [hq] at hfl ⊢
    simp only [List.length_nil] at hfl ⊢
    omega
  · have hx := hne _ (List.getElem?_eq_getElem hc2) hq
    have hat := ha _ (List.getElem_mem hc2) hx
    -- the next time is the next tick
    obtain ⟨n1, n2⟩ := Tm.q204 (List.getElem_mem hc2) hx
    obtain ⟨y, hy, hya, hyt⟩ := Tm.q228 n1
    have hyn := ha y hy hya
    have hnx : (Tm.nxV s.Timer.Channels).1 = s.Timer.Now + 1 := by omega
    -- the first step switches the channel
    have hrow := h.rows.row c hc2
    simp only at hrow
    obtain ⟨_, _, hmn⟩ := nx_now h n1
    obtain ⟨j, r, e1, e2, e3⟩ := (q417 c hrow (hmn _ (List.getElem_mem hc2))).2.2.1 hx (by omega)
    have hjl : 0 < s.Jobs.length := by
      have : mine s.Jobs (c : Int) ≠ [] := hq
      have hl : (mine s.Jobs (c : Int)).length ≤ s.Jobs.length := List.length_filter_le ..
      have : 0 < (mine s.Jobs (c : Int)).length := List.length_pos_iff.2 hq
      omega
    obtain ⟨f, hf⟩ : ∃ f, s.Jobs.length = f + 1 := ⟨s.Jobs.length - 1, by omega⟩
    have eg : goV to s.Jobs.length ([], s) = goV to f ([] ++ Tm.advS (Tm.nxV s.Timer.Channels).1 s.Timer.Channels, stepG (Tm.nxV s.Timer.Channels).1 s) := by
      rw [hf]
      show (if _ then _ else _) = _
      rw [if_pos (show (Tm.nxV s.Timer.Channels).2 = true ∧ (Tm.nxV s.Timer.Channels).1 ≤ to from ⟨n1, by omega⟩)]
    obtain ⟨out, i1, _⟩ := q328 to f _ (q318 h n1) (by rw [q297]; omega)
    have hsw : 1 ≤ (swc (goE to s).1 (c : Int)).length := by
      unfold goE
      rw [eg, i1, q217, List.nil_append, List.length_append]
      have : swc (Tm.advS (Tm.nxV s.Timer.Channels).1 s.Timer.Channels) (c : Int) = [onK j.Event.Kind] := by
        unfold swc
        rw [adv_one _ _ c hc2, e3]; rfl
      rw [this]
      simp only [List.length_cons, List.length_nil]
      omega
    omega
end Go.Pv.Sc
set_option linter.unusedSimpArgs false
namespace Go.Pv.Sc
open Go Go.Pv Go.Pv.Ev
def pairs : Nat → List Bool
  | 0 => []
  | n + 1 => true :: false :: pairs n
theorem q392 : ∀ a b, pairs (a + b) = pairs a ++ pairs b
  | 0, b => by rw [Nat.zero_add]; rfl
  | a + 1, b => by rw [show a + 1 + b = (a + b) + 1 by omega]; simp only [pairs, q392 a b, List.cons_append]
theorem q334 : ∀ n, (pairs n).length = 2 * n
  | 0 => rfl
  | n + 1 => by simp only [pairs, List.length_cons, q334 n]; omega
theorem q398 : ∀ (l : List SJob), alt l false = true → fl l = pairs (l.length / 2) ∧ l.length % 2 = 0
  | [], _ => ⟨rfl, rfl⟩
  | [j], h => by simp [alt] at h
  | j :: k :: r, h => by
    simp only [alt, Bool.and_eq_true, Bool.not_eq_true', Bool.not_false, Bool.not_true] at h
    obtain ⟨⟨h1, _⟩, ⟨h2, _⟩, h3⟩ := h
    obtain ⟨a, b⟩ := q398 r h3
    have e1 : onK j.Event.Kind = true := by cases ho : onK j.Event.Kind <;> simp_all
    have e2 : onK k.Event.Kind = false := by cases ho : onK k.Event.Kind <;> simp_all
    constructor
    · simp only [List.length_cons]
      rw [show (r.length + 1 + 1) / 2 = r.length / 2 + 1 by omega]
      unfold fl at a ⊢
      simp only [List.map_cons, e1, e2, pairs, a]
    · simp only [List.length_cons]; omega
def wn (e : SEngine) (next : List SFire) (t : Int) (c : Nat) : Nat := (mine ((next.filter fun f => f.Cylinder == ((c / 2 : Nat) : Int) + 1).flatMap (addF e 0 t)) (c : Int)).length / 2
theorem q260 (e : SEngine) (v t : Int) (f : SFire) (c : Int) : (mine (addF e v t f) c).length = ((winV e f (beg e f.Cylinder) t).filter fun x => chn x == c).length := by
  unfold addF
  rw [mine_sh, List.length_map]
theorem addV_fl {e : SEngine} {k : SClock} {next : List SFire} {t : Int} (he : engP e) (hw : wishB e next = true) (c : Nat) :
    fl (mine (addV e k next t (((c / 2 : Nat) : Int) + 1)) (c : Int)) = if dst k.Angle (beg e (((c / 2 : Nat) : Int) + 1)) ≥ k.Ahead then [] else pairs (wn e next t c) := by
  have ha := q418 (k := k) (t := t) (x := ((c / 2 : Nat) : Int) + 1) he hw (c : Int)
  rw [(q398 _ ha).1]
  unfold addV wn
  by_cases h : dst k.Angle (beg e (((c / 2 : Nat) : Int) + 1)) ≥ k.Ahead
  · rw [decide_eq_true h, if_pos h]
    simp only [cond_true]
    rw [show mine ([] : List SJob) (c : Int) = [] from rfl]
    rfl
  · rw [decide_eq_false h, if_neg h]
    simp only [cond_false]
    rcases q233 (((c / 2 : Nat) : Int) + 1) (q242 hw) with ⟨_, b⟩ | ⟨_, f, _, _, _, _, b⟩
    · rw [b]; rfl
    · rw [b]
      simp only [List.flatMap_cons, List.flatMap_nil, List.append_nil]
      rw [q260, q260]
theorem q476 {e : SEngine} {k : SClock} {next : List SFire} {t x : Int} (he : engP e) (hw : wishB e next = true) : ∀ j ∈ addV e k next t x, j.Event.Cylinder = x := by
  intro j hj
  unfold addV at hj
  cases hv : decide (dst k.Angle (beg e x) ≥ k.Ahead) <;> rw [hv] at hj
  · simp only [cond_false, List.mem_flatMap] at hj
    obtain ⟨f, hf, hj⟩ := hj
    obtain ⟨hf1, hf2⟩ := List.mem_filter.1 hf
    unfold addF at hj
    obtain ⟨y, hy, rfl⟩ := List.mem_map.1 hj
    have := (q254 he (q178 hw f hf1)).2 y hy
    show y.Cylinder = x
    rw [this.2]; exact beq_iff_eq.1 hf2
  · simp at hj
theorem q425 {g : Int → List SJob} {c : Int} {x0 : Int} : ∀ {l : List Int}, l.Nodup → x0 ∈ l → (∀ y ∈ l, y ≠ x0 → mine (g y) c = []) → mine (l.flatMap g) c = mine (g x0) c
  | [], _, h, _ => by simp at h
  | y :: l, hd, hm, h => by
    rw [List.flatMap_cons, q50]
    rw [List.nodup_cons] at hd
    have none : ∀ l : List Int, (∀ y ∈ l, mine (g y) c = []) → mine (l.flatMap g) c = [] := by
      intro l
      induction l with
      | nil => intro _; rfl
      | cons z l ih =>
        intro hz
        rw [List.flatMap_cons, q50, hz z (List.mem_cons_self ..), ih fun y hy => hz y (List.mem_cons_of_mem _ hy)]; rfl
    rcases List.mem_cons.1 hm with rfl | hm
    · rw [none l fun y hy => h y (List.mem_cons_of_mem _ hy) fun e => hd.1 (by rw [← e]; exact hy), List.append_nil]
    · have hy : y ≠ x0 := fun e => hd.1 (by rw [e]; exact hm)
      rw [h y (List.mem_cons_self ..) hy, List.nil_append]
      exact q425 hd.2 hm fun z hz => h z (List.mem_cons_of_mem _ hz)
theorem q320 : ∀ (n : Nat) (l : List Int), l.Nodup → (∀ x ∈ l, 1 ≤ x ∧ x ≤ (n : Int)) → l.length ≤ n
  | 0, l, _, h => by
    cases l with
    | nil => simp
    | cons x l => have := h x (List.mem_cons_self ..); omega
  | n + 1, l, hd, h => by
    by_cases hm : ((n : Int) + 1) ∈ l
    · have := q320 n (l.erase ((n : Int) + 1)) (hd.erase _) (fun x hx => by
        have h1 := (hd.mem_erase_iff).1 hx
        have h2 := h x h1.2
        have h3 := h1.1
        omega)
      rw [List.length_erase_of_mem hm] at this
      omega
    · have := q320 n l hd (fun x hx => by
        have h2 := h x hx
        have h3 : x ≠ (n : Int) + 1 := fun e => hm (by rw [← e]; exact hx)
        omega)
      omega
theorem all_in {e : SEngine} (h : engP e) {k : Nat} (hk : k < e.Order.length) : ((k : Int) + 1) ∈ e.Order := by
  obtain ⟨_, _, _, _, h5, h6⟩ := h
  by_cases hm : ((k : Int) + 1) ∈ e.Order
  · exact hm
  · have := q320 e.Order.length (((k : Int) + 1) :: e.Order) (List.nodup_cons.2 ⟨hm, h6⟩) (fun x hx => by
      rcases List.mem_cons.1 hx with rfl | hx
      · omega
      · exact h5 x hx)
    rw [List.length_cons] at this
    omega
theorem q511 {e : SEngine} {k : SClock} {next : List SFire} {t : Int} (he : engP e) (hw : wishB e next = true) (c : Nat) (hc : c < 2 * e.Order.length) :
    mine (e.Order.flatMap (addV e k next t)) (c : Int) = mine (addV e k next t (((c / 2 : Nat) : Int) + 1)) (c : Int) := by
  refine q425 he.2.2.2.2.2 (all_in he (k := c / 2) (by omega)) fun y hy hne => q214 fun j hj => ?_
  have := q476 he hw j hj
  unfold chn
  rw [this]
  split <;> omega
def sumN : Nat → (Nat → Nat) → Nat
  | 0, _ => 0
  | m + 1, f => sumN m f + f m
theorem sum_le (f : Nat → Nat) (b : Nat) : ∀ m, (∀ c, c < m → f c ≤ b) → sumN m f ≤ m * b
  | 0, _ => by simp [sumN]
  | m + 1, h => by
    have := sum_le f b m fun c hc => h c (by omega)
    have := h m (by omega)
    simp only [sumN, Nat.succ_mul]; omega
theorem sum_add (f g : Nat → Nat) : ∀ m, sumN m (fun c => f c + g c) = sumN m f + sumN m g
  | 0 => rfl
  | m + 1 => by simp only [sumN, sum_add f g m]; omega
theorem sum_one (i : Nat) : ∀ m, sumN m (fun c => if i = c then 1 else 0) = if i < m then 1 else 0
  | 0 => by simp [sumN]
  | m + 1 => by
    simp only [sumN, sum_one i m]
    by_cases h : i < m
    · rw [if_pos h, if_neg (by omega), if_pos (by omega)]
    · by_cases h2 : i = m
      · rw [if_neg h, if_pos h2, if_pos (by omega)]
      · rw [if_neg h, if_neg h2, if_neg (by omega)]
theorem q384 {f g : Nat → Nat} : ∀ {m}, (∀ c, c < m → f c = g c) → sumN m f = sumN m g
  | 0, _ => rfl
  | m + 1, h => by
    have h1 := q384 (m := m) fun c hc => h c (by omega)
    have h2 := h m (by omega)
    simp only [sumN]; omega
theorem len_sum (m : Nat) : ∀ l : List SJob, (∀ j ∈ l, 0 ≤ chn j.Event ∧ chn j.Event < (m : Int)) → l.length = sumN m fun c => (mine l (c : Int)).length
  | [], _ => by
    have : ∀ m, sumN m (fun c => (mine [] (c : Int)).length) = 0 := fun m => by induction m with | zero => rfl | succ m ih => simp only [sumN, ih]; rfl
    rw [this]; rfl
  | j :: l, h => by
    have hj := h j (List.mem_cons_self ..)
    have ih := len_sum m l fun k hk => h k (List.mem_cons_of_mem _ hk)
    have e : sumN m (fun c => (mine (j :: l) (c : Int)).length) = sumN m (fun c => (if (chn j.Event).toNat = c then 1 else 0) + (mine l (c : Int)).length) := q384 fun c _ => by
      by_cases hc : (chn j.Event).toNat = c
      · rw [if_pos hc, q193 (by omega), List.length_cons]; omega
      · rw [if_neg hc, q157 (by omega)]; omega
    rw [e, sum_add, sum_one, if_pos (by omega), List.length_cons, ih]; omega
theorem q465 {now : Int} {k : SClock} {c d : Nat} (u : List SChannel × List SJob) (hcd : c ≠ d) : mine (armC now k c u).2 (d : Int) = mine u.2 (d : Int) := by
  unfold armC
  cases hs : split (c : Int) u.2 with
  | none => rfl
  | some t =>
    obtain ⟨a, j, b⟩ := t
    simp only
    split
    · rfl
    · cases u.1[c]? with
      | none => rfl
      | some x =>
        obtain ⟨e1, e2, _⟩ := q111 hs
        simp only
        rw [e1, q50, q50, q157 (by show chn j.Event ≠ _; rw [e2]; omega), q157 (by rw [e2]; omega)]
theorem q485 {now : Int} {k : SClock} {c : Nat} (u : List SChannel × List SJob) (hc : c < u.1.length) : mine (armC now k c u).2 (c : Int) = match mine u.2 (c : Int) with
    | [] => []
    | j :: r => if j.Left > k.Ahead ∨ armAt now k j > 1099511627776 then j :: r else ⟨j.Event, j.Left, true, armAt now k j⟩ :: r := by
  unfold armC
  cases hs : split (c : Int) u.2 with
  | none => simp only [q454 hs]
  | some t =>
    obtain ⟨a, j, b⟩ := t
    obtain ⟨e1, e2, e3⟩ := q111 hs
    rw [q293 hs]
    simp only
    split
    · rw [q293 hs]
    · rw [List.getElem?_eq_getElem hc]
      simp only
      rw [q50, q214 e3, List.nil_append, q193 (by exact e2)]
theorem q519 (now : Int) (k : SClock) (c : Nat) (u : List SChannel × List SJob) : (armC now k c u).1.length = u.1.length := by
  have := congrArg List.length (q488 now k c u)
  simpa using this
theorem q427 (now : Int) (k : SClock) (u : List SChannel × List SJob) : ∀ m, (armN now k m u).1.length = u.1.length
  | 0 => rfl
  | m + 1 => by rw [armN, q519, q427 now k u m]
theorem q333 {now : Int} {k : SClock} (u : List SChannel × List SJob) (c : Nat) (hc : c < u.1.length) : ∀ m, mine (armN now k m u).2 (c : Int) = if c < m then (match mine u.2 (c : Int) with
    | [] => []
    | j :: r => if j.Left > k.Ahead ∨ armAt now k j > 1099511627776 then j :: r else ⟨j.Event, j.Left, true, armAt now k j⟩ :: r) else mine u.2 (c : Int)
  | 0 => by rw [if_neg (by omega)]; rfl
  | m + 1 => by
    rw [armN]
    by_cases h : m = c
    · subst h
      rw [q485 _ (by rw [q427]; exact hc), q333 u m hc m, if_neg (by omega), if_pos (by omega)]
    · rw [q465 _ h, q333 u c hc m]
      by_cases h2 : c < m
      · rw [if_pos h2, if_pos (by omega)]
      · rw [if_neg h2, if_neg (by omega)]
theorem q451 {s : SScheduler} (hcut : s.Cut = false) (c : Nat) (hc : c < s.Timer.Channels.length) : mine (armV s).Jobs (c : Int) = match mine s.Jobs (c : Int) with
    | [] => []
    | j :: r => if j.Left > s.Clock.Ahead ∨ armAt s.Timer.Now s.Clock j > 1099511627776 then j :: r else ⟨j.Event, j.Left, true, armAt s.Timer.Now s.Clock j⟩ :: r := by
  unfold armV
  rw [hcut]
  simp only [Bool.false_eq_true, if_false]
  show mine (armN _ _ _ _).2 (c : Int) = _
  rw [q333 _ c hc, if_pos hc]
end Go.Pv.Sc
set_option linter.unusedSimpArgs false
namespace Go.Pv.Sc
open Go Go.Pv Go.Pv.Ev
def ck (a p sp : Int) (K g : Nat) : SClock := ⟨true, a + (K : Int) * p, ((K : Int) * sp) % 46080, p, sp, (g : Int) * sp⟩
structure Par (a p sp : Int) : Prop where
  a0 : 0 ≤ a
  a1 : a ≤ 1073741824
  p0 : 20 ≤ p
  p1 : p ≤ 40000
  s0 : 192 ≤ sp
  s1 : sp ≤ 1920
def tk (p sp : Int) : Int := upV (23040 * p) sp
theorem q151 {a b A B : Int} (a0 : 0 ≤ a) (a1 : a ≤ A) (b0 : 0 ≤ b) (b1 : b ≤ B) : 0 ≤ a * b ∧ a * b ≤ A * B := ⟨Int.mul_nonneg a0 b0, Int.mul_le_mul a1 b1 b0 (by omega)⟩
theorem ck_ok {a p sp : Int} (h : Par a p sp) {K g : Nat} (hK : K ≤ 1500) (hg : 1 ≤ g ∧ g ≤ 3) : clkB (ck a p sp K g) = true := by
  have h1 := h.a0; have h2 := h.a1; have h3 := h.p0; have h4 := h.p1; have h5 := h.s0; have h6 := h.s1
  have hm := q151 (A := 1500) (B := 40000) (show 0 ≤ (K : Int) by omega) (by omega) (show 0 ≤ p by omega) h4
  unfold clkB ck
  simp only [Bool.not_true, cond_false, Bool.and_eq_true, Bool.or_eq_true, decide_eq_true_eq, beq_iff_eq]
  refine ⟨⟨⟨⟨⟨by omega, by omega⟩, by omega, by omega⟩, by omega, by omega⟩, by omega, by omega⟩, ?_⟩
  rcases (show g = 1 ∨ g = 2 ∨ g = 3 by omega) with rfl | rfl | rfl <;> omega
theorem q315 {a p sp : Int} (h : Par a p sp) {g : Nat} (hg : 1 ≤ g ∧ g ≤ 3) : 192 ≤ (g : Int) * sp ∧ (g : Int) * sp ≤ 5760 := by
  have h5 := h.s0; have h6 := h.s1
  rcases (show g = 1 ∨ g = 2 ∨ g = 3 by omega) with rfl | rfl | rfl <;> omega
theorem q497 (K0 g : Nat) (sp : Int) (h0 : 0 ≤ (g : Int) * sp) (h1 : (g : Int) * sp < 46080) : dst (((K0 : Int) * sp) % 46080) ((((K0 + g : Nat) : Int) * sp) % 46080) = (g : Int) * sp := by
  have e : ((K0 + g : Nat) : Int) * sp = (K0 : Int) * sp + (g : Int) * sp := by push_cast; rw [Int.add_mul]
  unfold dst
  rw [e]
  omega
def nw (b U L : Int) : Int := (min U L - b + 46079) / 46080
theorem nw_step {b U G L : Int} (b0 : 0 ≤ b ∧ b < 46080) (u0 : 0 ≤ U) (g0 : 0 < G ∧ G < 46080) (h : U + G ≤ L) : nw b (U + G) L = nw b U L + if dst (U % 46080) b ≥ G then 0 else 1 := by
  unfold nw dst
  split <;> omega
theorem nw_idle {b U G L : Int} (g0 : 0 ≤ G) (h : L ≤ U) : nw b (U + G) L = nw b U L := by unfold nw; omega
theorem q352 {b U L : Int} (b0 : 0 ≤ b ∧ b < 46080) (u0 : 0 ≤ U) (l0 : 0 ≤ L ∧ L ≤ 138240) : 0 ≤ nw b U L ∧ nw b U L ≤ 3 := by unfold nw; omega
theorem nw_zero {b L : Int} (b0 : 0 ≤ b ∧ b < 46080) (l0 : 0 ≤ L) : nw b 0 L = 0 := by unfold nw; omega
theorem q237 (e : SEngine) (c : Int) : 0 ≤ beg e c ∧ beg e c < 46080 := by unfold beg; omega
theorem goV_mem (to : Int) : ∀ (f : Nat) (s : SScheduler) (o : List SSwitch), ∀ j ∈ (goV to f (o, s)).2.Jobs, ∃ k ∈ s.Jobs, st j = st k
  | 0, s, o, j, hj => ⟨j, hj, rfl⟩
  | f + 1, s, o, j, hj => by
    by_cases hy : (Tm.nxV s.Timer.Channels).2 = true ∧ (Tm.nxV s.Timer.Channels).1 ≤ to
    · have eg : goV to (f + 1) (o, s) = goV to f (o ++ Tm.advS (Tm.nxV s.Timer.Channels).1 s.Timer.Channels, stepG (Tm.nxV s.Timer.Channels).1 s) := by
        show (if _ then _ else _) = _
        rw [if_pos hy]
      rw [eg] at hj
      obtain ⟨k, hk, e⟩ := goV_mem to f _ _ j hj
      unfold stepG at hk
      have hm : st k ∈ (armV (put s (Tm.nxV s.Timer.Channels).1 (advU (Tm.nxV s.Timer.Channels).1 (s.Timer.Channels, s.Jobs)))).Jobs.map st := List.mem_map_of_mem hk
      rw [armV_st] at hm
      obtain ⟨k2, hk2, e2⟩ := List.mem_map.1 hm
      exact ⟨k2, (List.mem_filter.1 hk2).1, by rw [e, e2]⟩
    · have eg : goV to (f + 1) (o, s) = (o, s) := by
        show (if _ then _ else _) = _
        rw [if_neg hy]
      rw [eg] at hj
      exact ⟨j, hj, rfl⟩
theorem goE_mem (to : Int) (s : SScheduler) : ∀ j ∈ (goE to s).2.Jobs, ∃ k ∈ s.Jobs, st j = st k := goV_mem to s.Jobs.length s []
theorem q514 (d : Int) (l : List SJob) : fl (l.map (shiftJ d)) = fl l := by unfold fl; rw [List.map_map]; rfl
theorem left_fl (s : SScheduler) (c : SClock) (l : List SJob) (ch : Int) : fl (mine (leftJ s c l) ch) = fl (mine l ch) := by
  unfold leftJ
  cases s.Clock.Valid
  · rfl
  · simp only [cond_true]
    rw [q300, q514]
theorem fl_len (l : List SJob) : (fl l).length = l.length := by unfold fl; rw [List.length_map]
structure RI (e : SEngine) (next : List SFire) (a p sp L : Int) (K : Nat) (s : SScheduler) (out : List SSwitch) : Prop where
  ok : SchOk s
  eng : s.Engine = e
  cut : s.Cut = false
  clk : (K = 0 ∧ s.Clock.Valid = false ∧ s.Timer.Now = 0 ∧ s.Jobs = []) ∨ ∃ K0 g : Nat, K = K0 + g ∧ 1 ≤ g ∧ g ≤ 3 ∧ s.Clock = ck a p sp K0 g ∧ s.Timer.Now = a + (K0 : Int) * p ∧ (∀ j ∈ s.Jobs, j.Left + (K0 : Int) * sp < L + 46080) ∧
    ∀ (c : Nat) (j : SJob) (r : List SJob), c < 2 * e.Order.length → mine s.Jobs (c : Int) = j :: r → j.Left ≤ 0 → j.Armed = true ∧ j.At = s.Timer.Now + 1
  acc : ∀ c : Nat, c < 2 * e.Order.length → swc out (c : Int) ++ fl (mine s.Jobs (c : Int)) = pairs (wn e next (tk p sp) c * (nw (beg e (((c / 2 : Nat) : Int) + 1)) ((K : Int) * sp) L).toNat)
  sw : Sw (2 * e.Order.length) (-1) s.Timer.Now out
theorem upV_neg {x b : Int} (hx : x ≤ 0) (hb : 0 < b) : upV x b ≤ 0 := by
  unfold upV
  have : 0 ≤ (-x) / b := Int.ediv_nonneg (by omega) (by omega)
  omega
def Wishing (next : List SFire) (sp L : Int) (K g : Nat) (s : SScheduler) : Prop := (s.Next = next ∧ (K : Int) * sp + (g : Int) * sp ≤ L) ∨ (s.Next = [] ∧ L ≤ (K : Int) * sp)
theorem q499 {e : SEngine} {next : List SFire} {a p sp L : Int} {K g : Nat} {s : SScheduler} {out : List SSwitch} (P : Par a p sp) (hw : wishB e next = true) (hK : K ≤ 1500) (hKs : (K : Int) * sp ≤ 240000) (hg : 1 ≤ g ∧ g ≤ 3) (hL : 0 ≤ L ∧ L ≤ 138240)
    (hwn : ∀ c, c < 2 * e.Order.length → wn e next (tk p sp) c ≤ 2) (hN : Wishing next sp L K g s) (h : RI e next a p sp L K s out) :
    ∃ s' o, toothV s (ck a p sp K g) = (s', o, 0) ∧ RI e next a p sp L (K + g) s' (out ++ o) ∧ s'.Next = s.Next ∧ s'.Clock = ck a p sp K g ∧ o.length ≤ 16000 ∧
      (s.Next = [] → 0 < K → (∀ j ∈ s.Jobs, j.Left ≤ 0) → ∀ c : Nat, c < 2 * e.Order.length → (mine s'.Jobs (c : Int)).length ≤ (mine s.Jobs (c : Int)).length - 1) := by
  have hc := ck_ok P hK hg
  have hck : ClkOk (ck a p sp K g) := clkOk hc rfl
  have hG := q315 P hg
  have p0 := P.p0
  have a0 := P.a0
  have hm := q151 (A := 1500) (B := 40000) (show 0 ≤ (K : Int) by omega) (by omega) (show 0 ≤ p by omega) P.p1
  have hU : 0 ≤ (K : Int) * sp := Int.mul_nonneg (by omega) (by have := P.s0; omega)
  have hAt : (ck a p sp K g).At = a + (K : Int) * p := rfl
  have hlt : 0 < K → s.Timer.Now < a + (K : Int) * p := by
    intro hk0
    rcases h.clk with ⟨k0, _⟩ | ⟨K0, g0, k1, k2, _, _, k3, _⟩
    · omega
    · have e1 : (K : Int) * p = (K0 : Int) * p + (g0 : Int) * p := by rw [k1]; push_cast; rw [Int.add_mul]
      have e2 : 1 * 20 ≤ (g0 : Int) * p := Int.mul_le_mul (by omega) p0 (by omega) (by omega)
      omega
  have hle : s.Timer.Now ≤ (ck a p sp K g).At := by
    rw [hAt]
    rcases h.clk with ⟨k0, _, k1, _⟩ | ⟨K0, g0, k1, k2, _⟩
    · omega
    · have := hlt (by omega); omega
  have he : engP e := by rw [← h.eng]; exact h.ok.eng
  have hn8 := he.2.1
  have hnl : s.Engine.Order.length = e.Order.length := by rw [h.eng]
  have hlive : Live e.Order.length s := by have := Live.of h.ok; rw [hnl] at this; exact this
  have hlen := hlive.len
  obtain ⟨_, G⟩ := gone h.ok hck hle
  obtain ⟨S, F⟩ := q396 hlive (ck a p sp K g).At hle
  have hgm := goE_mem (ck a p sp K g).At s
  have hcut : (goE (ck a p sp K g).At s).2.Cut = false := by rw [G.cut]; exact h.cut
  have hnlv := q359 G h.ok hck rfl hcut
  have hor := q326 (mk (goE (ck a p sp K g).At s).2 (ck a p sp K g) (newJ s (ck a p sp K g) (goE (ck a p sp K g).At s).2))
  -- the jobs of a channel
  have hnJ : newJ s (ck a p sp K g) (goE (ck a p sp K g).At s).2 = leftJ s (ck a p sp K g) (goE (ck a p sp K g).At s).2.Jobs ++ e.Order.flatMap (addV e (ck a p sp K g) s.Next (tk p sp)) := by
    unfold newJ
    rw [G.eng, G.next, h.eng]; rfl
  have hx : ((K + g : Nat) : Int) * sp = (K : Int) * sp + (g : Int) * sp := by push_cast; rw [Int.add_mul]
  have hidle : s.Next = [] → e.Order.flatMap (addV e (ck a p sp K g) s.Next (tk p sp)) = [] := by
    intro h0
    rw [h0, List.flatMap_eq_nil_iff]
    intro x _
    unfold addV
    cases decide (dst (ck a p sp K g).Angle (beg e x) ≥ (ck a p sp K g).Ahead) <;> rfl
  have hacc : ∀ c : Nat, c < 2 * e.Order.length → swc (out ++ (goE (ck a p sp K g).At s).1) (c : Int) ++ fl (mine (newJ s (ck a p sp K g) (goE (ck a p sp K g).At s).2) (c : Int)) = pairs (wn e next (tk p sp) c * (nw (beg e (((c / 2 : Nat) : Int) + 1)) (((K + g : Nat) : Int) * sp) L).toNat) := by
    intro c hc2
    have hb := q237 e (((c / 2 : Nat) : Int) + 1)
    have hr := q352 hb hU hL
    have e1 : swc (out ++ (goE (ck a p sp K g).At s).1) (c : Int) ++ fl (mine (leftJ s (ck a p sp K g) (goE (ck a p sp K g).At s).2.Jobs) (c : Int)) = pairs (wn e next (tk p sp) c * (nw (beg e (((c / 2 : Nat) : Int) + 1)) ((K : Int) * sp) L).toNat) := by
      rw [left_fl, q217, List.append_assoc, F c hc2]
      exact h.acc c hc2
    rw [hnJ, q50, q475, ← List.append_assoc, e1, hx]
    rcases hN with ⟨q1, q2⟩ | ⟨q1, q2⟩
    · rw [q1, q511 he hw c hc2, addV_fl he hw c, nw_step hb hU (by omega) q2]
      show _ ++ (if dst (((K : Int) * sp) % 46080) (beg e (((c / 2 : Nat) : Int) + 1)) ≥ (g : Int) * sp then [] else pairs (wn e next (tk p sp) c)) = _
      by_cases hd : dst (((K : Int) * sp) % 46080) (beg e (((c / 2 : Nat) : Int) + 1)) ≥ (g : Int) * sp
      · rw [if_pos hd, if_pos hd, List.append_nil, Int.add_zero]
      · rw [if_neg hd, if_neg hd, ← q392, show (nw (beg e (((c / 2 : Nat) : Int) + 1)) ((K : Int) * sp) L + 1).toNat = (nw (beg e (((c / 2 : Nat) : Int) + 1)) ((K : Int) * sp) L).toNat + 1 by omega, Nat.mul_succ]
    · rw [hidle q1, nw_idle (by omega) q2]
      show _ ++ [] = _
      rw [List.append_nil]
  -- not too many
  have hU2 : 0 ≤ ((K + g : Nat) : Int) * sp := by rw [hx]; omega
  have h200 : (newJ s (ck a p sp K g) (goE (ck a p sp K g).At s).2).length ≤ 200 := by
    rw [hnl] at hnlv
    have hj := hnlv.rows.job
    rw [len_sum (2 * e.Order.length) _ fun j hj2 => by have := q382 (hj j hj2); omega]
    have := sum_le (fun c => (mine (newJ s (ck a p sp K g) (goE (ck a p sp K g).At s).2) (c : Int)).length) 12 (2 * e.Order.length) fun c hc2 => by
      have hl := congrArg List.length (hacc c hc2)
      rw [List.length_append, fl_len, q334] at hl
      have hr := q352 (L := L) (q237 e (((c / 2 : Nat) : Int) + 1)) hU2 hL
      have h1 := hwn c hc2
      have h2 : (nw (beg e (((c / 2 : Nat) : Int) + 1)) (((K + g : Nat) : Int) * sp) L).toNat ≤ 3 := by omega
      have h3 := Nat.mul_le_mul h1 h2
      show (mine (newJ s (ck a p sp K g) (goE (ck a p sp K g).At s).2) (c : Int)).length ≤ 12
      omega
    omega
  have htv : toothV s (ck a p sp K g) = (armV (mk (goE (ck a p sp K g).At s).2 (ck a p sp K g) (newJ s (ck a p sp K g) (goE (ck a p sp K g).At s).2)), (goE (ck a p sp K g).At s).1, 0) := by
    unfold toothV
    rw [q227.2 h.ok, hc, show (ck a p sp K g).Valid = true from rfl, decide_eq_false (show ¬ (ck a p sp K g).At < s.Timer.Now by omega)]
    simp only [Bool.not_true, Bool.or_self, cond_false]
    unfold toothG
    rw [hcut, decide_eq_false (show ¬ (((newJ s (ck a p sp K g) (goE (ck a p sp K g).At s).2).length : Int) > 200) by omega)]
    rfl
  have hok := q503 (s := s) (c := ck a p sp K g) (by rw [htv])
  rw [htv] at hok
  refine ⟨_, _, htv, ?_, hor.next.trans G.next, hor.clk, goE_len hlive _ hle, ?_⟩
  · have hmcl : (mk (goE (ck a p sp K g).At s).2 (ck a p sp K g) (newJ s (ck a p sp K g) (goE (ck a p sp K g).At s).2)).Timer.Channels.length = 2 * e.Order.length := by
      have := hnlv.len
      rw [hnl] at this; exact this
    have hnow : (armV (mk (goE (ck a p sp K g).At s).2 (ck a p sp K g) (newJ s (ck a p sp K g) (goE (ck a p sp K g).At s).2))).Timer.Now = a + (K : Int) * p := by
      have e0 : (mk (goE (ck a p sp K g).At s).2 (ck a p sp K g) (newJ s (ck a p sp K g) (goE (ck a p sp K g).At s).2)).Timer.Now = a + (K : Int) * p := G.now
      unfold armV
      split
      · exact e0
      · exact e0
    refine ⟨hok, hor.eng.trans (G.eng.trans h.eng), hor.cut.trans hcut, .inr ⟨K, g, rfl, hg.1, hg.2, hor.clk, hnow, fun j hj => ?_, fun c j r hc2 hq hlj => ?_⟩, fun c hc2 => ?_, ?_⟩
    · have hm2 : st j ∈ (armV (mk (goE (ck a p sp K g).At s).2 (ck a p sp K g) (newJ s (ck a p sp K g) (goE (ck a p sp K g).At s).2))).Jobs.map st := List.mem_map_of_mem hj
      rw [armV_st] at hm2
      obtain ⟨k, hk, ek⟩ := List.mem_map.1 hm2
      have hkl : k.Left = j.Left := congrArg Prod.snd ek
      have hk' : k ∈ newJ s (ck a p sp K g) (goE (ck a p sp K g).At s).2 := hk
      rw [← hkl]
      rw [hnJ] at hk'
      rcases List.mem_append.1 hk' with hk1 | hk1
      · rcases h.clk with ⟨k0, v0, _, j0⟩ | ⟨K0, g0, k1, k2, k3, k4, _, k6, _⟩
        · unfold leftJ at hk1
          rw [v0] at hk1
          obtain ⟨y, hy, _⟩ := hgm k hk1
          rw [j0] at hy; simp at hy
        · unfold leftJ at hk1
          have hv : s.Clock.Valid = true := by rw [k4]; rfl
          rw [hv] at hk1
          obtain ⟨y, hy, rfl⟩ := List.mem_map.1 hk1
          obtain ⟨z, hz, ez⟩ := hgm y hy
          have hyl : y.Left = z.Left := congrArg Prod.snd ez
          have hzb := k6 z hz
          have hG0 := q315 P (g := g0) ⟨k2, k3⟩
          have hd : dst s.Clock.Angle (ck a p sp K g).Angle = (g0 : Int) * sp := by
            rw [k4, k1]
            exact q497 K0 g0 sp (by omega) (by omega)
          have hKx : (K : Int) * sp = (K0 : Int) * sp + (g0 : Int) * sp := by rw [k1]; push_cast; rw [Int.add_mul]
          unfold shiftJ
          simp only
          rw [hd]
          unfold maxI
          split <;> omega
      · rcases hN with ⟨q1, q2⟩ | ⟨q1, _⟩
        · obtain ⟨x, hx1, hx2⟩ := List.mem_flatMap.1 hk1
          unfold addV at hx2
          cases hv : decide (dst (ck a p sp K g).Angle (beg e x) ≥ (ck a p sp K g).Ahead) <;> rw [hv] at hx2
          · have hv' := of_decide_eq_false hv
            simp only [cond_false, List.mem_flatMap] at hx2
            obtain ⟨f, _, hf⟩ := hx2
            unfold addF at hf
            obtain ⟨y, _, rfl⟩ := List.mem_map.1 hf
            have hy : dst (beg e f.Cylinder) y.Angle < 46080 := by unfold dst; omega
            have hah : (ck a p sp K g).Ahead = (g : Int) * sp := rfl
            unfold shJ
            simp only
            omega
          · simp at hx2
        · rw [hidle q1] at hk1; simp at hk1
    · rw [q451 (s := mk (goE (ck a p sp K g).At s).2 (ck a p sp K g) (newJ s (ck a p sp K g) (goE (ck a p sp K g).At s).2)) hcut c (by omega)] at hq
      have hq2 : (match mine (newJ s (ck a p sp K g) (goE (ck a p sp K g).At s).2) (c : Int) with
          | [] => []
          | j :: r => if j.Left > (ck a p sp K g).Ahead ∨ armAt (goE (ck a p sp K g).At s).2.Timer.Now (ck a p sp K g) j > 1099511627776 then j :: r else ⟨j.Event, j.Left, true, armAt (goE (ck a p sp K g).At s).2.Timer.Now (ck a p sp K g) j⟩ :: r) = j :: r := hq
      rw [G.now] at hq2
      have hah : (ck a p sp K g).Ahead = (g : Int) * sp := rfl
      rw [hnow]
      cases hmn : mine (newJ s (ck a p sp K g) (goE (ck a p sp K g).At s).2) (c : Int) with
      | nil => rw [hmn] at hq2; cases hq2
      | cons i q =>
        rw [hmn] at hq2
        simp only at hq2
        have harm : i.Left ≤ 0 → armAt (ck a p sp K g).At (ck a p sp K g) i = a + (K : Int) * p + 1 := by
          intro hi
          have hneg := upV_neg (x := i.Left * p) (b := sp) (Int.mul_nonpos_of_nonpos_of_nonneg hi (by omega)) (by have := P.s0; omega)
          unfold armAt maxI
          show (if a + (K : Int) * p + upV (i.Left * p) sp < a + (K : Int) * p + 1 then _ else _) = _
          split <;> omega
        split at hq2
        · rename_i hq3
          have hij : i = j := (List.cons.inj hq2).1
          subst hij
          have := harm hlj
          have a1 := P.a1
          rcases hq3 with hq3 | hq3
          · omega
          · omega
        · have hij := (List.cons.inj hq2).1
          subst hij
          exact ⟨rfl, harm hlj⟩
    · rw [fl_st (mine_st (c : Int) (armV_st _))]
      exact hacc c hc2
    · rw [hnow]
      exact h.sw.append S (by rcases h.clk with ⟨_, _, k1, _⟩ | ⟨K0, g0, _, _, _, _, k5, _⟩; omega; have := Int.mul_nonneg (show 0 ≤ (K0 : Int) by omega) (show 0 ≤ p by omega); omega) hle
  · intro hN0 hk0 hl c hc2
    rcases h.clk with ⟨k0, _⟩ | ⟨K0, g0, k1, k2, k3, k4, k5, k6, k7⟩
    · omega
    · have hrow : ∀ i (hi : i < s.Timer.Channels.length), (s.Timer.Channels[i].Armed = true → s.Timer.Channels[i].At = s.Timer.Now + 1) ∧ (mine s.Jobs (i : Int) ≠ [] → s.Timer.Channels[i].Armed = true) := by
        intro i hi
        have hr := hlive.rows.row i hi
        simp only at hr
        cases hq : mine s.Jobs (i : Int) with
        | nil =>
          rw [hq] at hr
          simp only [rowB, Bool.and_eq_true, Bool.not_eq_true'] at hr
          exact ⟨fun h2 => absurd (hr.2.symm.trans h2) (by decide), fun h2 => absurd rfl h2⟩
        | cons j r =>
          rw [hq] at hr
          have hjm : j ∈ s.Jobs := by
            have : j ∈ mine s.Jobs (i : Int) := by rw [hq]; simp
            exact (List.mem_filter.1 this).1
          obtain ⟨b1, b2⟩ := k7 i j r (by omega) hq (hl j hjm)
          simp only [rowB, Bool.and_eq_true, Bool.not_eq_true', Bool.or_eq_true, beq_iff_eq] at hr
          obtain ⟨⟨⟨_, r2⟩, r3⟩, _⟩ := hr
          have r3' : j.At = s.Timer.Channels[i].At := by
            rcases r3 with r3 | r3
            · rw [b1] at r3; cases r3
            · exact r3.1
          exact ⟨fun _ => by rw [← r3']; exact b2, fun _ => by rw [← r2]; exact b1⟩
      have hless := q489 hlive (ck a p sp K g).At (by rw [hAt]; exact hlt hk0) (fun x hx2 => by
        obtain ⟨i, hi, rfl⟩ := List.mem_iff_getElem.1 hx2
        exact (hrow i hi).1) c hc2 (fun x hx2 => by
        obtain ⟨hi, rfl⟩ := List.getElem?_eq_some_iff.1 hx2
        exact (hrow c hi).2)
      have e1 : (mine (armV (mk (goE (ck a p sp K g).At s).2 (ck a p sp K g) (newJ s (ck a p sp K g) (goE (ck a p sp K g).At s).2))).Jobs (c : Int)).length = (mine (newJ s (ck a p sp K g) (goE (ck a p sp K g).At s).2) (c : Int)).length := by
        have := congrArg List.length (mine_st (c : Int) (armV_st (mk (goE (ck a p sp K g).At s).2 (ck a p sp K g) (newJ s (ck a p sp K g) (goE (ck a p sp K g).At s).2))))
        rw [List.length_map, List.length_map] at this
        exact this
      have e2 := congrArg List.length (left_fl s (ck a p sp K g) (goE (ck a p sp K g).At s).2.Jobs (c : Int))
      rw [fl_len, fl_len] at e2
      rw [e1, hnJ, hidle hN0, List.append_nil, e2]
      exact hless
theorem RI.left {e : SEngine} {next : List SFire} {a p sp L : Int} {K K0 g : Nat} {s : SScheduler} {out : List SSwitch} (P : Par a p sp) (h : RI e next a p sp L K s out) (hc : s.Clock = ck a p sp K0 g) : ∀ j ∈ s.Jobs, j.Left + (K0 : Int) * sp < L + 46080 := by
  rcases h.clk with ⟨_, v, _⟩ | ⟨K1, g1, _, _, _, k4, _, k6, _⟩
  · rw [hc] at v; cases v
  · rw [hc] at k4
    have e1 : a + (K0 : Int) * p = a + (K1 : Int) * p := congrArg SClock.At k4
    have e2 : (K0 : Int) = (K1 : Int) := by
      have p0 := P.p0
      exact Int.eq_of_mul_eq_mul_right (a := p) (by omega) (by omega)
    rw [e2]; exact k6
theorem RI.few {e : SEngine} {next : List SFire} {a p sp L : Int} {K : Nat} {s : SScheduler} {out : List SSwitch} (P : Par a p sp) (hL : 0 ≤ L ∧ L ≤ 138240) (hwn : ∀ c, c < 2 * e.Order.length → wn e next (tk p sp) c ≤ 2) (h : RI e next a p sp L K s out) : ∀ c : Nat, c < 2 * e.Order.length → (mine s.Jobs (c : Int)).length ≤ 12 := by
  intro c hc2
  have hl := congrArg List.length (h.acc c hc2)
  rw [List.length_append, fl_len, q334] at hl
  have hr := q352 (L := L) (q237 e (((c / 2 : Nat) : Int) + 1)) (Int.mul_nonneg (show 0 ≤ (K : Int) by omega) (show 0 ≤ sp by have := P.s0; omega)) hL
  have h1 := hwn c hc2
  have h2 : (nw (beg e (((c / 2 : Nat) : Int) + 1)) ((K : Int) * sp) L).toNat ≤ 3 := by omega
  have h3 := Nat.mul_le_mul h1 h2
  omega
end Go.Pv.Sc
set_option linter.unusedSimpArgs false
namespace Go.Pv.Sc
open Go Go.Pv Go.Pv.Ev
theorem q444 {e : SEngine} {f : SFire} {t : Int} (he : engP e) (hf : fireP e f) : winV e f (beg e f.Cylinder) t = [] ∨
    (((winV e f (beg e f.Cylinder) t).filter fun x => chn x == 2 * (f.Cylinder - 1)).length = 2 ∧ ((winV e f (beg e f.Cylinder) t).filter fun x => chn x == 2 * (f.Cylinder - 1) + 1).length = 2 * (pul f).toNat) := by
  unfold winV
  cases h : (planV e [f] t).2 != 0
  · have hp := plan_ok he hf h
    have hop := (q266 (beg e f.Cylinder) (planV e [f] t).1).trans hp
    simp only [cond_false]
    cases ha : accB (beg e f.Cylinder) (ordW (beg e f.Cylinder) (planV e [f] t).1)
    · exact .inl rfl
    · right
      simp only [cond_true]
      generalize hW : ordW (beg e f.Cylinder) (planV e [f] t).1 = W at ha hop
      have hE : ∀ x ∈ W, evP x ∧ x.Cylinder = f.Cylinder := fun x hx => evs_ok (t := t) he hf x (hop.mem_iff.1 hx)
      have hk := q402 hop
      have fl := q413 hE
      rw [fl.1, fl.2]
      have l1 := hk.1.length_eq
      have l2 := hk.2.length_eq
      rw [List.length_map] at l1 l2
      refine ⟨by rw [l1]; rfl, ?_⟩
      rw [l2]
      rcases q114 f with h | h | h <;> (rw [h]; rfl)
  · exact .inl rfl
theorem wn_spec {e : SEngine} {next : List SFire} (t : Int) (he : engP e) (hw : wishB e next = true) (x : Nat) :
    (next.findIdx? (fun f => f.Cylinder == (x : Int) + 1) = none ∧ wn e next t (2 * x) = 0 ∧ wn e next t (2 * x + 1) = 0) ∨
    ∃ k f, next.findIdx? (fun f => f.Cylinder == (x : Int) + 1) = some k ∧ next[k]? = some f ∧ ((wn e next t (2 * x) = 0 ∧ wn e next t (2 * x + 1) = 0) ∨ (wn e next t (2 * x) = 1 ∧ wn e next t (2 * x + 1) = (pul f).toNat)) := by
  have d0 : 2 * x / 2 = x := by omega
  have d1 : (2 * x + 1) / 2 = x := by omega
  unfold wn
  rw [d0, d1]
  rcases q233 ((x : Int) + 1) (q242 hw) with ⟨a, b⟩ | ⟨k, f, a, _, c, d, b⟩
  · rw [b]
    exact .inl ⟨a, by simp [mine], by simp [mine]⟩
  · right
    rw [b]
    simp only [List.flatMap_cons, List.flatMap_nil, List.append_nil]
    rw [q260, q260]
    have hf := q178 hw f (List.mem_of_getElem? c)
    refine ⟨k, f, a, c, ?_⟩
    have e0 : ((2 * x : Nat) : Int) = 2 * (f.Cylinder - 1) := by rw [d]; omega
    have e1 : ((2 * x + 1 : Nat) : Int) = 2 * (f.Cylinder - 1) + 1 := by rw [d]; omega
    rw [e0, e1]
    rcases q444 (t := t) he hf with h | ⟨h1, h2⟩
    · rw [h]; exact .inl ⟨by simp, by simp⟩
    · rw [h1, h2]; exact .inr ⟨rfl, by omega⟩
theorem pul_le (f : SFire) : (pul f).toNat ≤ 2 := by rcases q114 f with h | h | h <;> (rw [h]; decide)
theorem wn_le {e : SEngine} {next : List SFire} (t : Int) (he : engP e) (hw : wishB e next = true) (c : Nat) : wn e next t c ≤ 2 := by
  have h := wn_spec t he hw (c / 2)
  rcases (show c = 2 * (c / 2) ∨ c = 2 * (c / 2) + 1 by omega) with hc | hc
  · rw [hc]
    rw [← hc] at h ⊢
    rcases h with ⟨_, h, _⟩ | ⟨k, f, _, _, h | h⟩
    · omega
    · omega
    · omega
  · rw [hc]
    rcases h with ⟨_, _, h⟩ | ⟨k, f, _, _, h | h⟩
    · omega
    · omega
    · have := pul_le f; omega
def clk (a p sp : Int) : Nat → List Nat → List SClock
  | _, [] => []
  | K, g :: gs => ck a p sp K g :: clk a p sp (K + g) gs
theorem q373 (a p sp : Int) : ∀ (x y : List Nat) (K : Nat), clk a p sp K (x ++ y) = clk a p sp K x ++ clk a p sp (K + x.sum) y
  | [], y, K => by simp [clk]
  | g :: x, y, K => by
    simp only [List.cons_append, clk, q373 a p sp x y (K + g), List.sum_cons]
    rw [Nat.add_assoc]
theorem q414 (a p sp : Int) (y : Nat) : ∀ (k K : Nat), clk a p sp K (List.replicate k 1 ++ [y]) = (List.range k).map (fun x => ck a p sp (K + x) 1) ++ [ck a p sp (K + k) y]
  | 0, K => rfl
  | k + 1, K => by
    rw [List.replicate_succ, List.cons_append, clk, q414 a p sp y k (K + 1), List.range_succ_eq_map, List.map_cons, List.map_map, List.cons_append]
    congr 1
    rw [show K + 1 + k = K + (k + 1) by omega]
    congr 1
    apply List.map_congr_left
    intro x _
    show ck a p sp (K + 1 + x) 1 = ck a p sp (K + (x + 1)) 1
    rw [show K + 1 + x = K + (x + 1) by omega]
def hg (T M : Nat) : List Nat := List.replicate (T - M - 1) 1 ++ [M + 1]
structure Wh (T M : Nat) (sp : Int) : Prop where
  m : M = 1 ∨ M = 2
  t0 : 12 ≤ T
  t1 : T ≤ 120
  tm : 8 * M ≤ T
  s : (T : Int) * sp = 23040
theorem hg_sum {T M : Nat} {sp : Int} (h : Wh T M sp) : (hg T M).sum = T ∧ (hg T M).length = T - M := by
  have h1 := h.m; have h2 := h.t0
  unfold hg
  rw [List.sum_append, List.length_append, List.length_replicate]
  have : ∀ k, (List.replicate k 1).sum = k := fun k => by induction k with | zero => rfl | succ k ih => rw [List.replicate_succ, List.sum_cons, ih]; omega
  rw [this]
  simp only [List.sum_cons, List.sum_nil, List.length_cons, List.length_nil]
  omega
theorem hg_mem {T M : Nat} {sp : Int} (h : Wh T M sp) : ∀ g ∈ hg T M, 1 ≤ g ∧ g ≤ 3 := by
  intro g hg2
  unfold hg at hg2
  have h1 := h.m
  rcases List.mem_append.1 hg2 with h3 | h3
  · have := List.eq_of_mem_replicate h3; omega
  · simp at h3; omega
theorem Wh.sp {T M : Nat} {sp : Int} (h : Wh T M sp) : 192 ≤ sp ∧ sp ≤ 1920 := by
  have h1 := h.t0; have h2 := h.t1; have h3 := h.s
  constructor
  · by_cases hh : 192 ≤ sp
    · exact hh
    · have : (T : Int) * sp ≤ 120 * 191 := by
        by_cases h0 : 0 ≤ sp
        · exact Int.mul_le_mul (by omega) (by omega) h0 (by omega)
        · have : (T : Int) * sp ≤ 0 := Int.mul_nonpos_of_nonneg_of_nonpos (by omega) (by omega)
          omega
      omega
  · by_cases hh : sp ≤ 1920
    · exact hh
    · have : 12 * 1921 ≤ (T : Int) * sp := Int.mul_le_mul (by omega) (by omega) (by omega) (by omega)
      omega
theorem turn_ck {a p sp : Int} {T M : Nat} (h : Wh T M sp) (hp : 0 ≤ p ∧ p ≤ 40000) (ha : 0 ≤ a ∧ a ≤ 1073741824) (i hf j : Nat) (hi : i ≤ 5) (hh : hf < 2) (hj : j < T) (g : Nat) (G : Int) (hG : G = (g : Int) * sp) :
    (⟨true, w64 (a + 2 * (i : Int) * T * p + (w64 ((w64 ((w64 ((hf : Int) * T)) + (j : Int))) * p))), w64 ((w64 ((hf : Int) * 23040)) + (w64 ((j : Int) * sp))), p, sp, G⟩ : SClock) = ck a p sp (2 * i * T + hf * T + j) g := by
  have h1 := h.t1; have h2 := h.s; have h3 := h.sp
  have hT : (hf : Int) * T = if hf = 0 then 0 else (T : Int) := by
    rcases (show hf = 0 ∨ hf = 1 by omega) with rfl | rfl <;> simp
  have hT0 : 0 ≤ (hf : Int) * T ∧ (hf : Int) * T ≤ 120 := by rw [hT]; split <;> omega
  have b1 := q151 (A := 240) (B := 40000) (show 0 ≤ (hf : Int) * T + j by omega) (by omega) hp.1 hp.2
  have hiT := q151 (A := 5) (B := 120) (show 0 ≤ (i : Int) by omega) (by omega) (show 0 ≤ (T : Int) by omega) (by omega)
  have b2 := q151 (A := 1200) (B := 40000) (show 0 ≤ 2 * ((i : Int) * T) by omega) (by omega) hp.1 hp.2
  have e2 : 2 * (i : Int) * T = 2 * ((i : Int) * T) := Int.mul_assoc ..
  have hjs : 0 ≤ (j : Int) * sp ∧ (j : Int) * sp < 23040 := by
    refine ⟨Int.mul_nonneg (by omega) (by omega), ?_⟩
    rw [← h2]
    exact Int.mul_lt_mul_of_pos_right (by omega) (by omega)
  rw [w64_of (n := (hf : Int) * T) (by omega) (by omega), w64_of (n := (hf : Int) * T + j) (by omega) (by omega), w64_of (n := ((hf : Int) * T + j) * p) (by omega) (by omega), w64_of (n := (hf : Int) * 23040) (by omega) (by omega), w64_of (n := (j : Int) * sp) (by omega) (by omega), w64_of (n := (hf : Int) * 23040 + (j : Int) * sp) (by omega) (by omega), hG, e2, w64_of (by omega) (by omega)]
  unfold ck
  have c1 : ((2 * i * T + hf * T + j : Nat) : Int) = 2 * ((i : Int) * T) + ((hf : Int) * T + j) := by push_cast; rw [Int.mul_assoc]; omega
  have c2 : ((2 * i * T + hf * T + j : Nat) : Int) * p = 2 * ((i : Int) * T) * p + ((hf : Int) * T + j) * p := by rw [c1, Int.add_mul]
  have c3 : ((2 * i * T + hf * T + j : Nat) : Int) * sp = 46080 * (i : Int) + (hf : Int) * 23040 + (j : Int) * sp := by
    rw [c1, Int.add_mul, Int.add_mul, Int.mul_assoc, Int.mul_assoc, h2, Int.mul_assoc, h2]; omega
  rw [c2, c3]
  congr 1
  · omega
  · omega
theorem q302 {a p sp : Int} {T M : Nat} (h : Wh T M sp) (hp : 0 ≤ p ∧ p ≤ 40000) (ha : 0 ≤ a ∧ a ≤ 1073741824) (i hf : Nat) (hi : i ≤ 5) (hh : hf < 2) (pre : List SClock) (hpre : pre.length ≤ 1000) :
    rangeN (((T - M : Nat)) : Int) (q109 ⟨(T : Int), (M : Int)⟩ p (a + 2 * (i : Int) * T * p) sp (pre, (hf : Int))) pre = some (.inl (pre ++ clk a p sp (2 * i * T + hf * T) (hg T M))) := by
  have h1 := h.m; have h2 := h.t0; have h3 := h.t1; have h4 := h.sp
  obtain ⟨u, eu, hu⟩ := rangeN_inv (R := Empty) (T - M) (by omega) (q109 ⟨(T : Int), (M : Int)⟩ p (a + 2 * (i : Int) * T * p) sp (pre, (hf : Int)))
    (fun j f => f = pre ++ (if j < T - M then (List.range j).map (fun x => ck a p sp (2 * i * T + hf * T + x) 1) else clk a p sp (2 * i * T + hf * T) (hg T M))) pre (by rw [if_pos (by omega)]; simp) (fun j hj f hf2 => by
      rw [if_pos hj] at hf2
      subst hf2
      unfold q109
      simp only
      rw [w64_of (n := (T : Int) - M) (by omega) (by omega), w64_of (n := (T : Int) - M - 1) (by omega) (by omega)]
      by_cases hl : j + 1 = T - M
      · rw [show ((j : Int) == (T : Int) - M - 1) = true by rw [beq_iff_eq]; omega]
        simp only [cond_true]
        rw [w64_of (n := (M : Int) + 1) (by omega) (by omega), w64_of (n := ((M : Int) + 1) * sp) (by rcases h1 with rfl | rfl <;> omega) (by rcases h1 with rfl | rfl <;> omega)]
        rw [turn_ck h hp ha i hf j hi hh (by omega) (M + 1) _ (by push_cast; rfl)]
        rw [appendM_ok _ _ (by simp; omega)]
        refine ⟨_, rfl, ?_⟩
        rw [if_neg (by omega)]
        unfold hg
        rw [q414, List.append_assoc, show T - M - 1 = j by omega]
      · rw [show ((j : Int) == (T : Int) - M - 1) = false by rw [beq_eq_false_iff_ne]; omega]
        simp only [cond_false]
        rw [turn_ck h hp ha i hf j hi hh (by omega) 1 sp (by omega)]
        rw [appendM_ok _ _ (by simp; omega)]
        refine ⟨_, rfl, ?_⟩
        rw [if_pos (by omega), List.range_succ, List.map_append, List.append_assoc]
        rfl)
  rw [eu, hu, if_neg (by omega)]
theorem clk_len (a p sp : Int) : ∀ (gs : List Nat) (K : Nat), (clk a p sp K gs).length = gs.length
  | [], _ => rfl
  | g :: gs, K => by simp [clk, clk_len a p sp gs]
theorem turn_eq {a p sp : Int} {T M : Nat} (h : Wh T M sp) (hp : 0 ≤ p ∧ p ≤ 40000) (ha : 0 ≤ a ∧ a ≤ 1073741824) (i : Nat) (hi : i ≤ 5) :
    q142 ⟨(T : Int), (M : Int)⟩ p (a + 2 * (i : Int) * T * p) = some (clk a p sp (2 * i * T) (hg T M ++ hg T M)) := by
  have h1 := h.m; have h2 := h.t0; have h3 := h.t1; have h4 := h.sp
  obtain ⟨s1, s2⟩ := hg_sum h
  have hq : quoM .i64 23040 (T : Int) = some sp := by
    rw [quo_eq (by omega) (by omega) (by omega)]
    congr 1
    rw [← h.s]
    exact Int.mul_ediv_cancel_left _ (by omega)
  unfold q142
  simp only
  rw [hq]
  simp only [Option.bind_some]
  have b0 : q37 ⟨(T : Int), (M : Int)⟩ p (a + 2 * (i : Int) * T * p) sp (([] : List SClock), 0) = some (.inl (clk a p sp (2 * i * T) (hg T M), 1)) := by
    unfold q37
    simp only
    rw [decide_eq_true (show (0 : Int) < 2 by decide), w64_of (n := (T : Int) - M) (by omega) (by omega), show (T : Int) - M = ((T - M : Nat) : Int) by omega]
    simp only [cond_true]
    have := q302 h hp ha i 0 hi (by omega) [] (by simp)
    rw [show ((0 : Nat) : Int) = 0 from rfl, Nat.zero_mul, Nat.add_zero, List.nil_append] at this
    rw [this]; rfl
  have b1 : q37 ⟨(T : Int), (M : Int)⟩ p (a + 2 * (i : Int) * T * p) sp (clk a p sp (2 * i * T) (hg T M), 1) = some (.inl (clk a p sp (2 * i * T) (hg T M ++ hg T M), 2)) := by
    unfold q37
    simp only
    rw [decide_eq_true (show (1 : Int) < 2 by decide), w64_of (n := (T : Int) - M) (by omega) (by omega), show (T : Int) - M = ((T - M : Nat) : Int) by omega]
    simp only [cond_true]
    have := q302 h hp ha i 1 hi (by omega) (clk a p sp (2 * i * T) (hg T M)) (by rw [clk_len]; omega)
    rw [show ((1 : Nat) : Int) = 1 from rfl, Nat.one_mul] at this
    rw [this, q373, s1]; rfl
  have b2 : q37 ⟨(T : Int), (M : Int)⟩ p (a + 2 * (i : Int) * T * p) sp (clk a p sp (2 * i * T) (hg T M ++ hg T M), 2) = some (.inr (.inl (clk a p sp (2 * i * T) (hg T M ++ hg T M), 2))) := by
    unfold q37
    simp only
    rw [decide_eq_false (show ¬ (2 : Int) < 2 by decide)]; rfl
  rw [loopM_next b0, loopM_next b1, loopM_out b2]
  rfl
theorem q390 {a p sp : Int} (I : Nat → Nat → SScheduler × List SSwitch → Prop) (B : Nat) : ∀ (gs : List Nat) (i K : Nat) (z : Int) (u : SScheduler × List SSwitch), K + gs.sum ≤ B → (∀ g ∈ gs, 1 ≤ g ∧ g ≤ 3) →
    (∀ i K g u, K + g ≤ B → 1 ≤ g ∧ g ≤ 3 → I i K u → ∃ s' o, q29 u.1 (ck a p sp K g) = some (s', o, 0) ∧ u.2.length + o.length ≤ 1073741824 ∧ I (i + 1) (K + g) (s', u.2 ++ o)) → I i K u →
    ∃ u', stepsL q117 (clk a p sp K gs) z u = some (.inl u') ∧ I (i + gs.length) (K + gs.sum) u'
  | [], i, K, z, u, _, _, _, hi => ⟨u, rfl, hi⟩
  | g :: gs, i, K, z, u, hB, hg, st, hi => by
    rw [List.sum_cons] at hB
    obtain ⟨s', o, e1, e2, e3⟩ := st i K g u (by omega) (hg g (List.mem_cons_self ..)) hi
    have hb : q117 z (ck a p sp K g) u = some (.next (s', u.2 ++ o)) := by
      unfold q117
      show Option.bind (q29 u.1 (ck a p sp K g)) _ = _
      rw [e1]
      simp only [Option.bind_some]
      rw [show (((0 : Int) != 0)) = false from rfl]
      simp only [cond_false]
      rw [appendM_ok _ _ e2]
      rfl
    obtain ⟨u', f1, f2⟩ := q390 I B gs (i + 1) (K + g) (z + 1) (s', u.2 ++ o) (by omega) (fun x hx => hg x (List.mem_cons_of_mem _ hx)) st e3
    refine ⟨u', ?_, by rw [List.length_cons, List.sum_cons, show i + (gs.length + 1) = i + 1 + gs.length by omega, show K + (g + gs.sum) = K + g + gs.sum by omega]; exact f2⟩
    simp only [clk, stepsL, hb, Option.bind_some]
    exact f1
end Go.Pv.Sc
set_option linter.unusedSimpArgs false
namespace Go.Pv.Sc
open Go Go.Pv Go.Pv.Ev
theorem ri_wish {e : SEngine} {next : List SFire} {a p sp L : Int} {K : Nat} {s : SScheduler} {out : List SSwitch} (h : RI e next a p sp L K s out) : RI e next a p sp L K (wishS s []) out :=
  ⟨⟨h.ok.eng, h.ok.clk, h.ok.tim, h.ok.chs, rfl, h.ok.most, h.ok.none, h.ok.job, h.ok.line⟩, h.eng, h.cut, h.clk, h.acc, h.sw⟩
theorem q501 {e : SEngine} {l : List SFire} {a p sp L : Int} (he : engP e) (hw : wishB e l = true) (hL : 0 ≤ L) : RI e l a p sp L 0 (wishS (newS e) l) [] := by
  have h := new_ok he
  refine ⟨⟨h.eng, h.clk, h.tim, h.chs, hw, h.most, h.none, h.job, h.line⟩, rfl, rfl, .inl ⟨rfl, rfl, rfl, rfl⟩, fun c hc => ?_, Sw.nil _ _ _⟩
  rw [show ((0 : Nat) : Int) * sp = 0 from Int.zero_mul sp, nw_zero (q237 e _) hL]
  rfl
theorem bnd {α : Type} (o : Option α) : (Option.bind o fun t => some t) = o := by cases o <;> rfl
theorem run_all {e : SEngine} {l : List SFire} {a p sp : Int} {T M : Nat} (he : engP e) (hw : wishB e l = true) (hl8 : l.length ≤ 8) (W : Wh T M sp) (P : Par a p sp) (cyc : Nat) (hc : 1 ≤ cyc ∧ cyc ≤ 3)
    (X : Nat → SScheduler → List SSwitch → Prop) (x0 : X 0 (wishS (newS e) l) []) (xw : ∀ K s out, X K s out → X K (wishS s []) out)
    (xs : ∀ K g s out s' o, K ≤ 1200 → 1 ≤ g ∧ g ≤ 3 → RI e l a p sp (46080 * (cyc : Int)) K s out → Wishing l sp (46080 * (cyc : Int)) K g s → toothV s (ck a p sp K g) = (s', o, 0) → X K s out → X (K + g) s' (out ++ o)) :
    ∃ s out, q154 e ⟨(T : Int), (M : Int)⟩ p a (cyc : Int) l = some (out, true) ∧ RI e l a p sp (46080 * (cyc : Int)) (2 * (cyc + 2) * T) s out ∧ s.Jobs = [] ∧ X (2 * (cyc + 2) * T) s out ∧ out.length ≤ 1073741824 := by
  have hT0 := W.t0; have hT1 := W.t1; have hM := W.m; have hTs := W.s; have hsp := W.sp
  have hp0 := P.p0; have hp1 := P.p1; have ha0 := P.a0; have ha1 := P.a1
  obtain ⟨hs1, hs2⟩ := hg_sum W
  have hwn : ∀ c, c < 2 * e.Order.length → wn e l (tk p sp) c ≤ 2 := fun c _ => wn_le _ he hw c
  have hL : 0 ≤ 46080 * (cyc : Int) ∧ 46080 * (cyc : Int) ≤ 138240 := by omega
  have hKs : ∀ k : Nat, ((2 * k * T : Nat) : Int) * sp = 46080 * (k : Int) := fun k => by
    push_cast
    rw [Int.mul_assoc, hTs]; omega
  have hKT : ∀ k : Nat, k ≤ 5 → 2 * k * T ≤ 1200 := fun k hk => by
    have := Nat.mul_le_mul (show 2 * k ≤ 10 by omega) hT1
    omega
  have hmono : ∀ x y : Nat, x ≤ y → (x : Int) * sp ≤ (y : Int) * sp := fun x y h => Int.mul_le_mul_of_nonneg_right (by omega) (by omega)
  have hen := he.2.1
  obtain ⟨u, eu, hu⟩ := rangeN_inv (R := List SSwitch × Bool) (cyc + 2) (by omega) (q118 ⟨(T : Int), (M : Int)⟩ p a (cyc : Int))
    (fun i u => RI e l a p sp (46080 * (cyc : Int)) (2 * i * T) u.2 u.1 ∧ X (2 * i * T) u.2 u.1 ∧ u.2.Next = (if i ≤ cyc then l else []) ∧ u.1.length ≤ 16000 * (2 * i * T) ∧ (i = cyc + 2 → u.2.Jobs = []))
    ([], wishS (newS e) l) ⟨by rw [Nat.mul_zero, Nat.zero_mul]; exact q501 he hw hL.1, by rw [Nat.mul_zero, Nat.zero_mul]; exact x0, by rw [if_pos (by omega)]; rfl, by simp, fun h => by omega⟩ (fun i hi u ⟨u1, u2, u3, u4, _⟩ => by
      have hiT := hKT i (by omega)
      -- the wish
      obtain ⟨s2, w1, w2, w3, w4⟩ : ∃ s2 : SScheduler, (Option.bind (bif ((i : Int) == (cyc : Int)) then (Option.bind (q31 u.2 ([] : List SFire)) fun r4 => bif (r4.2 != 0) then (some (Sum.inr (([] : List SSwitch), false))) else (some (Sum.inl r4.1))) else (some (Sum.inl u.2))) fun (t : SScheduler ⊕ (List SSwitch × Bool)) => some t) = some (.inl s2) ∧ RI e l a p sp (46080 * (cyc : Int)) (2 * i * T) s2 u.1 ∧ X (2 * i * T) s2 u.1 ∧ s2.Next = (if i < cyc then l else []) := by
        by_cases hic : i = cyc
        · rw [show ((i : Int) == (cyc : Int)) = true by rw [beq_iff_eq]; omega]
          simp only [cond_true]
          rw [q350 u.2 [] (by rw [u3]; split <;> first | omega | simp) (by have := u1.ok.most; omega) (by simp), q227.2 u1.ok, show wishB u.2.Engine ([] : List SFire) = true from rfl]
          exact ⟨wishS u.2 [], rfl, ri_wish u1, xw _ _ _ u2, by rw [if_neg (by omega)]; rfl⟩
        · rw [show ((i : Int) == (cyc : Int)) = false by rw [beq_eq_false_iff_ne]; omega]
          refine ⟨u.2, rfl, u1, u2, ?_⟩
          rw [u3]
          by_cases h : i < cyc
          · rw [if_pos (by omega), if_pos h]
          · rw [if_neg (by omega), if_neg h]
      have hb1 := q151 (A := 5) (B := 120) (show 0 ≤ (i : Int) by omega) (by omega) (show 0 ≤ (T : Int) by omega) (by omega)
      have hb2 := q151 (A := 1200) (B := 40000) (show 0 ≤ 2 * ((i : Int) * T) by omega) (by omega) (show 0 ≤ p by omega) hp1
      have hat : w64 (a + (w64 ((w64 ((w64 (2 * (i : Int))) * (T : Int))) * p))) = a + 2 * (i : Int) * T * p := by
        rw [w64_of (n := 2 * (i : Int)) (by omega) (by omega), Int.mul_assoc 2, w64_of (n := 2 * ((i : Int) * T)) (by omega) (by omega), w64_of (n := 2 * ((i : Int) * T) * p) (by omega) (by omega), w64_of (by omega) (by omega)]
      obtain ⟨v, f1, f2⟩ := q390 (a := a) (p := p) (sp := sp)
        (fun idx K v => RI e l a p sp (46080 * (cyc : Int)) K v.1 v.2 ∧ X K v.1 v.2 ∧ v.1.Next = (if i < cyc then l else []) ∧ v.2.length ≤ 16000 * K ∧ 2 * i * T ≤ K ∧ (i = cyc + 1 → (∀ c : Nat, c < 2 * e.Order.length → (mine v.1.Jobs (c : Int)).length ≤ 13 - idx) ∧ (1 ≤ idx → ∀ j ∈ v.1.Jobs, j.Left ≤ 0)))
        (2 * (i + 1) * T) (hg T M ++ hg T M) 0 (2 * i * T) 0 (s2, u.1) (by rw [List.sum_append, hs1]; have : 2 * (i + 1) * T = 2 * i * T + (T + T) := by rw [Nat.mul_add, Nat.add_mul]; omega
                                                                           omega)
        (fun g hg2 => by
          rcases List.mem_append.1 hg2 with h | h
          · exact hg_mem W g h
          · exact hg_mem W g h) (fun idx K g v hKg hg2 ⟨v1, v2, v3, v4, v5, v6⟩ => by
          have hK1 : K + g ≤ 1200 := Nat.le_trans hKg (hKT (i + 1) (by omega))
          have hKi : ((K + g : Nat) : Int) * sp ≤ 46080 * ((i + 1 : Nat) : Int) := by rw [← hKs]; exact hmono _ _ hKg
          have hKl : 46080 * (i : Int) ≤ (K : Int) * sp := by rw [← hKs]; exact hmono _ _ v5
          have hx : ((K + g : Nat) : Int) * sp = (K : Int) * sp + (g : Int) * sp := by push_cast; rw [Int.add_mul]
          have hgp := q315 P hg2
          have hwsh : Wishing l sp (46080 * (cyc : Int)) K g v.1 := by
            by_cases h : i < cyc
            · left
              rw [if_pos h] at v3
              exact ⟨v3, by omega⟩
            · right
              rw [if_neg h] at v3
              exact ⟨v3, by omega⟩
          obtain ⟨s', o, t1, t2, t3, t4, t5, t6⟩ := q499 P hw (by omega) (by omega) hg2 hL hwn hwsh v1
          have hnx : v.1.Next.length ≤ 8 := by rw [v3]; split <;> first | omega | simp
          refine ⟨s', o, by rw [q323 _ _ (by omega) (by have := v1.ok.most; omega), t1], by omega, t2, xs K g _ _ s' o (by omega) hg2 v1 hwsh t1 v2, by rw [t3]; exact v3, by rw [List.length_append]; omega, by omega, fun hic => ?_⟩
          have hv6 := v6 hic
          have hN0 : v.1.Next = [] := by rw [v3, if_neg (by omega)]
          refine ⟨fun c hc2 => ?_, fun _ j hj => ?_⟩
          · by_cases h0 : idx = 0
            · have := t2.few P hL hwn c hc2
              show (mine s'.Jobs (c : Int)).length ≤ _
              omega
            · have h1 := t6 hN0 (by
                have : 0 < 2 * i * T := Nat.mul_pos (by omega) (by omega)
                omega) (hv6.2 (by omega)) c hc2
              have h2 := hv6.1 c hc2
              show (mine s'.Jobs (c : Int)).length ≤ _
              omega
          · have := t2.left P t4 j hj
            omega) ⟨w2, w3, w4, u4, Nat.le_refl _, fun hic => ⟨fun c hc2 => by have := w2.few P hL hwn c hc2; show (mine s2.Jobs (c : Int)).length ≤ _; omega, fun h => by omega⟩⟩
      obtain ⟨v1, v2, v3, v4, _, v6⟩ := f2
      have hgs : (hg T M ++ hg T M).sum = T + T := by rw [List.sum_append, hs1]
      have hgl : (hg T M ++ hg T M).length = (T - M) + (T - M) := by rw [List.length_append, hs2]
      rw [hgs] at v1 v2 v4
      rw [hgl] at v6
      have hend : 2 * i * T + (T + T) = 2 * (i + 1) * T := by rw [Nat.mul_add, Nat.add_mul]; omega
      rw [hend] at v1 v2 v4
      refine ⟨(v.2, v.1), ?_, v1, v2, ?_, v4, fun hic => ?_⟩
      · unfold q118
        have w1' : (bif ((i : Int) == (cyc : Int)) then (Option.bind (q31 u.2 ([] : List SFire)) fun r4 => bif (r4.2 != 0) then (some (Sum.inr (([] : List SSwitch), false))) else (some (Sum.inl r4.1))) else (some (Sum.inl u.2))) = some (.inl s2 : SScheduler ⊕ (List SSwitch × Bool)) := by
          rw [bnd] at w1; exact w1
        show Option.bind (bif ((i : Int) == (cyc : Int)) then (Option.bind (q31 u.2 ([] : List SFire)) fun r4 => bif (r4.2 != 0) then (some (Sum.inr (([] : List SSwitch), false))) else (some (Sum.inl r4.1))) else (some (Sum.inl u.2))) _ = _
        rw [w1']
        simp only [Option.bind_some]
        rw [hat, turn_eq W ⟨by omega, hp1⟩ ⟨ha0, ha1⟩ i (by omega)]
        simp only [Option.bind_some]
        rw [rangeM_steps _ (by rw [clk_len, hgl]; omega), f1]
        rfl
      · rw [v3]
        by_cases h : i < cyc
        · rw [if_pos h, if_pos (by omega)]
        · rw [if_neg h, if_neg (by omega)]
      · have hlive := Live.of v1.ok
        have hjl := len_sum (2 * e.Order.length) v.1.Jobs (fun j hj => by
          have := q382 (hlive.rows.job j hj)
          rw [v1.eng] at this
          omega)
        have h0 := sum_le (fun c => (mine v.1.Jobs (c : Int)).length) 0 (2 * e.Order.length) (fun c hc2 => by
          have := (v6 (by omega)).1 c hc2
          show (mine v.1.Jobs (c : Int)).length ≤ 0
          omega)
        show v.1.Jobs = []
        apply List.eq_nil_of_length_eq_zero
        omega)
  obtain ⟨u1, u2, u3, u4, u5⟩ := hu
  refine ⟨u.2, u.1, ?_, u1, u5 rfl, u2, by have := hKT (cyc + 2) (by omega); omega⟩
  unfold q154
  rw [snew_eq, decide_eq_true he]
  simp only [cond_true, Option.bind_some]
  rw [show (((0 : Int) != 0)) = false from rfl]
  simp only [cond_false]
  show Option.bind (q31 (newS e) l) _ = _
  rw [q350 (newS e) l (by simp [newS]) (by simp [newS]) (by omega), q227.2 (new_ok he), show (newS e).Engine = e from rfl, hw]
  simp only [Bool.and_self, cond_true, Option.bind_some]
  rw [show (((0 : Int) != 0)) = false from rfl, w64_of (n := (cyc : Int) + 2) (by omega) (by omega), show (cyc : Int) + 2 = ((cyc + 2 : Nat) : Int) by omega]
  simp only [cond_false]
  show Option.bind (rangeN ((cyc + 2 : Nat) : Int) (q118 ⟨(T : Int), (M : Int)⟩ p a (cyc : Int)) ([], wishS (newS e) l)) _ = _
  rw [eu]
  simp only [Option.bind_some]
  rw [u5 rfl]
  rfl
end Go.Pv.Sc
set_option linter.unusedSimpArgs false
namespace Go.Pv.Sc
open Go Go.Pv Go.Pv.Ev
theorem q495 {w : SWheel} {b : Bool} (h : q49 w = some b) (hb : b = true) : ∃ (T M : Nat) (sp : Int), w = ⟨(T : Int), (M : Int)⟩ ∧ Wh T M sp := by
  subst hb
  unfold q49 at h
  cases hc : (((((w.Missing == 1) || (w.Missing == 2)) && (decide (w.Teeth ≥ 12))) && (decide (w.Teeth ≤ 120))) && (decide (w.Teeth ≥ (w64 (8 * w.Missing)))))
  · rw [hc] at h; cases h
  · rw [hc] at h
    simp only [Bool.and_eq_true, Bool.or_eq_true, beq_iff_eq, decide_eq_true_eq] at hc
    obtain ⟨⟨⟨h1, h2⟩, h3⟩, h4⟩ := hc
    rw [w64_of (by omega) (by omega)] at h4
    have hm : remM 23040 w.Teeth = some (Int.tmod 23040 w.Teeth) := by unfold remM; rw [if_neg (by omega)]
    rw [hm] at h
    simp only [cond_true, Option.bind_some, Option.some.injEq, beq_iff_eq] at h
    rw [Int.tmod_eq_emod_of_nonneg (by omega)] at h
    obtain ⟨T, hT⟩ : ∃ T : Nat, w.Teeth = T := ⟨w.Teeth.toNat, by omega⟩
    obtain ⟨M, hM⟩ : ∃ M : Nat, w.Missing = M := ⟨w.Missing.toNat, by omega⟩
    refine ⟨T, M, 23040 / T, ?_, ⟨by omega, by omega, by omega, by omega, ?_⟩⟩
    · cases w; simp only at hT hM; rw [hT, hM]
    · rw [hT] at h
      have := Int.mul_ediv_add_emod 23040 (T : Int)
      omega
theorem few_ok {e : SEngine} {w : SWheel} {p a : Int} {l : List SFire} {b : Bool} (h : q88 e w p a l = some b) (hb : b = true) :
    engP e ∧ wishB e l = true ∧ l.length ≤ 8 ∧ (∃ (T M : Nat) (sp : Int), w = ⟨(T : Int), (M : Int)⟩ ∧ Wh T M sp ∧ Par a p sp) := by
  subst hb
  unfold q88 at h
  cases h0 : ((decide ((e.Order.length : Int) ≤ 8)) && (decide ((l.length : Int) ≤ 8)))
  · rw [h0] at h
    simp at h
  · rw [h0] at h
    simp only [Bool.and_eq_true, decide_eq_true_eq] at h0
    simp only [cond_true] at h
    rw [q200] at h
    cases h1 : decide (engP e)
    · rw [h1] at h; simp at h
    · have he := of_decide_eq_true h1
      rw [h1] at h
      simp only [Option.bind_some, cond_true] at h
      rw [q369 e l he (by omega)] at h
      cases h2 : wishB e l
      · rw [h2] at h; simp at h
      · rw [h2] at h
        simp only [Option.bind_some, cond_true] at h
        cases h3 : q49 w with
        | none => rw [h3] at h; cases h
        | some q =>
          rw [h3] at h
          simp only [Option.bind_some, Option.some.injEq, Bool.and_eq_true, decide_eq_true_eq] at h
          obtain ⟨⟨⟨⟨hq, p0⟩, p1⟩, a0⟩, a1⟩ := h
          obtain ⟨T, M, sp, hw, W⟩ := q495 h3 hq
          have := W.sp
          exact ⟨he, rfl, by omega, T, M, sp, hw, W, ⟨by omega, by omega, by omega, by omega, this.1, this.2⟩⟩
theorem q482 (e : SEngine) (w : SWheel) (p a : Int) (l : List SFire) : ∃ b, q88 e w p a l = some b := by
  have hv : ∃ b, q49 w = some b := by
    unfold q49
    cases hc : (((((w.Missing == 1) || (w.Missing == 2)) && (decide (w.Teeth ≥ 12))) && (decide (w.Teeth ≤ 120))) && (decide (w.Teeth ≥ (w64 (8 * w.Missing)))))
    · exact ⟨_, rfl⟩
    · simp only [Bool.and_eq_true, Bool.or_eq_true, beq_iff_eq, decide_eq_true_eq] at hc
      have hm : remM 23040 w.Teeth = some (Int.tmod 23040 w.Teeth) := by unfold remM; rw [if_neg (by omega)]
      rw [hm]; exact ⟨_, rfl⟩
  obtain ⟨q, hq⟩ := hv
  unfold q88
  cases h0 : ((decide ((e.Order.length : Int) ≤ 8)) && (decide ((l.length : Int) ≤ 8)))
  · exact ⟨_, rfl⟩
  · simp only [Bool.and_eq_true, decide_eq_true_eq] at h0
    simp only [cond_true]
    rw [q200]
    cases h1 : decide (engP e)
    · exact ⟨_, rfl⟩
    · simp only [Option.bind_some, cond_true]
      rw [q369 e l (of_decide_eq_true h1) (by omega)]
      cases wishB e l
      · exact ⟨_, rfl⟩
      · simp only [Option.bind_some, cond_true]
        rw [hq]; exact ⟨_, rfl⟩
theorem u8_wf {x : Int} (h : (Lit.int .u8 x).wf = true) : 0 ≤ x ∧ x ≤ 255 := by
  have m0 : IntKind.min .u8 = 0 := rfl
  have m1 : IntKind.max .u8 = 255 := rfl
  simpa [Lit.wf, m0, m1] using h
theorem cyc_eq {n : Int} (h : 0 ≤ n ∧ n ≤ 255) : ∃ cyc : Nat, 1 ≤ cyc ∧ cyc ≤ 3 ∧ w64 (1 + (w64 (Int.tmod n 3))) = (cyc : Int) := by
  rw [Int.tmod_eq_emod_of_nonneg h.1]
  refine ⟨(1 + n % 3).toNat, by omega, by omega, ?_⟩
  rw [w64_of (n := n % 3) (by omega) (by omega), w64_of (by omega) (by omega)]
  omega
theorem q361 : ∀ (N : Nat) (P : List Bool) (b : Bool) (R : List Bool), P ++ b :: R = pairs N → b = !(P.getLastD false)
  | 0, P, b, R, h => by cases P <;> simp [pairs] at h
  | N + 1, [], b, R, h => by simp [pairs] at h; rw [h.1]; rfl
  | N + 1, [x], b, R, h => by simp [pairs] at h; rw [h.1, h.2.1]; rfl
  | N + 1, x :: y :: P, b, R, h => by
    simp only [pairs, List.cons_append, List.cons.injEq] at h
    obtain ⟨rfl, rfl, h⟩ := h
    have := q361 N P b R h
    rw [this]
    cases P <;> rfl
theorem q375 : ∀ N, (pairs N).getLastD false = false
  | 0 => rfl
  | N + 1 => by
    have := q375 N
    simp only [pairs]
    cases h : pairs N with
    | nil => rfl
    | cons x l => rw [h] at this; exact this
theorem q383 : ∀ N, (pairs N).countP (fun b => !b) = N
  | 0 => rfl
  | N + 1 => by simp [pairs, q383 N]
theorem q471 (l : List SFire) (hl : l.length ≤ 1000000) (c : Int) (f : SFire → Option Bool) (hf : ∀ y, f y = some (y.Cylinder == c)) : q26 l f = some (match l.findIdx? (fun f => f.Cylinder == c) with | some k => (k : Int) | none => -1) := by
  unfold q26 q68
  rw [rangeN_list l (by omega) (fun (i : Int) x (_ : Unit) => Option.bind (f x) fun v => bif v then (some (Fl.ret i)) else (some (Fl.next ())))]
  have := q252 f (fun f : SFire => f.Cylinder == c) l 0 (fun y _ => hf y)
  rw [show ((0 : Nat) : Int) = 0 from rfl] at this
  rw [this]
  cases l.findIdx? (fun f => f.Cylinder == c) with
  | none => rfl
  | some k => simp
structure OI (m i : Nat) (out : List SSwitch) (u : List Bool × List Int) : Prop where
  l1 : u.1.length = m
  l2 : u.2.length = m
  lev : ∀ c, c < m → u.1[c]? = some ((swc (out.take i) (c : Int)).getLastD false)
  off : ∀ c, c < m → u.2[c]? = some (((swc (out.take i) (c : Int)).countP (fun b => !b) : Nat) : Int)
theorem q494 (out : List SSwitch) (w : SSwitch) (c : Int) : swc (out ++ [w]) c = if w.Channel = c then swc out c ++ [w.Level] else swc out c := by
  rw [q217]
  unfold swc
  by_cases h : w.Channel = c
  · rw [if_pos h, List.filter_cons_of_pos (by simpa using h)]; rfl
  · rw [if_neg h, List.filter_cons_of_neg (by simpa using h)]; simp
theorem q458 {m : Nat} {out : List SSwitch} {N : Nat → Nat} {lo hi : Int} (S : Sw m lo hi out) (hP : ∀ c, c < m → swc out (c : Int) = pairs (N c)) (hm : m ≤ 1000) (ho : out.length ≤ 1073741824) (i : Nat) (hi2 : i < out.length) (u : List Bool × List Int) (h : OI m i out u) :
    ∃ u', q47 (out, true) (i : Int) u = some (.next u') ∧ OI m (i + 1) out u' := by
  have hch := S.ch out[i] (List.getElem_mem hi2)
  obtain ⟨c, hc⟩ : ∃ c : Nat, out[i].Channel = c := ⟨out[i].Channel.toNat, by omega⟩
  have hcm : c < m := by omega
  have htk : out.take (i + 1) = out.take i ++ [out[i]] := List.take_succ_eq_append_getElem hi2
  have hsn : ∀ d : Nat, swc (out.take (i + 1)) (d : Int) = if c = d then swc (out.take i) (d : Int) ++ [out[i].Level] else swc (out.take i) (d : Int) := fun d => by
    rw [htk, q494, hc]
    by_cases hcd : c = d
    · rw [if_pos (by omega), if_pos hcd]
    · rw [if_neg (by omega), if_neg hcd]
  have hlev : out[i].Level = !((swc (out.take i) (c : Int)).getLastD false) := by
    have h1 := hP c hcm
    rw [← List.take_append_drop (i + 1) out, q217, hsn c, if_pos rfl, List.append_assoc] at h1
    exact q361 (N c) _ _ _ h1
  have hl1 := h.l1; have hl2 := h.l2
  have g1 : getI u.1 (c : Int) = some ((swc (out.take i) (c : Int)).getLastD false) := by rw [getI_nat]; exact h.lev c hcm
  have g2 : getI u.2 (c : Int) = some (((swc (out.take i) (c : Int)).countP (fun b => !b) : Nat) : Int) := by rw [getI_nat]; exact h.off c hcm
  have hne : (out[i].Level == ((swc (out.take i) (c : Int)).getLastD false)) = false := by
    rw [hlev]; cases (swc (out.take i) (c : Int)).getLastD false <;> rfl
  have hcond : (bif (decide (out[i].Channel < 0)) then (some true) else (bif (decide (out[i].Channel ≥ (u.1.length : Int))) then (some true) else (bif (decide ((i : Int) > 0)) then (Option.bind (getI out (w64 ((i : Int) - 1))) fun x2 => bif (decide (out[i].At < x2.At)) then (some true) else (Option.bind (getI u.1 out[i].Channel) fun x3 => some (out[i].Level == x3))) else (Option.bind (getI u.1 out[i].Channel) fun x4 => some (out[i].Level == x4))))) = some false := by
    rw [hc, decide_eq_false (show ¬ (c : Int) < 0 by omega), decide_eq_false (show ¬ (c : Int) ≥ (u.1.length : Int) by omega)]
    simp only [cond_false]
    rw [g1]
    simp only [Option.bind_some, hne]
    by_cases h0 : i = 0
    · rw [decide_eq_false (show ¬ (i : Int) > 0 by omega)]; rfl
    · rw [decide_eq_true (show (i : Int) > 0 by omega), w64_of (by omega) (by omega), show (i : Int) - 1 = ((i - 1 : Nat) : Int) by omega, getI_get _ _ (show i - 1 < out.length by omega)]
      simp only [cond_true, Option.bind_some]
      have := List.pairwise_iff_getElem.1 S.asc (i - 1) i (by omega) hi2 (by omega)
      rw [decide_eq_false (by omega)]; rfl
  unfold q47
  simp only
  rw [getI_get _ _ hi2]
  simp only [Option.bind_some]
  rw [hcond]
  simp only [Option.bind_some, cond_false]
  rw [hc, g1]
  simp only [Option.bind_some]
  rw [setM_nat _ _ _ (by omega)]
  simp only [Option.bind_some]
  have hcnt : (swc (out.take i) (c : Int)).countP (fun b => !b) ≤ 1073741824 := by
    have a1 : (swc (out.take i) (c : Int)).countP (fun b => !b) ≤ (swc (out.take i) (c : Int)).length := List.countP_le_length
    have a2 : (swc (out.take i) (c : Int)).length ≤ (out.take i).length := by unfold swc; rw [List.length_map]; exact List.length_filter_le ..
    rw [List.length_take] at a2
    omega
  have lev' : ∀ d, d < m → (u.1.set c out[i].Level)[d]? = some ((swc (out.take (i + 1)) (d : Int)).getLastD false) := fun d hd => by
    rw [hsn d]
    by_cases hcd : c = d
    · subst hcd
      rw [if_pos rfl, List.getElem?_set_self (by omega)]
      simp
    · rw [if_neg hcd, List.getElem?_set_ne hcd]; exact h.lev d hd
  cases hL : out[i].Level
  · simp only [Bool.not_false, cond_true]
    rw [g2]
    simp only [Option.bind_some]
    rw [setM_nat _ _ _ (by omega), w64_of (by omega) (by omega)]
    rw [hL] at lev'
    refine ⟨_, rfl, by simp [hl1], by simp [hl2], lev', fun d hd => ?_⟩
    rw [hsn d]
    by_cases hcd : c = d
    · subst hcd
      rw [if_pos rfl, List.getElem?_set_self (by omega), List.countP_append, hL]
      simp
    · rw [if_neg hcd, List.getElem?_set_ne hcd]; exact h.off d hd
  · simp only [Bool.not_true, cond_false]
    rw [hL] at lev'
    refine ⟨_, rfl, by simp [hl1], hl2, lev', fun d hd => ?_⟩
    rw [hsn d]
    by_cases hcd : c = d
    · subst hcd
      rw [if_pos rfl, List.countP_append, hL]
      simp only [List.countP_cons, List.countP_nil, Bool.not_true, Bool.false_eq_true, if_false, Nat.add_zero]
      exact h.off c hd
    · rw [if_neg hcd]; exact h.off d hd
theorem once_eq (e : SEngine) (w : SWheel) (p a n : Int) (l : List SFire) (hn : 0 ≤ n ∧ n ≤ 255) : q62 e w p a n l = some true := by
  unfold q62
  rw [q517]
  simp only [Option.bind_some, Bool.not_true, cond_false]
  obtain ⟨b, hb⟩ := q482 e w p a l
  rw [hb]
  simp only [Option.bind_some]
  cases hbb : b
  · rfl
  · obtain ⟨he, hw, hl8, T, M, sp, rfl, W, P⟩ := few_ok hb hbb
    obtain ⟨cyc, c1, c3, hcy⟩ := cyc_eq hn
    have hen := he.2.1
    have hsp := P.s0
    simp only [Bool.not_true, cond_false]
    rw [hcy]
    obtain ⟨s, out, e1, R, hJ, _, ho⟩ := run_all he hw hl8 W P cyc ⟨c1, c3⟩ (fun _ _ _ => True) trivial (fun _ _ _ _ => trivial) (fun _ _ _ _ _ _ _ _ _ _ _ _ => trivial)
    rw [e1]
    simp only [Option.bind_some, Bool.not_true, cond_false]
    rw [w64_of (n := 2 * (e.Order.length : Int)) (by omega) (by omega), show 2 * (e.Order.length : Int) = ((2 * e.Order.length : Nat) : Int) by omega, makeM_nat _ (by omega), makeM_nat _ (by omega)]
    simp only [Option.bind_some]
    have hnw : ∀ x : Int, nw (beg e x) (((2 * (cyc + 2) * T : Nat) : Int) * sp) (46080 * (cyc : Int)) = (cyc : Int) := fun x => by
      have hb := q237 e x
      have : ((2 * (cyc + 2) * T : Nat) : Int) * sp = 46080 * ((cyc : Int) + 2) := by
        push_cast
        rw [Int.mul_assoc, W.s]; omega
      rw [this]
      unfold nw
      omega
    have hP : ∀ c, c < 2 * e.Order.length → swc out (c : Int) = pairs (wn e l (tk p sp) c * cyc) := fun c hc => by
      have := R.acc c hc
      rw [hJ, hnw] at this
      rw [show fl (mine [] (c : Int)) = [] from rfl, List.append_nil] at this
      rw [this]
      congr 1
    obtain ⟨u, eu, hu⟩ := rangeN_inv out.length (by omega) (q47 (out, true)) (fun i u => OI (2 * e.Order.length) i out u) (List.replicate (2 * e.Order.length) false, List.replicate (2 * e.Order.length) 0)
      ⟨by simp, by simp, fun c hc => by rw [List.getElem?_replicate_of_lt hc]; rfl, fun c hc => by rw [List.getElem?_replicate_of_lt hc]; rfl⟩
      (fun i hi u h => q458 R.sw hP (by omega) ho i hi u h)
    rw [eu]
    simp only [Option.bind_some]
    have hlev : ∀ c, c < 2 * e.Order.length → getI u.1 (c : Int) = some false := fun c hc => by
      rw [getI_nat, hu.lev c hc, List.take_length, hP c hc, q375]
    have hoff : ∀ c, c < 2 * e.Order.length → getI u.2 (c : Int) = some ((wn e l (tk p sp) c * cyc : Nat) : Int) := fun c hc => by
      rw [getI_nat, hu.off c hc, List.take_length, hP c hc, q383]
    obtain ⟨v, ev, _⟩ := rangeM_inv (R := Bool) e.Order (by omega) (q82 n l u) (fun _ _ => True) () trivial (fun j hj v _ => by
      refine ⟨(), ?_, trivial⟩
      have hcy2 := he.2.2.2.2.1 e.Order[j] (List.getElem_mem hj)
      obtain ⟨x, hx⟩ : ∃ x : Nat, e.Order[j] = (x : Int) + 1 := ⟨(e.Order[j] - 1).toNat, by omega⟩
      have hxn : x < e.Order.length := by omega
      unfold q82
      rw [hx, w64_of (n := (x : Int) + 1 - 1) (by omega) (by omega), show (x : Int) + 1 - 1 = (x : Int) by omega, w64_of (n := 2 * (x : Int)) (by omega) (by omega), w64_of (n := 2 * (x : Int) + 1) (by omega) (by omega), hcy,
        show 2 * (x : Int) + 1 = ((2 * x + 1 : Nat) : Int) by omega, show 2 * (x : Int) = ((2 * x : Nat) : Int) by omega, hoff _ (by omega), hoff _ (by omega), hlev _ (by omega), hlev _ (by omega)]
      simp only [Option.bind_some, cond_false]
      rw [q471 l (by omega) ((x : Int) + 1) (fun x0 => q52 x0 ((x : Int) + 1)) (fun y => rfl)]
      simp only [Option.bind_some]
      rcases wn_spec (tk p sp) he hw x with ⟨k0, k1, k2⟩ | ⟨k, f, k0, kf, k3⟩
      · rw [k0, k1, k2, Nat.zero_mul]
        rfl
      · rw [k0]
        simp only
        have hkl := (List.getElem?_eq_some_iff.1 kf).1
        rw [decide_eq_false (show ¬ (k : Int) < 0 by omega), decide_eq_true (show (k : Int) ≥ 0 by omega)]
        simp only [Bool.false_and, cond_false, Option.bind_some, cond_true]
        rcases k3 with ⟨k1, k2⟩ | ⟨k1, k2⟩
        · rw [k1, k2, Nat.zero_mul, show ((((0 : Nat) : Int)) == (cyc : Int)) = false by rw [beq_eq_false_iff_ne]; omega]
          rfl
        · rw [k1, k2, Nat.one_mul, beq_self_eq_true]
          simp only [cond_true]
          rw [getI_nat, kf]
          simp only [Option.bind_some]
          rw [q381]
          have hpl := pul_le f
          have hp0 : 0 ≤ pul f := by rcases q114 f with h | h | h <;> omega
          have hm := q151 (A := 3) (B := 2) (show 0 ≤ (cyc : Int) by omega) (by omega) hp0 (by omega)
          simp only [Option.bind_some]
          rw [w64_of (n := (cyc : Int) * pul f) (by omega) (by omega), show (((pul f).toNat * cyc : Nat) : Int) = (cyc : Int) * pul f by
            push_cast
            rw [Int.mul_comm]
            congr 1
            omega, beq_self_eq_true]
          rfl)
    rw [ev]
    rfl
end Go.Pv.Sc
namespace Go.Pv
open Go
theorem q308 (x0 : SEngine) (x1 : SWheel) (x2 : Int) (x3 : Int) (x4 : Int) (x5 : List SFire) (g0 : wf_SEngine x0) (g1 : wf_SWheel x1) (g2 : (fun n => (Lit.int .i64 n).wf = true) x2) (g3 : (fun n => (Lit.int .i64 n).wf = true) x3) (g4 : (fun n => (Lit.int .u8 n).wf = true) x4) (g5 : (wfL wf_SFire) x5) : q62 x0 x1 x2 x3 x4 x5 = some true :=
  have _ := g0
  have _ := g1
  have _ := g2
  have _ := g3
  have _ := g5
  Sc.once_eq x0 x1 x2 x3 x4 x5 (Sc.u8_wf g4)
end Go.Pv

/- This file joins: Plain Lean: SchedulerTeeth. Plain Lean: SchedulerStates. Plain Lean: a scheduler that is cut; SchedulerSafe. Plain Lean: what a scheduler's going on does to each channel. Plain Lean: a tooth at a constant speed: what is switched and what is left, by channels. Plain Lean: a tooth at a constant speed. Plain Lean: the teeth of a run. Plain Lean: a run at a constant speed. Plain Lean: coils go off at their time. Plain Lean: coils go off at their time: teeth. Plain Lean: coils go off at their time: what a tooth adds. Plain Lean: SchedulerOnce. Plain Lean: SchedulerExact. The plain law of SchedulerExact. -/
import Derived.Test.YtldhbjpnlehpgaaGreatSchedulerExactI
set_option linter.unusedSimpArgs false
set_option linter.unusedVariables false
set_option linter.unusedSimpArgs false
namespace Go.Pv.Sc
open Go Go.Pv Go.Pv.Ev
theorem goE_len {n : Nat} {s : SScheduler} (h : Live n s) (to : Int) (h1 : s.Timer.Now ≤ to) : (goE to s).1.length ≤ 16000 := by
  have hm := h.most
  obtain ⟨_, _, _, _, _, _, r7, _⟩ := go_run to s.Jobs.length s [] h (Nat.le_refl _) (by simp; omega) h1
  unfold goE
  simp only [List.length_nil] at r7 ⊢
  omega
def z0 : SChannel := ⟨false, 0, false, false⟩
def k0 : SClock := ⟨false, 0, 0, 0, 0, 0⟩
def newS (e : SEngine) : SScheduler := ⟨e, k0, ⟨0, List.replicate (2 * e.Order.length) z0⟩, [], [], false⟩
theorem snew_eq (e : SEngine) : q107 e = some (bif decide (engP e) then (newS e, 0) else (zeroS, 1)) := by
  unfold q107
  rw [q206]
  cases hd : decide (engP e)
  · rfl
  · have he := of_decide_eq_true hd
    have h1 := he.1; have h2 := he.2.1
    simp only [Option.bind_some, Bool.not_true, cond_false]
    rw [w64_of (n := 2 * (e.Order.length : Int)) (by omega) (by omega), show 2 * (e.Order.length : Int) = ((2 * e.Order.length : Nat) : Int) by omega, Tm.new_eq _ (by omega) (by omega)]
    simp only [Option.bind_some]
    unfold q188 q336
    rw [appendM_ok _ _ (by simp; omega)]
    rfl
def wishS (s : SScheduler) (l : List SFire) : SScheduler := ⟨s.Engine, s.Clock, s.Timer, l, s.Jobs, s.Cut⟩
theorem q362 (s : SScheduler) (l : List SFire) (hn : s.Next.length ≤ 1000000) (hj : s.Jobs.length ≤ 1000000) (hl : l.length ≤ 1000000) : q32 s l = some (bif schB s && wishB s.Engine l then (wishS s l, 0) else (zeroS, 1)) := by
  unfold q32
  rw [q397 s hn hj]
  cases hd : schB s
  · rfl
  · have hs := q199.1 hd
    simp only [Option.bind_some, Bool.not_true, cond_false]
    rw [q405 _ _ hs.eng hl]
    cases wishB s.Engine l
    · rfl
    · simp only [Option.bind_some, Bool.not_true, cond_false]
      rw [q406 s hn hj]
      simp only [Option.bind_some]
      unfold q103
      rw [appendM_ok _ _ (by simp; omega)]
      rfl
def e1 : SEngine := ⟨[1], 0⟩
def f1 : SFire := ⟨1, 640, 2000, 0, 0, 0, 0⟩
def c1 : SClock := ⟨true, 1000, 5760, 1000, 384, 384⟩
def c2 : SClock := ⟨true, 2000, 44544, 1000, 384, 384⟩
def xa : SEvent := ⟨45440, 2, 1, 0⟩
def xb : SEvent := ⟨44672, 1, 1, 0⟩
def s1 : SScheduler := wishS (newS e1) [f1]
theorem srt2 : srt [xa, xb] = [xb, xa] := by
  refine uniqE (srt_asc _) ?_ ((q435 _).trans (List.Perm.swap _ _ _))
  have : ltE xa xb = false := by decide
  first
    | exact List.Pairwise.cons (by intro y hy; simp at hy; subst hy; exact this) (List.Pairwise.cons (by simp) List.Pairwise.nil)
    | simp [Asc, this]
theorem plan1 : planV e1 [f1] 60000 = ([xb, xa], 0) := by
  have h : [f1].flatMap (evs e1 60000) = [xa, xb] := by rfl
  have g1 : decide (engP e1) = true := by decide +kernel
  have g2 : badF e1 [f1] = false := by decide +kernel
  have g3 : tickB 60000 = true := by decide +kernel
  have g4 : dupB [f1] = false := by decide +kernel
  have g5 : [f1].any (long 60000) = false := by decide +kernel
  unfold planV
  rw [g1, g2, g3, g4, g5, h, srt2]
  rfl
theorem win1 : winV e1 f1 5760 60000 = [xb, xa] := by
  unfold winV
  rw [plan1]
  have ho : ordW 5760 [xb, xa] = [xb, xa] := by rfl
  have ha : accB 5760 [xb, xa] = true := by decide +kernel
  show (bif accB 5760 (ordW 5760 [xb, xa]) then ordW 5760 [xb, xa] else []) = _
  rw [ho, ha]
  rfl
theorem tick1 : tickV c1 = 60000 ∧ tickV c2 = 60000 := by decide +kernel
theorem beg1 : beg e1 1 = 5760 := by decide +kernel
theorem add1 (k : SClock) : addV e1 k [f1] 60000 1 = bif decide (dst k.Angle 5760 ≥ k.Ahead) then [] else [shJ (dst k.Angle 5760) 5760 xb, shJ (dst k.Angle 5760) 5760 xa] := by
  unfold addV
  rw [beg1, show ([f1].filter fun f => f.Cylinder == 1) = [f1] from rfl]
  simp only [List.flatMap_cons, List.flatMap_nil, List.append_nil]
  unfold addF
  rw [show f1.Cylinder = 1 from rfl, beg1, win1]
  rfl
theorem newJ1 (s : SScheduler) (c : SClock) (g : SScheduler) (hE : g.Engine = e1) (hN : g.Next = [f1]) (ht : tickV c = 60000) : newJ s c g = leftJ s c g.Jobs ++ (bif decide (dst c.Angle 5760 ≥ c.Ahead) then [] else [shJ (dst c.Angle 5760) 5760 xb, shJ (dst c.Angle 5760) 5760 xa]) := by
  unfold newJ
  rw [hE, hN, ht, ← add1]
  show _ ++ List.flatMap (addV e1 c [f1] 60000) [1] = _
  rw [List.flatMap_cons, List.flatMap_nil, List.append_nil]
def g1 : SScheduler := put s1 1000 (s1.Timer.Channels, [])
def s2 : SScheduler := armV (mk g1 c1 [shJ 0 5760 xb, shJ 0 5760 xa])
theorem go1 : goE 1000 s1 = ([], g1) := by rfl
theorem tooth1 : toothV s1 c1 = (s2, [], 0) := by
  have a1 : (!schB s1 || !clkB c1) = false := by decide +kernel
  have a2 : (!c1.Valid) = false := rfl
  have a3 : decide (c1.At < s1.Timer.Now) = false := by decide +kernel
  have a4 : newJ s1 c1 g1 = [shJ 0 5760 xb, shJ 0 5760 xa] := by
    rw [newJ1 s1 c1 g1 rfl rfl tick1.1]
    rfl
  unfold toothV
  rw [a1, a2, a3, show c1.At = 1000 from rfl, go1]
  simp only [cond_false]
  unfold toothG
  simp only
  rw [a4]
  rfl
def g2 : SScheduler := put s2 2000 (s2.Timer.Channels, s2.Jobs)
theorem go2 : goE 2000 s2 = ([], g2) := by rfl
def s3 : SScheduler := armV (mk g2 c2 [shiftJ 38784 (shJ 0 5760 xb), shiftJ 38784 (shJ 0 5760 xa)])
theorem tooth2 : toothV s2 c2 = (s3, [], 0) := by
  have a1 : (!schB s2 || !clkB c2) = false := by decide +kernel
  have a2 : (!c2.Valid) = false := rfl
  have a3 : decide (c2.At < s2.Timer.Now) = false := by decide +kernel
  have a4 : newJ s2 c2 g2 = [shiftJ 38784 (shJ 0 5760 xb), shiftJ 38784 (shJ 0 5760 xa)] := by
    rw [newJ1 s2 c2 g2 rfl rfl tick1.2]
    rfl
  unfold toothV
  rw [a1, a2, a3, show c2.At = 2000 from rfl, go2]
  simp only [cond_false]
  unfold toothG
  simp only
  rw [a4]
  rfl
theorem q493 : q99 = some true := by
  have n1 : q107 e1 = some (newS e1, 0) := by
    rw [snew_eq, show decide (engP e1) = true by decide +kernel]; rfl
  have w1 : q32 (newS e1) [f1] = some (s1, 0) := by
    rw [q362 _ _ (by decide) (by decide) (by decide), show (schB (newS e1) && wishB (newS e1).Engine [f1]) = true by decide +kernel]; rfl
  have t1 : q30 s1 c1 = some (s2, [], 0) := by
    rw [q347 _ _ (by decide) (by decide), tooth1]
  have t2 : q30 s2 c2 = some (s3, [], 0) := by
    rw [q347 _ _ (by decide +kernel) (by decide +kernel), tooth2]
  unfold q99 q203
  simp only [Option.bind_some]
  show Option.bind (q107 e1) _ = _
  rw [n1]
  simp only [Option.bind_some]
  show Option.bind (q32 (newS e1) [f1]) _ = _
  rw [w1]
  simp only [Option.bind_some]
  show Option.bind (q30 s1 c1) _ = _
  rw [t1]
  simp only [Option.bind_some]
  rw [show (((((0 : Int) != 0) || ((0 : Int) != 0)) || ((0 : Int) != 0)) || ((s2.Jobs.length : Int) != 2)) = false by decide +kernel]
  simp only [cond_false]
  show Option.bind (q30 s2 c2) _ = _
  rw [t2]
  simp only [Option.bind_some]
  rfl
end Go.Pv.Sc
set_option linter.unusedSimpArgs false
namespace Go.Pv.Sc
open Go Go.Pv Go.Pv.Ev
theorem new_ok {e : SEngine} (h : engP e) : SchOk (newS e) := by
  have h1 := h.1; have h2 := h.2.1
  have hl : Live e.Order.length (newS e) := by
    refine ⟨rfl, h1, h2, ⟨by simp [newS], fun x hx => ?_, fun j hj => by simp [newS] at hj, fun c hc => ?_⟩, fun hc => by simp [newS] at hc, by simp [newS], by simp [newS], .inl ⟨rfl, rfl⟩, by simp [newS]⟩
    · have : x = z0 := by simp only [newS] at hx; exact List.eq_of_mem_replicate hx
      subst this
      show Tm.chB 0 z0 = true
      decide
    · have : (newS e).Timer.Channels[c] = z0 := by simp only [newS, List.getElem_replicate]
      simp only
      rw [this]; rfl
  refine ⟨h, rfl, hl.tim, hl.len, rfl, by simp [newS], fun _ => rfl, hl.rows.job, fun c hc => ?_⟩
  have hr := hl.rows.row c hc
  simp only at hr
  unfold lineB
  rw [hr]; rfl
end Go.Pv.Sc
set_option linter.unusedSimpArgs false
namespace Go.Pv.Sc
open Go Go.Pv Go.Pv.Ev
end Go.Pv.Sc
set_option linter.unusedSimpArgs false
namespace Go.Pv.Sc
open Go Go.Pv Go.Pv.Ev
def fl (l : List SJob) : List Bool := l.map fun j => onK j.Event.Kind
def swc (out : List SSwitch) (c : Int) : List Bool := (out.filter fun w => w.Channel == c).map fun w => w.Level
theorem q481 (a b : List SJob) : fl (a ++ b) = fl a ++ fl b := List.map_append
theorem q306 (a b : List SSwitch) (c : Int) : swc (a ++ b) c = swc a c ++ swc b c := by unfold swc; rw [List.filter_append, List.map_append]
def st (j : SJob) : SEvent × Int := (j.Event, j.Left)
theorem fl_st {a b : List SJob} (h : a.map st = b.map st) : fl a = fl b := by
  have : ∀ l : List SJob, fl l = (l.map st).map fun x => onK x.1.Kind := fun l => by unfold fl; rw [List.map_map]; rfl
  rw [this, this, h]
theorem mine_st {a b : List SJob} (c : Int) (h : a.map st = b.map st) : (mine a c).map st = (mine b c).map st := by
  have : ∀ l : List SJob, (mine l c).map st = (l.map st).filter fun x => chn x.1 == c := fun l => by unfold mine; rw [List.filter_map]; rfl
  rw [this, this, h]
theorem armC_st (now : Int) (k : SClock) (c : Nat) (u : List SChannel × List SJob) : (armC now k c u).2.map st = u.2.map st := by
  unfold armC
  cases hs : split (c : Int) u.2 with
  | none => rfl
  | some t =>
    obtain ⟨a, j, b⟩ := t
    simp only
    split
    · rfl
    · cases u.1[c]? with
      | none => rfl
      | some x =>
        have := (q113 hs).1
        simp only
        rw [this]
        simp [st]
theorem armN_st (now : Int) (k : SClock) (u : List SChannel × List SJob) : ∀ m, (armN now k m u).2.map st = u.2.map st
  | 0 => rfl
  | m + 1 => by rw [armN, armC_st, armN_st now k u m]
theorem armV_st (s : SScheduler) : (armV s).Jobs.map st = s.Jobs.map st := by
  unfold armV
  split
  · rfl
  · exact armN_st _ _ _ _
theorem q499 (now : Int) (k : SClock) (c : Nat) (u : List SChannel × List SJob) : (armC now k c u).1.map (fun x => x.Level) = u.1.map (fun x => x.Level) := by
  unfold armC
  cases split (c : Int) u.2 with
  | none => rfl
  | some t =>
    simp only
    split
    · rfl
    · cases hx : u.1[c]? with
      | none => rfl
      | some x =>
        simp only
        rw [List.map_set]
        apply List.ext_getElem?
        intro i
        rw [List.getElem?_set]
        split
        · rename_i hi
          subst hi
          rw [List.getElem?_map, hx]
          obtain ⟨hl, _⟩ := List.getElem?_eq_some_iff.1 hx
          simp [hl]
        · rfl
theorem q393 (t : Int) : ∀ (l : List SChannel) (i : Nat) (c : Int), c < (i : Int) → ((Tm.swsF t i l).filter fun w => w.Channel == c) = []
  | [], _, _, _ => rfl
  | x :: l, i, c, h => by
    simp only [Tm.swsF, List.filter_append]
    rw [q393 t l (i + 1) c (by omega), List.append_nil]
    unfold Tm.swC
    cases Tm.due t x && !(x.Next == x.Level)
    · rfl
    · simp; omega
theorem sws_one (t : Int) : ∀ (l : List SChannel) (i c : Nat) (h : c < l.length), ((Tm.swsF t i l).filter fun w => w.Channel == ((i + c : Nat) : Int)) = Tm.swC t (i + c) l[c]
  | x :: l, i, 0, _ => by
    simp only [Tm.swsF, List.filter_append, List.getElem_cons_zero, Nat.add_zero]
    rw [q393 t l (i + 1) (i : Int) (by omega), List.append_nil]
    unfold Tm.swC
    cases Tm.due t x && !(x.Next == x.Level)
    · rfl
    · simp
  | x :: l, i, c + 1, h => by
    simp only [Tm.swsF, List.filter_append, List.getElem_cons_succ]
    have := sws_one t l (i + 1) c (by simpa using h)
    rw [show i + 1 + c = i + (c + 1) by omega] at this
    rw [this]
    have e : ((Tm.swC t i x).filter fun w => w.Channel == ((i + (c + 1) : Nat) : Int)) = [] := by
      unfold Tm.swC
      cases Tm.due t x && !(x.Next == x.Level)
      · rfl
      · simp; omega
    rw [e]; rfl
theorem q455 {α : Type} {a b : List α} (h : a.Perm b) (hb : b.length ≤ 1) : a = b := by
  match b, hb with
  | [], _ => exact h.eq_nil
  | [x], _ => exact List.perm_singleton.1 h
theorem adv_one (t : Int) (l : List SChannel) (c : Nat) (h : c < l.length) : ((Tm.advS t l).filter fun w => w.Channel == (c : Int)) = Tm.swC t c l[c] := by
  have h1 := (Tm.q210 t l).filter fun w => w.Channel == (c : Int)
  have h2 := sws_one t l 0 c h
  rw [Nat.zero_add] at h2
  rw [h2] at h1
  exact q455 h1 (Tm.swC_len t c l[c])
theorem q268 {q : List SJob} {x : SChannel} {t : Int} (c : Nat) (h : rowB q x = true) (hmin : x.Armed = true → t ≤ x.At) :
    (Tm.swC t c x).map (fun w => w.Level) ++ fl (q.filter fun j => !dueJ t j) = fl q ∧ (∀ w ∈ Tm.swC t c x, w.At = t ∧ w.Channel = (c : Int)) ∧
      (x.Armed = true → x.At = t → ∃ j r, q = j :: r ∧ (q.filter fun j => !dueJ t j) = r ∧ Tm.swC t c x = [⟨t, (c : Int), onK j.Event.Kind⟩]) ∧ (¬ (x.Armed = true ∧ x.At = t) → (q.filter fun j => !dueJ t j) = q ∧ Tm.swC t c x = []) := by
  cases q with
  | nil =>
    simp only [rowB, Bool.and_eq_true, Bool.not_eq_true'] at h
    have hs : Tm.swC t c x = [] := by unfold Tm.swC Tm.due; rw [h.2]; rfl
    rw [hs]
    exact ⟨rfl, by simp, fun h2 => absurd (h.2.symm.trans h2) (by decide), fun _ => ⟨rfl, rfl⟩⟩
  | cons j r =>
    simp only [rowB, Bool.and_eq_true, Bool.not_eq_true', Bool.or_eq_true, beq_iff_eq] at h
    obtain ⟨⟨⟨h1, h2⟩, h3⟩, h4⟩ := h
    have hr := q291 t (q195 h4)
    have hon : onK j.Event.Kind = !x.Level := by cases ho : onK j.Event.Kind <;> cases hl : x.Level <;> simp_all
    by_cases ha : x.Armed = true ∧ x.At = t
    · have hj : j.Armed = true := by rw [h2]; exact ha.1
      have h3' : j.At = x.At ∧ x.Next = !x.Level := by
        rcases h3 with h3 | h3
        · rw [hj] at h3; cases h3
        · exact h3
      have hd : dueJ t j = true := by unfold dueJ; rw [hj, h3'.1, ha.2]; simp
      have hdx : Tm.due t x = true := by unfold Tm.due; rw [ha.1, ha.2]; simp
      have hs : Tm.swC t c x = [⟨t, (c : Int), onK j.Event.Kind⟩] := by
        unfold Tm.swC
        have : (x.Next == x.Level) = false := by rw [h3'.2]; cases x.Level <;> rfl
        rw [hdx, this, ha.2, h3'.2, hon]
        rfl
      have hq : ((j :: r).filter fun j => !dueJ t j) = r := by rw [List.filter_cons, hd]; simpa using hr
      rw [hs, hq]
      refine ⟨rfl, fun w hw => ?_, fun _ _ => ⟨j, r, rfl, rfl, rfl⟩, fun h => absurd ha h⟩
      simp only [List.mem_cons, List.not_mem_nil, or_false] at hw
      subst hw; exact ⟨rfl, rfl⟩
    · have hdx : Tm.due t x = false := by
        unfold Tm.due
        cases hxa : x.Armed
        · rfl
        · have := hmin hxa
          have : ¬ x.At = t := fun e => ha ⟨hxa, e⟩
          simp; omega
      have hd : dueJ t j = false := by
        unfold dueJ
        cases hja : j.Armed
        · rfl
        · have hxa : x.Armed = true := by rw [← h2]; exact hja
          have h3' : j.At = x.At ∧ x.Next = !x.Level := by
            rcases h3 with h3 | h3
            · rw [hja] at h3; cases h3
            · exact h3
          have : ¬ x.At = t := fun e => ha ⟨hxa, e⟩
          rw [h3'.1]; simpa using this
      have hs : Tm.swC t c x = [] := by unfold Tm.swC; rw [hdx]; rfl
      have hq : ((j :: r).filter fun j => !dueJ t j) = j :: r := by
        rw [List.filter_cons, hd]
        simp only [Bool.not_false, if_true]
        rw [hr]
      rw [hs, hq]
      exact ⟨rfl, by simp, fun a b => absurd ⟨a, b⟩ ha, fun _ => ⟨rfl, rfl⟩⟩
theorem q474 (t : Int) (s : SScheduler) (c : Int) : (mine (stepG t s).Jobs c).map st = ((mine s.Jobs c).filter fun j => !dueJ t j).map st := by
  unfold stepG
  rw [mine_st c (armV_st _)]
  show (mine (s.Jobs.filter fun j => !dueJ t j) c).map st = _
  rw [q247]
theorem q461 {n : Nat} {s : SScheduler} (h : Live n s) (hn : (Tm.nxV s.Timer.Channels).2 = true) (c : Nat) (hc : c < s.Timer.Channels.length) :
    swc (Tm.advS (Tm.nxV s.Timer.Channels).1 s.Timer.Channels) (c : Int) ++ fl (mine (stepG (Tm.nxV s.Timer.Channels).1 s).Jobs (c : Int)) = fl (mine s.Jobs (c : Int)) := by
  obtain ⟨_, _, h3⟩ := nx_now h hn
  have hrow := h.rows.row c hc
  simp only at hrow
  have := (q268 c hrow (h3 _ (List.getElem_mem hc))).1
  rw [fl_st (q474 _ s (c : Int))]
  unfold swc
  rw [adv_one _ _ c hc]
  exact this
structure Sw (m : Nat) (lo hi : Int) (out : List SSwitch) : Prop where
  asc : out.Pairwise fun a b => a.At ≤ b.At
  ran : ∀ w ∈ out, lo < w.At ∧ w.At ≤ hi
  ch : ∀ w ∈ out, 0 ≤ w.Channel ∧ w.Channel < (m : Int)
theorem Sw.nil (m : Nat) (lo hi : Int) : Sw m lo hi [] := ⟨.nil, by simp, by simp⟩
theorem Sw.append {m : Nat} {a b c : Int} {x y : List SSwitch} (h : Sw m a b x) (k : Sw m b c y) (hab : a ≤ b) (hbc : b ≤ c) : Sw m a c (x ++ y) := by
  refine ⟨List.pairwise_append.2 ⟨h.asc, k.asc, fun v hv w hw => ?_⟩, fun w hw => ?_, fun w hw => ?_⟩
  · have := h.ran v hv; have := k.ran w hw; omega
  · rcases List.mem_append.1 hw with hw | hw
    · have := h.ran w hw; omega
    · have := k.ran w hw; omega
  · rcases List.mem_append.1 hw with hw | hw
    · exact h.ch w hw
    · exact k.ch w hw
theorem Sw.wide {m : Nat} {a b c : Int} {x : List SSwitch} (h : Sw m a b x) (hbc : b ≤ c) : Sw m a c x := ⟨h.asc, fun w hw => by have := h.ran w hw; omega, h.ch⟩
theorem step_sw {n : Nat} {s : SScheduler} (h : Live n s) (hn : (Tm.nxV s.Timer.Channels).2 = true) : Sw s.Timer.Channels.length s.Timer.Now (Tm.nxV s.Timer.Channels).1 (Tm.advS (Tm.nxV s.Timer.Channels).1 s.Timer.Channels) := by
  obtain ⟨h1, _, h3⟩ := nx_now h hn
  have hat : ∀ w ∈ Tm.advS (Tm.nxV s.Timer.Channels).1 s.Timer.Channels, w.At = (Tm.nxV s.Timer.Channels).1 ∧ 0 ≤ w.Channel ∧ w.Channel < (s.Timer.Channels.length : Int) := by
    intro w hw
    obtain ⟨j, c, e1, e2, _, e4⟩ := Tm.q371.1 hw
    obtain ⟨hj, rfl⟩ := List.getElem?_eq_some_iff.1 e1
    have hd := e2
    unfold Tm.due at hd
    simp only [Bool.not_eq_true', Bool.or_eq_false_iff, Bool.not_eq_false', decide_eq_false_iff_not] at hd
    have := h3 _ (List.getElem_mem hj) hd.1
    rw [e4]
    simp only
    exact ⟨by omega, by omega, by omega⟩
  refine ⟨?_, fun w hw => by have := hat w hw; omega, fun w hw => (hat w hw).2⟩
  rw [List.pairwise_iff_forall_sublist]
  intro a b hab
  have ha := hat a (hab.subset (by simp))
  have hb := hat b (hab.subset (by simp))
  omega
theorem q342 (to : Int) {n : Nat} : ∀ (f : Nat) (s : SScheduler), Live n s → s.Timer.Now ≤ to →
    ∃ out, (∀ o, (goV to f (o, s)).1 = o ++ out) ∧ (∀ o, (goV to f (o, s)).2 = (goV to f ([], s)).2) ∧ Sw (2 * n) s.Timer.Now (goV to f ([], s)).2.Timer.Now out ∧ s.Timer.Now ≤ (goV to f ([], s)).2.Timer.Now ∧
      ∀ c : Nat, c < 2 * n → swc out (c : Int) ++ fl (mine (goV to f ([], s)).2.Jobs (c : Int)) = fl (mine s.Jobs (c : Int))
  | 0, s, h, ht => ⟨[], fun o => by simp [goV], fun o => rfl, Sw.nil _ _ _, Int.le_refl _, fun c _ => rfl⟩
  | f + 1, s, h, ht => by
    by_cases hy : (Tm.nxV s.Timer.Channels).2 = true ∧ (Tm.nxV s.Timer.Channels).1 ≤ to
    · have eg : ∀ o, goV to (f + 1) (o, s) = goV to f (o ++ Tm.advS (Tm.nxV s.Timer.Channels).1 s.Timer.Channels, stepG (Tm.nxV s.Timer.Channels).1 s) := fun o => by
        show (if _ then _ else _) = _
        rw [if_pos hy]
      obtain ⟨out, i1, i2, i3, i4, i5⟩ := q342 to f _ (q279 h hy.1) (by rw [q237]; exact hy.2)
      obtain ⟨h1, _, _⟩ := nx_now h hy.1
      have hlen := h.len
      have e2 : ∀ o, (goV to (f + 1) (o, s)).2 = (goV to f ([], stepG (Tm.nxV s.Timer.Channels).1 s)).2 := fun o => by rw [eg, i2]
      rw [q237] at i3 i4
      refine ⟨Tm.advS (Tm.nxV s.Timer.Channels).1 s.Timer.Channels ++ out, fun o => by rw [eg, i1, List.append_assoc], fun o => by rw [e2, e2], ?_, ?_, fun c hc => ?_⟩
      · rw [e2]
        have := step_sw h hy.1
        rw [hlen] at this
        exact this.append i3 (by omega) i4
      · rw [e2]; omega
      · rw [e2, q306, List.append_assoc, i5 c hc]
        exact q461 h hy.1 c (by omega)
    · have eg : ∀ o, goV to (f + 1) (o, s) = (o, s) := fun o => by
        show (if _ then _ else _) = _
        rw [if_neg hy]
      refine ⟨[], fun o => by rw [eg]; simp, fun o => by rw [eg, eg], by rw [eg]; exact Sw.nil _ _ _, by rw [eg]; exact Int.le_refl _, fun c _ => by rw [eg]; rfl⟩
theorem q395 {n : Nat} {s : SScheduler} (h : Live n s) (to : Int) (h1 : s.Timer.Now ≤ to) :
    Sw (2 * n) s.Timer.Now to (goE to s).1 ∧ ∀ c : Nat, c < 2 * n → swc (goE to s).1 (c : Int) ++ fl (mine (goE to s).2.Jobs (c : Int)) = fl (mine s.Jobs (c : Int)) := by
  obtain ⟨out, i1, i2, i3, i4, i5⟩ := q342 to s.Jobs.length s h h1
  have hm := h.most
  obtain ⟨_, _, _, _, r5, _⟩ := go_run to s.Jobs.length s [] h (Nat.le_refl _) (by simp; omega) h1
  have e := i1 []
  rw [List.nil_append] at e
  unfold goE
  rw [e]
  exact ⟨i3.wide r5, i5⟩
theorem q497 {n : Nat} {s : SScheduler} (h : Live n s) (to : Int) (h1 : s.Timer.Now < to) (ha : ∀ x ∈ s.Timer.Channels, x.Armed = true → x.At = s.Timer.Now + 1) (c : Nat) (hc : c < 2 * n)
    (hne : ∀ x, s.Timer.Channels[c]? = some x → mine s.Jobs (c : Int) ≠ [] → x.Armed = true) : (mine (goE to s).2.Jobs (c : Int)).length ≤ (mine s.Jobs (c : Int)).length - 1 := by
  have hlen := h.len
  have hc2 : c < s.Timer.Channels.length := by omega
  obtain ⟨_, g2⟩ := q395 h to (by omega)
  have hfl := congrArg List.length (g2 c hc)
  rw [List.length_append] at hfl
  have fll : ∀ l : List SJob, (fl l).length = l.length := fun l => by unfold fl; rw [List.length_map]
  rw [fll, fll] at hfl
  by_cases hq : mine s.Jobs (c : Int) = []
  · rw [hq] at hfl ⊢
    simp only [List.length_nil] at hfl ⊢
    omega
  · have hx := hne _ (List.getElem?_eq_getElem hc2) hq
    have hat := ha _ (List.getElem_mem hc2) hx
    -- the next time is the next tick
    obtain ⟨n1, n2⟩ := Tm.q216 (List.getElem_mem hc2) hx
    obtain ⟨y, hy, hya, hyt⟩ := Tm.q240 n1
    have hyn := ha y hy hya
    have hnx : (Tm.nxV s.Timer.Channels).1 = s.Timer.Now + 1 := by omega
    -- the first step switches the channel
    have hrow := h.rows.row c hc2
    simp only at hrow
    obtain ⟨_, _, hmn⟩ := nx_now h n1
    obtain ⟨j, r, e1, e2, e3⟩ := (q268 c hrow (hmn _ (List.getElem_mem hc2))).2.2.1 hx (by omega)
    have hjl : 0 < s.Jobs.length := by
      have : mine s.Jobs (c : Int) ≠ [] := hq
      have hl : (mine s.Jobs (c : Int)).length ≤ s.Jobs.length := List.length_filter_le ..
      have : 0 < (mine s.Jobs (c : Int)).length := List.length_pos_iff.2 hq
      omega
    obtain ⟨f, hf⟩ : ∃ f, s.Jobs.length = f + 1 := ⟨s.Jobs.length - 1, by omega⟩
    have eg : goV to s.Jobs.length ([], s) = goV to f ([] ++ Tm.advS (Tm.nxV s.Timer.Channels).1 s.Timer.Channels, stepG (Tm.nxV s.Timer.Channels).1 s) := by
      rw [hf]
      show (if _ then _ else _) = _
      rw [if_pos (show (Tm.nxV s.Timer.Channels).2 = true ∧ (Tm.nxV s.Timer.Channels).1 ≤ to from ⟨n1, by omega⟩)]
    obtain ⟨out, i1, _⟩ := q342 to f _ (q279 h n1) (by rw [q237]; omega)
    have hsw : 1 ≤ (swc (goE to s).1 (c : Int)).length := by
      unfold goE
      rw [eg, i1, q306, List.nil_append, List.length_append]
      have : swc (Tm.advS (Tm.nxV s.Timer.Channels).1 s.Timer.Channels) (c : Int) = [onK j.Event.Kind] := by
        unfold swc
        rw [adv_one _ _ c hc2, e3]; rfl
      rw [this]
      simp only [List.length_cons, List.length_nil]
      omega
    omega
end Go.Pv.Sc
set_option linter.unusedSimpArgs false
namespace Go.Pv.Sc
open Go Go.Pv Go.Pv.Ev
def pairs : Nat → List Bool
  | 0 => []
  | n + 1 => true :: false :: pairs n
theorem q402 : ∀ a b, pairs (a + b) = pairs a ++ pairs b
  | 0, b => by rw [Nat.zero_add]; rfl
  | a + 1, b => by rw [show a + 1 + b = (a + b) + 1 by omega]; simp only [pairs, q402 a b, List.cons_append]
theorem q339 : ∀ n, (pairs n).length = 2 * n
  | 0 => rfl
  | n + 1 => by simp only [pairs, List.length_cons, q339 n]; omega
theorem q399 : ∀ (l : List SJob), alt l false = true → fl l = pairs (l.length / 2) ∧ l.length % 2 = 0
  | [], _ => ⟨rfl, rfl⟩
  | [j], h => by simp [alt] at h
  | j :: k :: r, h => by
    simp only [alt, Bool.and_eq_true, Bool.not_eq_true', Bool.not_false, Bool.not_true] at h
    obtain ⟨⟨h1, _⟩, ⟨h2, _⟩, h3⟩ := h
    obtain ⟨a, b⟩ := q399 r h3
    have e1 : onK j.Event.Kind = true := by cases ho : onK j.Event.Kind <;> simp_all
    have e2 : onK k.Event.Kind = false := by cases ho : onK k.Event.Kind <;> simp_all
    constructor
    · simp only [List.length_cons]
      rw [show (r.length + 1 + 1) / 2 = r.length / 2 + 1 by omega]
      unfold fl at a ⊢
      simp only [List.map_cons, e1, e2, pairs, a]
    · simp only [List.length_cons]; omega
def wn (e : SEngine) (next : List SFire) (t : Int) (c : Nat) : Nat := (mine ((next.filter fun f => f.Cylinder == ((c / 2 : Nat) : Int) + 1).flatMap (addF e 0 t)) (c : Int)).length / 2
theorem q278 (e : SEngine) (v t : Int) (f : SFire) (c : Int) : (mine (addF e v t f) c).length = ((winV e f (beg e f.Cylinder) t).filter fun x => chn x == c).length := by
  unfold addF
  rw [mine_sh, List.length_map]
theorem addV_fl {e : SEngine} {k : SClock} {next : List SFire} {t : Int} (he : engP e) (hw : wishB e next = true) (c : Nat) :
    fl (mine (addV e k next t (((c / 2 : Nat) : Int) + 1)) (c : Int)) = if dst k.Angle (beg e (((c / 2 : Nat) : Int) + 1)) ≥ k.Ahead then [] else pairs (wn e next t c) := by
  have ha := q428 (k := k) (t := t) (x := ((c / 2 : Nat) : Int) + 1) he hw (c : Int)
  rw [(q399 _ ha).1]
  unfold addV wn
  by_cases h : dst k.Angle (beg e (((c / 2 : Nat) : Int) + 1)) ≥ k.Ahead
  · rw [decide_eq_true h, if_pos h]
    simp only [cond_true]
    rw [show mine ([] : List SJob) (c : Int) = [] from rfl]
    rfl
  · rw [decide_eq_false h, if_neg h]
    simp only [cond_false]
    rcases q198 (((c / 2 : Nat) : Int) + 1) (q217 hw) with ⟨_, b⟩ | ⟨_, f, _, _, _, _, b⟩
    · rw [b]; rfl
    · rw [b]
      simp only [List.flatMap_cons, List.flatMap_nil, List.append_nil]
      rw [q278, q278]
theorem q530 {e : SEngine} {k : SClock} {next : List SFire} {t x : Int} (he : engP e) (hw : wishB e next = true) : ∀ j ∈ addV e k next t x, j.Event.Cylinder = x := by
  intro j hj
  unfold addV at hj
  cases hv : decide (dst k.Angle (beg e x) ≥ k.Ahead) <;> rw [hv] at hj
  · simp only [cond_false, List.mem_flatMap] at hj
    obtain ⟨f, hf, hj⟩ := hj
    obtain ⟨hf1, hf2⟩ := List.mem_filter.1 hf
    unfold addF at hj
    obtain ⟨y, hy, rfl⟩ := List.mem_map.1 hj
    have := (q272 he (q132 hw f hf1)).2 y hy
    show y.Cylinder = x
    rw [this.2]; exact beq_iff_eq.1 hf2
  · simp at hj
theorem q430 {g : Int → List SJob} {c : Int} {x0 : Int} : ∀ {l : List Int}, l.Nodup → x0 ∈ l → (∀ y ∈ l, y ≠ x0 → mine (g y) c = []) → mine (l.flatMap g) c = mine (g x0) c
  | [], _, h, _ => by simp at h
  | y :: l, hd, hm, h => by
    rw [List.flatMap_cons, q42]
    rw [List.nodup_cons] at hd
    have none : ∀ l : List Int, (∀ y ∈ l, mine (g y) c = []) → mine (l.flatMap g) c = [] := by
      intro l
      induction l with
      | nil => intro _; rfl
      | cons z l ih =>
        intro hz
        rw [List.flatMap_cons, q42, hz z (List.mem_cons_self ..), ih fun y hy => hz y (List.mem_cons_of_mem _ hy)]; rfl
    rcases List.mem_cons.1 hm with rfl | hm
    · rw [none l fun y hy => h y (List.mem_cons_of_mem _ hy) fun e => hd.1 (by rw [← e]; exact hy), List.append_nil]
    · have hy : y ≠ x0 := fun e => hd.1 (by rw [e]; exact hm)
      rw [h y (List.mem_cons_self ..) hy, List.nil_append]
      exact q430 hd.2 hm fun z hz => h z (List.mem_cons_of_mem _ hz)
theorem q345 : ∀ (n : Nat) (l : List Int), l.Nodup → (∀ x ∈ l, 1 ≤ x ∧ x ≤ (n : Int)) → l.length ≤ n
  | 0, l, _, h => by
    cases l with
    | nil => simp
    | cons x l => have := h x (List.mem_cons_self ..); omega
  | n + 1, l, hd, h => by
    by_cases hm : ((n : Int) + 1) ∈ l
    · have := q345 n (l.erase ((n : Int) + 1)) (hd.erase _) (fun x hx => by
        have h1 := (hd.mem_erase_iff).1 hx
        have h2 := h x h1.2
        have h3 := h1.1
        omega)
      rw [List.length_erase_of_mem hm] at this
      omega
    · have := q345 n l hd (fun x hx => by
        have h2 := h x hx
        have h3 : x ≠ (n : Int) + 1 := fun e => hm (by rw [← e]; exact hx)
        omega)
      omega
theorem all_in {e : SEngine} (h : engP e) {k : Nat} (hk : k < e.Order.length) : ((k : Int) + 1) ∈ e.Order := by
  obtain ⟨_, _, _, _, h5, h6⟩ := h
  by_cases hm : ((k : Int) + 1) ∈ e.Order
  · exact hm
  · have := q345 e.Order.length (((k : Int) + 1) :: e.Order) (List.nodup_cons.2 ⟨hm, h6⟩) (fun x hx => by
      rcases List.mem_cons.1 hx with rfl | hx
      · omega
      · exact h5 x hx)
    rw [List.length_cons] at this
    omega
theorem q424 {e : SEngine} {k : SClock} {next : List SFire} {t : Int} (he : engP e) (hw : wishB e next = true) (c : Nat) (hc : c < 2 * e.Order.length) :
    mine (e.Order.flatMap (addV e k next t)) (c : Int) = mine (addV e k next t (((c / 2 : Nat) : Int) + 1)) (c : Int) := by
  refine q430 he.2.2.2.2.2 (all_in he (k := c / 2) (by omega)) fun y hy hne => q220 fun j hj => ?_
  have := q530 he hw j hj
  unfold chn
  rw [this]
  split <;> omega
def sumN : Nat → (Nat → Nat) → Nat
  | 0, _ => 0
  | m + 1, f => sumN m f + f m
theorem sum_le (f : Nat → Nat) (b : Nat) : ∀ m, (∀ c, c < m → f c ≤ b) → sumN m f ≤ m * b
  | 0, _ => by simp [sumN]
  | m + 1, h => by
    have := sum_le f b m fun c hc => h c (by omega)
    have := h m (by omega)
    simp only [sumN, Nat.succ_mul]; omega
theorem sum_add (f g : Nat → Nat) : ∀ m, sumN m (fun c => f c + g c) = sumN m f + sumN m g
  | 0 => rfl
  | m + 1 => by simp only [sumN, sum_add f g m]; omega
theorem sum_one (i : Nat) : ∀ m, sumN m (fun c => if i = c then 1 else 0) = if i < m then 1 else 0
  | 0 => by simp [sumN]
  | m + 1 => by
    simp only [sumN, sum_one i m]
    by_cases h : i < m
    · rw [if_pos h, if_neg (by omega), if_pos (by omega)]
    · by_cases h2 : i = m
      · rw [if_neg h, if_pos h2, if_pos (by omega)]
      · rw [if_neg h, if_neg h2, if_neg (by omega)]
theorem q407 {f g : Nat → Nat} : ∀ {m}, (∀ c, c < m → f c = g c) → sumN m f = sumN m g
  | 0, _ => rfl
  | m + 1, h => by
    have h1 := q407 (m := m) fun c hc => h c (by omega)
    have h2 := h m (by omega)
    simp only [sumN]; omega
theorem len_sum (m : Nat) : ∀ l : List SJob, (∀ j ∈ l, 0 ≤ chn j.Event ∧ chn j.Event < (m : Int)) → l.length = sumN m fun c => (mine l (c : Int)).length
  | [], _ => by
    have : ∀ m, sumN m (fun c => (mine [] (c : Int)).length) = 0 := fun m => by induction m with | zero => rfl | succ m ih => simp only [sumN, ih]; rfl
    rw [this]; rfl
  | j :: l, h => by
    have hj := h j (List.mem_cons_self ..)
    have ih := len_sum m l fun k hk => h k (List.mem_cons_of_mem _ hk)
    have e : sumN m (fun c => (mine (j :: l) (c : Int)).length) = sumN m (fun c => (if (chn j.Event).toNat = c then 1 else 0) + (mine l (c : Int)).length) := q407 fun c _ => by
      by_cases hc : (chn j.Event).toNat = c
      · rw [if_pos hc, q197 (by omega), List.length_cons]; omega
      · rw [if_neg hc, q157 (by omega)]; omega
    rw [e, sum_add, sum_one, if_pos (by omega), List.length_cons, ih]; omega
theorem q485 {now : Int} {k : SClock} {c d : Nat} (u : List SChannel × List SJob) (hcd : c ≠ d) : mine (armC now k c u).2 (d : Int) = mine u.2 (d : Int) := by
  unfold armC
  cases hs : split (c : Int) u.2 with
  | none => rfl
  | some t =>
    obtain ⟨a, j, b⟩ := t
    simp only
    split
    · rfl
    · cases u.1[c]? with
      | none => rfl
      | some x =>
        obtain ⟨e1, e2, _⟩ := q113 hs
        simp only
        rw [e1, q42, q42, q157 (by show chn j.Event ≠ _; rw [e2]; omega), q157 (by rw [e2]; omega)]
theorem q501 {now : Int} {k : SClock} {c : Nat} (u : List SChannel × List SJob) (hc : c < u.1.length) : mine (armC now k c u).2 (c : Int) = match mine u.2 (c : Int) with
    | [] => []
    | j :: r => if j.Left > k.Ahead ∨ armAt now k j > 1099511627776 then j :: r else ⟨j.Event, j.Left, true, armAt now k j⟩ :: r := by
  unfold armC
  cases hs : split (c : Int) u.2 with
  | none => simp only [q464 hs]
  | some t =>
    obtain ⟨a, j, b⟩ := t
    obtain ⟨e1, e2, e3⟩ := q113 hs
    rw [q300 hs]
    simp only
    split
    · rw [q300 hs]
    · rw [List.getElem?_eq_getElem hc]
      simp only
      rw [q42, q220 e3, List.nil_append, q197 (by exact e2)]
theorem q492 (now : Int) (k : SClock) (c : Nat) (u : List SChannel × List SJob) : (armC now k c u).1.length = u.1.length := by
  have := congrArg List.length (q499 now k c u)
  simpa using this
theorem q434 (now : Int) (k : SClock) (u : List SChannel × List SJob) : ∀ m, (armN now k m u).1.length = u.1.length
  | 0 => rfl
  | m + 1 => by rw [armN, q492, q434 now k u m]
theorem q331 {now : Int} {k : SClock} (u : List SChannel × List SJob) (c : Nat) (hc : c < u.1.length) : ∀ m, mine (armN now k m u).2 (c : Int) = if c < m then (match mine u.2 (c : Int) with
    | [] => []
    | j :: r => if j.Left > k.Ahead ∨ armAt now k j > 1099511627776 then j :: r else ⟨j.Event, j.Left, true, armAt now k j⟩ :: r) else mine u.2 (c : Int)
  | 0 => by rw [if_neg (by omega)]; rfl
  | m + 1 => by
    rw [armN]
    by_cases h : m = c
    · subst h
      rw [q501 _ (by rw [q434]; exact hc), q331 u m hc m, if_neg (by omega), if_pos (by omega)]
    · rw [q485 _ h, q331 u c hc m]
      by_cases h2 : c < m
      · rw [if_pos h2, if_pos (by omega)]
      · rw [if_neg h2, if_neg (by omega)]
theorem q334 {s : SScheduler} (hcut : s.Cut = false) (c : Nat) (hc : c < s.Timer.Channels.length) : mine (armV s).Jobs (c : Int) = match mine s.Jobs (c : Int) with
    | [] => []
    | j :: r => if j.Left > s.Clock.Ahead ∨ armAt s.Timer.Now s.Clock j > 1099511627776 then j :: r else ⟨j.Event, j.Left, true, armAt s.Timer.Now s.Clock j⟩ :: r := by
  unfold armV
  rw [hcut]
  simp only [Bool.false_eq_true, if_false]
  show mine (armN _ _ _ _).2 (c : Int) = _
  rw [q331 _ c hc, if_pos hc]
end Go.Pv.Sc
set_option linter.unusedSimpArgs false
namespace Go.Pv.Sc
open Go Go.Pv Go.Pv.Ev
def ck (a p sp : Int) (K g : Nat) : SClock := ⟨true, a + (K : Int) * p, ((K : Int) * sp) % 46080, p, sp, (g : Int) * sp⟩
structure Par (a p sp : Int) : Prop where
  a0 : 0 ≤ a
  a1 : a ≤ 1073741824
  p0 : 20 ≤ p
  p1 : p ≤ 40000
  s0 : 192 ≤ sp
  s1 : sp ≤ 1920
def tk (p sp : Int) : Int := upV (23040 * p) sp
theorem q85 {a b A B : Int} (a0 : 0 ≤ a) (a1 : a ≤ A) (b0 : 0 ≤ b) (b1 : b ≤ B) : 0 ≤ a * b ∧ a * b ≤ A * B := ⟨Int.mul_nonneg a0 b0, Int.mul_le_mul a1 b1 b0 (by omega)⟩
theorem ck_ok {a p sp : Int} (h : Par a p sp) {K g : Nat} (hK : K ≤ 1500) (hg : 1 ≤ g ∧ g ≤ 3) : clkB (ck a p sp K g) = true := by
  have h1 := h.a0; have h2 := h.a1; have h3 := h.p0; have h4 := h.p1; have h5 := h.s0; have h6 := h.s1
  have hm := q85 (A := 1500) (B := 40000) (show 0 ≤ (K : Int) by omega) (by omega) (show 0 ≤ p by omega) h4
  unfold clkB ck
  simp only [Bool.not_true, cond_false, Bool.and_eq_true, Bool.or_eq_true, decide_eq_true_eq, beq_iff_eq]
  refine ⟨⟨⟨⟨⟨by omega, by omega⟩, by omega, by omega⟩, by omega, by omega⟩, by omega, by omega⟩, ?_⟩
  rcases (show g = 1 ∨ g = 2 ∨ g = 3 by omega) with rfl | rfl | rfl <;> omega
theorem q213 {a p sp : Int} (h : Par a p sp) {g : Nat} (hg : 1 ≤ g ∧ g ≤ 3) : 192 ≤ (g : Int) * sp ∧ (g : Int) * sp ≤ 5760 := by
  have h5 := h.s0; have h6 := h.s1
  rcases (show g = 1 ∨ g = 2 ∨ g = 3 by omega) with rfl | rfl | rfl <;> omega
theorem q433 (K0 g : Nat) (sp : Int) (h0 : 0 ≤ (g : Int) * sp) (h1 : (g : Int) * sp < 46080) : dst (((K0 : Int) * sp) % 46080) ((((K0 + g : Nat) : Int) * sp) % 46080) = (g : Int) * sp := by
  have e : ((K0 + g : Nat) : Int) * sp = (K0 : Int) * sp + (g : Int) * sp := by push_cast; rw [Int.add_mul]
  unfold dst
  rw [e]
  omega
def nw (b U L : Int) : Int := (min U L - b + 46079) / 46080
theorem nw_step {b U G L : Int} (b0 : 0 ≤ b ∧ b < 46080) (u0 : 0 ≤ U) (g0 : 0 < G ∧ G < 46080) (h : U + G ≤ L) : nw b (U + G) L = nw b U L + if dst (U % 46080) b ≥ G then 0 else 1 := by
  unfold nw dst
  split <;> omega
theorem nw_idle {b U G L : Int} (g0 : 0 ≤ G) (h : L ≤ U) : nw b (U + G) L = nw b U L := by unfold nw; omega
theorem q361 {b U L : Int} (b0 : 0 ≤ b ∧ b < 46080) (u0 : 0 ≤ U) (l0 : 0 ≤ L ∧ L ≤ 138240) : 0 ≤ nw b U L ∧ nw b U L ≤ 3 := by unfold nw; omega
theorem nw_zero {b L : Int} (b0 : 0 ≤ b ∧ b < 46080) (l0 : 0 ≤ L) : nw b 0 L = 0 := by unfold nw; omega
theorem q211 (e : SEngine) (c : Int) : 0 ≤ beg e c ∧ beg e c < 46080 := by unfold beg; omega
theorem goV_mem (to : Int) : ∀ (f : Nat) (s : SScheduler) (o : List SSwitch), ∀ j ∈ (goV to f (o, s)).2.Jobs, ∃ k ∈ s.Jobs, st j = st k
  | 0, s, o, j, hj => ⟨j, hj, rfl⟩
  | f + 1, s, o, j, hj => by
    by_cases hy : (Tm.nxV s.Timer.Channels).2 = true ∧ (Tm.nxV s.Timer.Channels).1 ≤ to
    · have eg : goV to (f + 1) (o, s) = goV to f (o ++ Tm.advS (Tm.nxV s.Timer.Channels).1 s.Timer.Channels, stepG (Tm.nxV s.Timer.Channels).1 s) := by
        show (if _ then _ else _) = _
        rw [if_pos hy]
      rw [eg] at hj
      obtain ⟨k, hk, e⟩ := goV_mem to f _ _ j hj
      unfold stepG at hk
      have hm : st k ∈ (armV (put s (Tm.nxV s.Timer.Channels).1 (advU (Tm.nxV s.Timer.Channels).1 (s.Timer.Channels, s.Jobs)))).Jobs.map st := List.mem_map_of_mem hk
      rw [armV_st] at hm
      obtain ⟨k2, hk2, e2⟩ := List.mem_map.1 hm
      exact ⟨k2, (List.mem_filter.1 hk2).1, by rw [e, e2]⟩
    · have eg : goV to (f + 1) (o, s) = (o, s) := by
        show (if _ then _ else _) = _
        rw [if_neg hy]
      rw [eg] at hj
      exact ⟨j, hj, rfl⟩
theorem goE_mem (to : Int) (s : SScheduler) : ∀ j ∈ (goE to s).2.Jobs, ∃ k ∈ s.Jobs, st j = st k := goV_mem to s.Jobs.length s []
theorem q494 (d : Int) (l : List SJob) : fl (l.map (shiftJ d)) = fl l := by unfold fl; rw [List.map_map]; rfl
theorem left_fl (s : SScheduler) (c : SClock) (l : List SJob) (ch : Int) : fl (mine (leftJ s c l) ch) = fl (mine l ch) := by
  unfold leftJ
  cases s.Clock.Valid
  · rfl
  · simp only [cond_true]
    rw [q267, q494]
theorem fl_len (l : List SJob) : (fl l).length = l.length := by unfold fl; rw [List.length_map]
structure RI (e : SEngine) (next : List SFire) (a p sp L : Int) (K : Nat) (s : SScheduler) (out : List SSwitch) : Prop where
  ok : SchOk s
  eng : s.Engine = e
  cut : s.Cut = false
  clk : (K = 0 ∧ s.Clock.Valid = false ∧ s.Timer.Now = 0 ∧ s.Jobs = []) ∨ ∃ K0 g : Nat, K = K0 + g ∧ 1 ≤ g ∧ g ≤ 3 ∧ s.Clock = ck a p sp K0 g ∧ s.Timer.Now = a + (K0 : Int) * p ∧ (∀ j ∈ s.Jobs, j.Left + (K0 : Int) * sp < L + 46080) ∧
    ∀ (c : Nat) (j : SJob) (r : List SJob), c < 2 * e.Order.length → mine s.Jobs (c : Int) = j :: r → j.Left ≤ 0 → j.Armed = true ∧ j.At = s.Timer.Now + 1
  acc : ∀ c : Nat, c < 2 * e.Order.length → swc out (c : Int) ++ fl (mine s.Jobs (c : Int)) = pairs (wn e next (tk p sp) c * (nw (beg e (((c / 2 : Nat) : Int) + 1)) ((K : Int) * sp) L).toNat)
  sw : Sw (2 * e.Order.length) (-1) s.Timer.Now out
theorem upV_neg {x b : Int} (hx : x ≤ 0) (hb : 0 < b) : upV x b ≤ 0 := by
  unfold upV
  have : 0 ≤ (-x) / b := Int.ediv_nonneg (by omega) (by omega)
  omega
def Wishing (next : List SFire) (sp L : Int) (K g : Nat) (s : SScheduler) : Prop := (s.Next = next ∧ (K : Int) * sp + (g : Int) * sp ≤ L) ∨ (s.Next = [] ∧ L ≤ (K : Int) * sp)
theorem q495 {e : SEngine} {next : List SFire} {a p sp L : Int} {K g : Nat} {s : SScheduler} {out : List SSwitch} (P : Par a p sp) (hw : wishB e next = true) (hK : K ≤ 1500) (hKs : (K : Int) * sp ≤ 240000) (hg : 1 ≤ g ∧ g ≤ 3) (hL : 0 ≤ L ∧ L ≤ 138240)
    (hwn : ∀ c, c < 2 * e.Order.length → wn e next (tk p sp) c ≤ 2) (hN : Wishing next sp L K g s) (h : RI e next a p sp L K s out) :
    ∃ s' o, toothV s (ck a p sp K g) = (s', o, 0) ∧ RI e next a p sp L (K + g) s' (out ++ o) ∧ s'.Next = s.Next ∧ s'.Clock = ck a p sp K g ∧ o.length ≤ 16000 ∧
      (s.Next = [] → 0 < K → (∀ j ∈ s.Jobs, j.Left ≤ 0) → ∀ c : Nat, c < 2 * e.Order.length → (mine s'.Jobs (c : Int)).length ≤ (mine s.Jobs (c : Int)).length - 1) := by
  have hc := ck_ok P hK hg
  have hck : ClkOk (ck a p sp K g) := clkOk hc rfl
  have hG := q213 P hg
  have p0 := P.p0
  have a0 := P.a0
  have hm := q85 (A := 1500) (B := 40000) (show 0 ≤ (K : Int) by omega) (by omega) (show 0 ≤ p by omega) P.p1
  have hU : 0 ≤ (K : Int) * sp := Int.mul_nonneg (by omega) (by have := P.s0; omega)
  have hAt : (ck a p sp K g).At = a + (K : Int) * p := rfl
  have hlt : 0 < K → s.Timer.Now < a + (K : Int) * p := by
    intro hk0
    rcases h.clk with ⟨k0, _⟩ | ⟨K0, g0, k1, k2, _, _, k3, _⟩
    · omega
    · have e1 : (K : Int) * p = (K0 : Int) * p + (g0 : Int) * p := by rw [k1]; push_cast; rw [Int.add_mul]
      have e2 : 1 * 20 ≤ (g0 : Int) * p := Int.mul_le_mul (by omega) p0 (by omega) (by omega)
      omega
  have hle : s.Timer.Now ≤ (ck a p sp K g).At := by
    rw [hAt]
    rcases h.clk with ⟨k0, _, k1, _⟩ | ⟨K0, g0, k1, k2, _⟩
    · omega
    · have := hlt (by omega); omega
  have he : engP e := by rw [← h.eng]; exact h.ok.eng
  have hn8 := he.2.1
  have hnl : s.Engine.Order.length = e.Order.length := by rw [h.eng]
  have hlive : Live e.Order.length s := by have := Live.of h.ok; rw [hnl] at this; exact this
  have hlen := hlive.len
  obtain ⟨_, G⟩ := gone h.ok hck hle
  obtain ⟨S, F⟩ := q395 hlive (ck a p sp K g).At hle
  have hgm := goE_mem (ck a p sp K g).At s
  have hcut : (goE (ck a p sp K g).At s).2.Cut = false := by rw [G.cut]; exact h.cut
  have hnlv := q298 G h.ok hck rfl hcut
  have hor := q280 (mk (goE (ck a p sp K g).At s).2 (ck a p sp K g) (newJ s (ck a p sp K g) (goE (ck a p sp K g).At s).2))
  -- the jobs of a channel
  have hnJ : newJ s (ck a p sp K g) (goE (ck a p sp K g).At s).2 = leftJ s (ck a p sp K g) (goE (ck a p sp K g).At s).2.Jobs ++ e.Order.flatMap (addV e (ck a p sp K g) s.Next (tk p sp)) := by
    unfold newJ
    rw [G.eng, G.next, h.eng]; rfl
  have hx : ((K + g : Nat) : Int) * sp = (K : Int) * sp + (g : Int) * sp := by push_cast; rw [Int.add_mul]
  have hidle : s.Next = [] → e.Order.flatMap (addV e (ck a p sp K g) s.Next (tk p sp)) = [] := by
    intro h0
    rw [h0, List.flatMap_eq_nil_iff]
    intro x _
    unfold addV
    cases decide (dst (ck a p sp K g).Angle (beg e x) ≥ (ck a p sp K g).Ahead) <;> rfl
  have hacc : ∀ c : Nat, c < 2 * e.Order.length → swc (out ++ (goE (ck a p sp K g).At s).1) (c : Int) ++ fl (mine (newJ s (ck a p sp K g) (goE (ck a p sp K g).At s).2) (c : Int)) = pairs (wn e next (tk p sp) c * (nw (beg e (((c / 2 : Nat) : Int) + 1)) (((K + g : Nat) : Int) * sp) L).toNat) := by
    intro c hc2
    have hb := q211 e (((c / 2 : Nat) : Int) + 1)
    have hr := q361 hb hU hL
    have e1 : swc (out ++ (goE (ck a p sp K g).At s).1) (c : Int) ++ fl (mine (leftJ s (ck a p sp K g) (goE (ck a p sp K g).At s).2.Jobs) (c : Int)) = pairs (wn e next (tk p sp) c * (nw (beg e (((c / 2 : Nat) : Int) + 1)) ((K : Int) * sp) L).toNat) := by
      rw [left_fl, q306, List.append_assoc, F c hc2]
      exact h.acc c hc2
    rw [hnJ, q42, q481, ← List.append_assoc, e1, hx]
    rcases hN with ⟨q1, q2⟩ | ⟨q1, q2⟩
    · rw [q1, q424 he hw c hc2, addV_fl he hw c, nw_step hb hU (by omega) q2]
      show _ ++ (if dst (((K : Int) * sp) % 46080) (beg e (((c / 2 : Nat) : Int) + 1)) ≥ (g : Int) * sp then [] else pairs (wn e next (tk p sp) c)) = _
      by_cases hd : dst (((K : Int) * sp) % 46080) (beg e (((c / 2 : Nat) : Int) + 1)) ≥ (g : Int) * sp
      · rw [if_pos hd, if_pos hd, List.append_nil, Int.add_zero]
      · rw [if_neg hd, if_neg hd, ← q402, show (nw (beg e (((c / 2 : Nat) : Int) + 1)) ((K : Int) * sp) L + 1).toNat = (nw (beg e (((c / 2 : Nat) : Int) + 1)) ((K : Int) * sp) L).toNat + 1 by omega, Nat.mul_succ]
    · rw [hidle q1, nw_idle (by omega) q2]
      show _ ++ [] = _
      rw [List.append_nil]
  -- not too many
  have hU2 : 0 ≤ ((K + g : Nat) : Int) * sp := by rw [hx]; omega
  have h200 : (newJ s (ck a p sp K g) (goE (ck a p sp K g).At s).2).length ≤ 200 := by
    rw [hnl] at hnlv
    have hj := hnlv.rows.job
    rw [len_sum (2 * e.Order.length) _ fun j hj2 => by have := q414 (hj j hj2); omega]
    have := sum_le (fun c => (mine (newJ s (ck a p sp K g) (goE (ck a p sp K g).At s).2) (c : Int)).length) 12 (2 * e.Order.length) fun c hc2 => by
      have hl := congrArg List.length (hacc c hc2)
      rw [List.length_append, fl_len, q339] at hl
      have hr := q361 (L := L) (q211 e (((c / 2 : Nat) : Int) + 1)) hU2 hL
      have h1 := hwn c hc2
      have h2 : (nw (beg e (((c / 2 : Nat) : Int) + 1)) (((K + g : Nat) : Int) * sp) L).toNat ≤ 3 := by omega
      have h3 := Nat.mul_le_mul h1 h2
      show (mine (newJ s (ck a p sp K g) (goE (ck a p sp K g).At s).2) (c : Int)).length ≤ 12
      omega
    omega
  have htv : toothV s (ck a p sp K g) = (armV (mk (goE (ck a p sp K g).At s).2 (ck a p sp K g) (newJ s (ck a p sp K g) (goE (ck a p sp K g).At s).2)), (goE (ck a p sp K g).At s).1, 0) := by
    unfold toothV
    rw [q199.2 h.ok, hc, show (ck a p sp K g).Valid = true from rfl, decide_eq_false (show ¬ (ck a p sp K g).At < s.Timer.Now by omega)]
    simp only [Bool.not_true, Bool.or_self, cond_false]
    unfold toothG
    rw [hcut, decide_eq_false (show ¬ (((newJ s (ck a p sp K g) (goE (ck a p sp K g).At s).2).length : Int) > 200) by omega)]
    rfl
  have hok := q498 (s := s) (c := ck a p sp K g) (by rw [htv])
  rw [htv] at hok
  refine ⟨_, _, htv, ?_, hor.next.trans G.next, hor.clk, goE_len hlive _ hle, ?_⟩
  · have hmcl : (mk (goE (ck a p sp K g).At s).2 (ck a p sp K g) (newJ s (ck a p sp K g) (goE (ck a p sp K g).At s).2)).Timer.Channels.length = 2 * e.Order.length := by
      have := hnlv.len
      rw [hnl] at this; exact this
    have hnow : (armV (mk (goE (ck a p sp K g).At s).2 (ck a p sp K g) (newJ s (ck a p sp K g) (goE (ck a p sp K g).At s).2))).Timer.Now = a + (K : Int) * p := by
      have e0 : (mk (goE (ck a p sp K g).At s).2 (ck a p sp K g) (newJ s (ck a p sp K g) (goE (ck a p sp K g).At s).2)).Timer.Now = a + (K : Int) * p := G.now
      unfold armV
      split
      · exact e0
      · exact e0
    refine ⟨hok, hor.eng.trans (G.eng.trans h.eng), hor.cut.trans hcut, .inr ⟨K, g, rfl, hg.1, hg.2, hor.clk, hnow, fun j hj => ?_, fun c j r hc2 hq hlj => ?_⟩, fun c hc2 => ?_, ?_⟩
    · have hm2 : st j ∈ (armV (mk (goE (ck a p sp K g).At s).2 (ck a p sp K g) (newJ s (ck a p sp K g) (goE (ck a p sp K g).At s).2))).Jobs.map st := List.mem_map_of_mem hj
      rw [armV_st] at hm2
      obtain ⟨k, hk, ek⟩ := List.mem_map.1 hm2
      have hkl : k.Left = j.Left := congrArg Prod.snd ek
      have hk' : k ∈ newJ s (ck a p sp K g) (goE (ck a p sp K g).At s).2 := hk
      rw [← hkl]
      rw [hnJ] at hk'
      rcases List.mem_append.1 hk' with hk1 | hk1
      · rcases h.clk with ⟨k0, v0, _, j0⟩ | ⟨K0, g0, k1, k2, k3, k4, _, k6, _⟩
        · unfold leftJ at hk1
          rw [v0] at hk1
          obtain ⟨y, hy, _⟩ := hgm k hk1
          rw [j0] at hy; simp at hy
        · unfold leftJ at hk1
          have hv : s.Clock.Valid = true := by rw [k4]; rfl
          rw [hv] at hk1
          obtain ⟨y, hy, rfl⟩ := List.mem_map.1 hk1
          obtain ⟨z, hz, ez⟩ := hgm y hy
          have hyl : y.Left = z.Left := congrArg Prod.snd ez
          have hzb := k6 z hz
          have hG0 := q213 P (g := g0) ⟨k2, k3⟩
          have hd : dst s.Clock.Angle (ck a p sp K g).Angle = (g0 : Int) * sp := by
            rw [k4, k1]
            exact q433 K0 g0 sp (by omega) (by omega)
          have hKx : (K : Int) * sp = (K0 : Int) * sp + (g0 : Int) * sp := by rw [k1]; push_cast; rw [Int.add_mul]
          unfold shiftJ
          simp only
          rw [hd]
          unfold maxI
          split <;> omega
      · rcases hN with ⟨q1, q2⟩ | ⟨q1, _⟩
        · obtain ⟨x, hx1, hx2⟩ := List.mem_flatMap.1 hk1
          unfold addV at hx2
          cases hv : decide (dst (ck a p sp K g).Angle (beg e x) ≥ (ck a p sp K g).Ahead) <;> rw [hv] at hx2
          · have hv' := of_decide_eq_false hv
            simp only [cond_false, List.mem_flatMap] at hx2
            obtain ⟨f, _, hf⟩ := hx2
            unfold addF at hf
            obtain ⟨y, _, rfl⟩ := List.mem_map.1 hf
            have hy : dst (beg e f.Cylinder) y.Angle < 46080 := by unfold dst; omega
            have hah : (ck a p sp K g).Ahead = (g : Int) * sp := rfl
            unfold shJ
            simp only
            omega
          · simp at hx2
        · rw [hidle q1] at hk1; simp at hk1
    · rw [q334 (s := mk (goE (ck a p sp K g).At s).2 (ck a p sp K g) (newJ s (ck a p sp K g) (goE (ck a p sp K g).At s).2)) hcut c (by omega)] at hq
      have hq2 : (match mine (newJ s (ck a p sp K g) (goE (ck a p sp K g).At s).2) (c : Int) with
          | [] => []
          | j :: r => if j.Left > (ck a p sp K g).Ahead ∨ armAt (goE (ck a p sp K g).At s).2.Timer.Now (ck a p sp K g) j > 1099511627776 then j :: r else ⟨j.Event, j.Left, true, armAt (goE (ck a p sp K g).At s).2.Timer.Now (ck a p sp K g) j⟩ :: r) = j :: r := hq
      rw [G.now] at hq2
      have hah : (ck a p sp K g).Ahead = (g : Int) * sp := rfl
      rw [hnow]
      cases hmn : mine (newJ s (ck a p sp K g) (goE (ck a p sp K g).At s).2) (c : Int) with
      | nil => rw [hmn] at hq2; cases hq2
      | cons i q =>
        rw [hmn] at hq2
        simp only at hq2
        have harm : i.Left ≤ 0 → armAt (ck a p sp K g).At (ck a p sp K g) i = a + (K : Int) * p + 1 := by
          intro hi
          have hneg := upV_neg (x := i.Left * p) (b := sp) (Int.mul_nonpos_of_nonpos_of_nonneg hi (by omega)) (by have := P.s0; omega)
          unfold armAt maxI
          show (if a + (K : Int) * p + upV (i.Left * p) sp < a + (K : Int) * p + 1 then _ else _) = _
          split <;> omega
        split at hq2
        · rename_i hq3
          have hij : i = j := (List.cons.inj hq2).1
          subst hij
          have := harm hlj
          have a1 := P.a1
          rcases hq3 with hq3 | hq3
          · omega
          · omega
        · have hij := (List.cons.inj hq2).1
          subst hij
          exact ⟨rfl, harm hlj⟩
    · rw [fl_st (mine_st (c : Int) (armV_st _))]
      exact hacc c hc2
    · rw [hnow]
      exact h.sw.append S (by rcases h.clk with ⟨_, _, k1, _⟩ | ⟨K0, g0, _, _, _, _, k5, _⟩; omega; have := Int.mul_nonneg (show 0 ≤ (K0 : Int) by omega) (show 0 ≤ p by omega); omega) hle
  · intro hN0 hk0 hl c hc2
    rcases h.clk with ⟨k0, _⟩ | ⟨K0, g0, k1, k2, k3, k4, k5, k6, k7⟩
    · omega
    · have hrow : ∀ i (hi : i < s.Timer.Channels.length), (s.Timer.Channels[i].Armed = true → s.Timer.Channels[i].At = s.Timer.Now + 1) ∧ (mine s.Jobs (i : Int) ≠ [] → s.Timer.Channels[i].Armed = true) := by
        intro i hi
        have hr := hlive.rows.row i hi
        simp only at hr
        cases hq : mine s.Jobs (i : Int) with
        | nil =>
          rw [hq] at hr
          simp only [rowB, Bool.and_eq_true, Bool.not_eq_true'] at hr
          exact ⟨fun h2 => absurd (hr.2.symm.trans h2) (by decide), fun h2 => absurd rfl h2⟩
        | cons j r =>
          rw [hq] at hr
          have hjm : j ∈ s.Jobs := by
            have : j ∈ mine s.Jobs (i : Int) := by rw [hq]; simp
            exact (List.mem_filter.1 this).1
          obtain ⟨b1, b2⟩ := k7 i j r (by omega) hq (hl j hjm)
          simp only [rowB, Bool.and_eq_true, Bool.not_eq_true', Bool.or_eq_true, beq_iff_eq] at hr
          obtain ⟨⟨⟨_, r2⟩, r3⟩, _⟩ := hr
          have r3' : j.At = s.Timer.Channels[i].At := by
            rcases r3 with r3 | r3
            · rw [b1] at r3; cases r3
            · exact r3.1
          exact ⟨fun _ => by rw [← r3']; exact b2, fun _ => by rw [← r2]; exact b1⟩
      have hless := q497 hlive (ck a p sp K g).At (by rw [hAt]; exact hlt hk0) (fun x hx2 => by
        obtain ⟨i, hi, rfl⟩ := List.mem_iff_getElem.1 hx2
        exact (hrow i hi).1) c hc2 (fun x hx2 => by
        obtain ⟨hi, rfl⟩ := List.getElem?_eq_some_iff.1 hx2
        exact (hrow c hi).2)
      have e1 : (mine (armV (mk (goE (ck a p sp K g).At s).2 (ck a p sp K g) (newJ s (ck a p sp K g) (goE (ck a p sp K g).At s).2))).Jobs (c : Int)).length = (mine (newJ s (ck a p sp K g) (goE (ck a p sp K g).At s).2) (c : Int)).length := by
        have := congrArg List.length (mine_st (c : Int) (armV_st (mk (goE (ck a p sp K g).At s).2 (ck a p sp K g) (newJ s (ck a p sp K g) (goE (ck a p sp K g).At s).2))))
        rw [List.length_map, List.length_map] at this
        exact this
      have e2 := congrArg List.length (left_fl s (ck a p sp K g) (goE (ck a p sp K g).At s).2.Jobs (c : Int))
      rw [fl_len, fl_len] at e2
      rw [e1, hnJ, hidle hN0, List.append_nil, e2]
      exact hless
theorem RI.left {e : SEngine} {next : List SFire} {a p sp L : Int} {K K0 g : Nat} {s : SScheduler} {out : List SSwitch} (P : Par a p sp) (h : RI e next a p sp L K s out) (hc : s.Clock = ck a p sp K0 g) : ∀ j ∈ s.Jobs, j.Left + (K0 : Int) * sp < L + 46080 := by
  rcases h.clk with ⟨_, v, _⟩ | ⟨K1, g1, _, _, _, k4, _, k6, _⟩
  · rw [hc] at v; cases v
  · rw [hc] at k4
    have e1 : a + (K0 : Int) * p = a + (K1 : Int) * p := congrArg SClock.At k4
    have e2 : (K0 : Int) = (K1 : Int) := by
      have p0 := P.p0
      exact Int.eq_of_mul_eq_mul_right (a := p) (by omega) (by omega)
    rw [e2]; exact k6
theorem RI.few {e : SEngine} {next : List SFire} {a p sp L : Int} {K : Nat} {s : SScheduler} {out : List SSwitch} (P : Par a p sp) (hL : 0 ≤ L ∧ L ≤ 138240) (hwn : ∀ c, c < 2 * e.Order.length → wn e next (tk p sp) c ≤ 2) (h : RI e next a p sp L K s out) : ∀ c : Nat, c < 2 * e.Order.length → (mine s.Jobs (c : Int)).length ≤ 12 := by
  intro c hc2
  have hl := congrArg List.length (h.acc c hc2)
  rw [List.length_append, fl_len, q339] at hl
  have hr := q361 (L := L) (q211 e (((c / 2 : Nat) : Int) + 1)) (Int.mul_nonneg (show 0 ≤ (K : Int) by omega) (show 0 ≤ sp by have := P.s0; omega)) hL
  have h1 := hwn c hc2
  have h2 : (nw (beg e (((c / 2 : Nat) : Int) + 1)) ((K : Int) * sp) L).toNat ≤ 3 := by omega
  have h3 := Nat.mul_le_mul h1 h2
  omega
end Go.Pv.Sc
set_option linter.unusedSimpArgs false
namespace Go.Pv.Sc
open Go Go.Pv Go.Pv.Ev
theorem q447 {e : SEngine} {f : SFire} {t : Int} (he : engP e) (hf : fireP e f) : winV e f (beg e f.Cylinder) t = [] ∨
    (((winV e f (beg e f.Cylinder) t).filter fun x => chn x == 2 * (f.Cylinder - 1)).length = 2 ∧ ((winV e f (beg e f.Cylinder) t).filter fun x => chn x == 2 * (f.Cylinder - 1) + 1).length = 2 * (pul f).toNat) := by
  unfold winV
  cases h : (planV e [f] t).2 != 0
  · have hp := plan_ok he hf h
    have hop := (q249 (beg e f.Cylinder) (planV e [f] t).1).trans hp
    simp only [cond_false]
    cases ha : accB (beg e f.Cylinder) (ordW (beg e f.Cylinder) (planV e [f] t).1)
    · exact .inl rfl
    · right
      simp only [cond_true]
      generalize hW : ordW (beg e f.Cylinder) (planV e [f] t).1 = W at ha hop
      have hE : ∀ x ∈ W, evP x ∧ x.Cylinder = f.Cylinder := fun x hx => evs_ok (t := t) he hf x (hop.mem_iff.1 hx)
      have hk := q332 hop
      have fl := q368 hE
      rw [fl.1, fl.2]
      have l1 := hk.1.length_eq
      have l2 := hk.2.length_eq
      rw [List.length_map] at l1 l2
      refine ⟨by rw [l1]; rfl, ?_⟩
      rw [l2]
      rcases q134 f with h | h | h <;> (rw [h]; rfl)
  · exact .inl rfl
theorem wn_spec {e : SEngine} {next : List SFire} (t : Int) (he : engP e) (hw : wishB e next = true) (x : Nat) :
    (next.findIdx? (fun f => f.Cylinder == (x : Int) + 1) = none ∧ wn e next t (2 * x) = 0 ∧ wn e next t (2 * x + 1) = 0) ∨
    ∃ k f, next.findIdx? (fun f => f.Cylinder == (x : Int) + 1) = some k ∧ next[k]? = some f ∧ ((wn e next t (2 * x) = 0 ∧ wn e next t (2 * x + 1) = 0) ∨ (wn e next t (2 * x) = 1 ∧ wn e next t (2 * x + 1) = (pul f).toNat)) := by
  have d0 : 2 * x / 2 = x := by omega
  have d1 : (2 * x + 1) / 2 = x := by omega
  unfold wn
  rw [d0, d1]
  rcases q198 ((x : Int) + 1) (q217 hw) with ⟨a, b⟩ | ⟨k, f, a, _, c, d, b⟩
  · rw [b]
    exact .inl ⟨a, by simp [mine], by simp [mine]⟩
  · right
    rw [b]
    simp only [List.flatMap_cons, List.flatMap_nil, List.append_nil]
    rw [q278, q278]
    have hf := q132 hw f (List.mem_of_getElem? c)
    refine ⟨k, f, a, c, ?_⟩
    have e0 : ((2 * x : Nat) : Int) = 2 * (f.Cylinder - 1) := by rw [d]; omega
    have e1 : ((2 * x + 1 : Nat) : Int) = 2 * (f.Cylinder - 1) + 1 := by rw [d]; omega
    rw [e0, e1]
    rcases q447 (t := t) he hf with h | ⟨h1, h2⟩
    · rw [h]; exact .inl ⟨by simp, by simp⟩
    · rw [h1, h2]; exact .inr ⟨rfl, by omega⟩
theorem pul_le (f : SFire) : (pul f).toNat ≤ 2 := by rcases q134 f with h | h | h <;> (rw [h]; decide)
theorem wn_le {e : SEngine} {next : List SFire} (t : Int) (he : engP e) (hw : wishB e next = true) (c : Nat) : wn e next t c ≤ 2 := by
  have h := wn_spec t he hw (c / 2)
  rcases (show c = 2 * (c / 2) ∨ c = 2 * (c / 2) + 1 by omega) with hc | hc
  · rw [hc]
    rw [← hc] at h ⊢
    rcases h with ⟨_, h, _⟩ | ⟨k, f, _, _, h | h⟩
    · omega
    · omega
    · omega
  · rw [hc]
    rcases h with ⟨_, _, h⟩ | ⟨k, f, _, _, h | h⟩
    · omega
    · omega
    · have := pul_le f; omega
def clk (a p sp : Int) : Nat → List Nat → List SClock
  | _, [] => []
  | K, g :: gs => ck a p sp K g :: clk a p sp (K + g) gs
theorem q382 (a p sp : Int) : ∀ (x y : List Nat) (K : Nat), clk a p sp K (x ++ y) = clk a p sp K x ++ clk a p sp (K + x.sum) y
  | [], y, K => by simp [clk]
  | g :: x, y, K => by
    simp only [List.cons_append, clk, q382 a p sp x y (K + g), List.sum_cons]
    rw [Nat.add_assoc]
theorem q427 (a p sp : Int) (y : Nat) : ∀ (k K : Nat), clk a p sp K (List.replicate k 1 ++ [y]) = (List.range k).map (fun x => ck a p sp (K + x) 1) ++ [ck a p sp (K + k) y]
  | 0, K => rfl
  | k + 1, K => by
    rw [List.replicate_succ, List.cons_append, clk, q427 a p sp y k (K + 1), List.range_succ_eq_map, List.map_cons, List.map_map, List.cons_append]
    congr 1
    rw [show K + 1 + k = K + (k + 1) by omega]
    congr 1
    apply List.map_congr_left
    intro x _
    show ck a p sp (K + 1 + x) 1 = ck a p sp (K + (x + 1)) 1
    rw [show K + 1 + x = K + (x + 1) by omega]
def hg (T M : Nat) : List Nat := List.replicate (T - M - 1) 1 ++ [M + 1]
structure Wh (T M : Nat) (sp : Int) : Prop where
  m : M = 1 ∨ M = 2
  t0 : 12 ≤ T
  t1 : T ≤ 120
  tm : 8 * M ≤ T
  s : (T : Int) * sp = 23040
theorem hg_sum {T M : Nat} {sp : Int} (h : Wh T M sp) : (hg T M).sum = T ∧ (hg T M).length = T - M := by
  have h1 := h.m; have h2 := h.t0
  unfold hg
  rw [List.sum_append, List.length_append, List.length_replicate]
  have : ∀ k, (List.replicate k 1).sum = k := fun k => by induction k with | zero => rfl | succ k ih => rw [List.replicate_succ, List.sum_cons, ih]; omega
  rw [this]
  simp only [List.sum_cons, List.sum_nil, List.length_cons, List.length_nil]
  omega
theorem hg_mem {T M : Nat} {sp : Int} (h : Wh T M sp) : ∀ g ∈ hg T M, 1 ≤ g ∧ g ≤ 3 := by
  intro g hg2
  unfold hg at hg2
  have h1 := h.m
  rcases List.mem_append.1 hg2 with h3 | h3
  · have := List.eq_of_mem_replicate h3; omega
  · simp at h3; omega
theorem Wh.sp {T M : Nat} {sp : Int} (h : Wh T M sp) : 192 ≤ sp ∧ sp ≤ 1920 := by
  have h1 := h.t0; have h2 := h.t1; have h3 := h.s
  constructor
  · by_cases hh : 192 ≤ sp
    · exact hh
    · have : (T : Int) * sp ≤ 120 * 191 := by
        by_cases h0 : 0 ≤ sp
        · exact Int.mul_le_mul (by omega) (by omega) h0 (by omega)
        · have : (T : Int) * sp ≤ 0 := Int.mul_nonpos_of_nonneg_of_nonpos (by omega) (by omega)
          omega
      omega
  · by_cases hh : sp ≤ 1920
    · exact hh
    · have : 12 * 1921 ≤ (T : Int) * sp := Int.mul_le_mul (by omega) (by omega) (by omega) (by omega)
      omega
theorem turn_ck {a p sp : Int} {T M : Nat} (h : Wh T M sp) (hp : 0 ≤ p ∧ p ≤ 40000) (ha : 0 ≤ a ∧ a ≤ 1073741824) (i hf j : Nat) (hi : i ≤ 5) (hh : hf < 2) (hj : j < T) (g : Nat) (G : Int) (hG : G = (g : Int) * sp) :
    (⟨true, w64 (a + 2 * (i : Int) * T * p + (w64 ((w64 ((w64 ((hf : Int) * T)) + (j : Int))) * p))), w64 ((w64 ((hf : Int) * 23040)) + (w64 ((j : Int) * sp))), p, sp, G⟩ : SClock) = ck a p sp (2 * i * T + hf * T + j) g := by
  have h1 := h.t1; have h2 := h.s; have h3 := h.sp
  have hT : (hf : Int) * T = if hf = 0 then 0 else (T : Int) := by
    rcases (show hf = 0 ∨ hf = 1 by omega) with rfl | rfl <;> simp
  have hT0 : 0 ≤ (hf : Int) * T ∧ (hf : Int) * T ≤ 120 := by rw [hT]; split <;> omega
  have b1 := q85 (A := 240) (B := 40000) (show 0 ≤ (hf : Int) * T + j by omega) (by omega) hp.1 hp.2
  have hiT := q85 (A := 5) (B := 120) (show 0 ≤ (i : Int) by omega) (by omega) (show 0 ≤ (T : Int) by omega) (by omega)
  have b2 := q85 (A := 1200) (B := 40000) (show 0 ≤ 2 * ((i : Int) * T) by omega) (by omega) hp.1 hp.2
  have e2 : 2 * (i : Int) * T = 2 * ((i : Int) * T) := Int.mul_assoc ..
  have hjs : 0 ≤ (j : Int) * sp ∧ (j : Int) * sp < 23040 := by
    refine ⟨Int.mul_nonneg (by omega) (by omega), ?_⟩
    rw [← h2]
    exact Int.mul_lt_mul_of_pos_right (by omega) (by omega)
  rw [w64_of (n := (hf : Int) * T) (by omega) (by omega), w64_of (n := (hf : Int) * T + j) (by omega) (by omega), w64_of (n := ((hf : Int) * T + j) * p) (by omega) (by omega), w64_of (n := (hf : Int) * 23040) (by omega) (by omega), w64_of (n := (j : Int) * sp) (by omega) (by omega), w64_of (n := (hf : Int) * 23040 + (j : Int) * sp) (by omega) (by omega), hG, e2, w64_of (by omega) (by omega)]
  unfold ck
  have c1 : ((2 * i * T + hf * T + j : Nat) : Int) = 2 * ((i : Int) * T) + ((hf : Int) * T + j) := by push_cast; rw [Int.mul_assoc]; omega
  have c2 : ((2 * i * T + hf * T + j : Nat) : Int) * p = 2 * ((i : Int) * T) * p + ((hf : Int) * T + j) * p := by rw [c1, Int.add_mul]
  have c3 : ((2 * i * T + hf * T + j : Nat) : Int) * sp = 46080 * (i : Int) + (hf : Int) * 23040 + (j : Int) * sp := by
    rw [c1, Int.add_mul, Int.add_mul, Int.mul_assoc, Int.mul_assoc, h2, Int.mul_assoc, h2]; omega
  rw [c2, c3]
  congr 1
  · omega
  · omega
theorem q311 {a p sp : Int} {T M : Nat} (h : Wh T M sp) (hp : 0 ≤ p ∧ p ≤ 40000) (ha : 0 ≤ a ∧ a ≤ 1073741824) (i hf : Nat) (hi : i ≤ 5) (hh : hf < 2) (pre : List SClock) (hpre : pre.length ≤ 1000) :
    rangeN (((T - M : Nat)) : Int) (q112 ⟨(T : Int), (M : Int)⟩ p (a + 2 * (i : Int) * T * p) sp (pre, (hf : Int))) pre = some (.inl (pre ++ clk a p sp (2 * i * T + hf * T) (hg T M))) := by
  have h1 := h.m; have h2 := h.t0; have h3 := h.t1; have h4 := h.sp
  obtain ⟨u, eu, hu⟩ := rangeN_inv (R := Empty) (T - M) (by omega) (q112 ⟨(T : Int), (M : Int)⟩ p (a + 2 * (i : Int) * T * p) sp (pre, (hf : Int)))
    (fun j f => f = pre ++ (if j < T - M then (List.range j).map (fun x => ck a p sp (2 * i * T + hf * T + x) 1) else clk a p sp (2 * i * T + hf * T) (hg T M))) pre (by rw [if_pos (by omega)]; simp) (fun j hj f hf2 => by
      rw [if_pos hj] at hf2
      subst hf2
      unfold q112
      simp only
      rw [w64_of (n := (T : Int) - M) (by omega) (by omega), w64_of (n := (T : Int) - M - 1) (by omega) (by omega)]
      by_cases hl : j + 1 = T - M
      · rw [show ((j : Int) == (T : Int) - M - 1) = true by rw [beq_iff_eq]; omega]
        simp only [cond_true]
        rw [w64_of (n := (M : Int) + 1) (by omega) (by omega), w64_of (n := ((M : Int) + 1) * sp) (by rcases h1 with rfl | rfl <;> omega) (by rcases h1 with rfl | rfl <;> omega)]
        rw [turn_ck h hp ha i hf j hi hh (by omega) (M + 1) _ (by push_cast; rfl)]
        rw [appendM_ok _ _ (by simp; omega)]
        refine ⟨_, rfl, ?_⟩
        rw [if_neg (by omega)]
        unfold hg
        rw [q427, List.append_assoc, show T - M - 1 = j by omega]
      · rw [show ((j : Int) == (T : Int) - M - 1) = false by rw [beq_eq_false_iff_ne]; omega]
        simp only [cond_false]
        rw [turn_ck h hp ha i hf j hi hh (by omega) 1 sp (by omega)]
        rw [appendM_ok _ _ (by simp; omega)]
        refine ⟨_, rfl, ?_⟩
        rw [if_pos (by omega), List.range_succ, List.map_append, List.append_assoc]
        rfl)
  rw [eu, hu, if_neg (by omega)]
theorem clk_len (a p sp : Int) : ∀ (gs : List Nat) (K : Nat), (clk a p sp K gs).length = gs.length
  | [], _ => rfl
  | g :: gs, K => by simp [clk, clk_len a p sp gs]
theorem turn_eq {a p sp : Int} {T M : Nat} (h : Wh T M sp) (hp : 0 ≤ p ∧ p ≤ 40000) (ha : 0 ≤ a ∧ a ≤ 1073741824) (i : Nat) (hi : i ≤ 5) :
    q146 ⟨(T : Int), (M : Int)⟩ p (a + 2 * (i : Int) * T * p) = some (clk a p sp (2 * i * T) (hg T M ++ hg T M)) := by
  have h1 := h.m; have h2 := h.t0; have h3 := h.t1; have h4 := h.sp
  obtain ⟨s1, s2⟩ := hg_sum h
  have hq : quoM .i64 23040 (T : Int) = some sp := by
    rw [quo_eq (by omega) (by omega) (by omega)]
    congr 1
    rw [← h.s]
    exact Int.mul_ediv_cancel_left _ (by omega)
  unfold q146
  simp only
  rw [hq]
  simp only [Option.bind_some]
  have b0 : q39 ⟨(T : Int), (M : Int)⟩ p (a + 2 * (i : Int) * T * p) sp (([] : List SClock), 0) = some (.inl (clk a p sp (2 * i * T) (hg T M), 1)) := by
    unfold q39
    simp only
    rw [decide_eq_true (show (0 : Int) < 2 by decide), w64_of (n := (T : Int) - M) (by omega) (by omega), show (T : Int) - M = ((T - M : Nat) : Int) by omega]
    simp only [cond_true]
    have := q311 h hp ha i 0 hi (by omega) [] (by simp)
    rw [show ((0 : Nat) : Int) = 0 from rfl, Nat.zero_mul, Nat.add_zero, List.nil_append] at this
    rw [this]; rfl
  have b1 : q39 ⟨(T : Int), (M : Int)⟩ p (a + 2 * (i : Int) * T * p) sp (clk a p sp (2 * i * T) (hg T M), 1) = some (.inl (clk a p sp (2 * i * T) (hg T M ++ hg T M), 2)) := by
    unfold q39
    simp only
    rw [decide_eq_true (show (1 : Int) < 2 by decide), w64_of (n := (T : Int) - M) (by omega) (by omega), show (T : Int) - M = ((T - M : Nat) : Int) by omega]
    simp only [cond_true]
    have := q311 h hp ha i 1 hi (by omega) (clk a p sp (2 * i * T) (hg T M)) (by rw [clk_len]; omega)
    rw [show ((1 : Nat) : Int) = 1 from rfl, Nat.one_mul] at this
    rw [this, q382, s1]; rfl
  have b2 : q39 ⟨(T : Int), (M : Int)⟩ p (a + 2 * (i : Int) * T * p) sp (clk a p sp (2 * i * T) (hg T M ++ hg T M), 2) = some (.inr (.inl (clk a p sp (2 * i * T) (hg T M ++ hg T M), 2))) := by
    unfold q39
    simp only
    rw [decide_eq_false (show ¬ (2 : Int) < 2 by decide)]; rfl
  rw [loopM_next b0, loopM_next b1, loopM_out b2]
  rfl
theorem q398 {a p sp : Int} (I : Nat → Nat → SScheduler × List SSwitch → Prop) (B : Nat) : ∀ (gs : List Nat) (i K : Nat) (z : Int) (u : SScheduler × List SSwitch), K + gs.sum ≤ B → (∀ g ∈ gs, 1 ≤ g ∧ g ≤ 3) →
    (∀ i K g u, K + g ≤ B → 1 ≤ g ∧ g ≤ 3 → I i K u → ∃ s' o, q30 u.1 (ck a p sp K g) = some (s', o, 0) ∧ u.2.length + o.length ≤ 1073741824 ∧ I (i + 1) (K + g) (s', u.2 ++ o)) → I i K u →
    ∃ u', stepsL q121 (clk a p sp K gs) z u = some (.inl u') ∧ I (i + gs.length) (K + gs.sum) u'
  | [], i, K, z, u, _, _, _, hi => ⟨u, rfl, hi⟩
  | g :: gs, i, K, z, u, hB, hg, st, hi => by
    rw [List.sum_cons] at hB
    obtain ⟨s', o, e1, e2, e3⟩ := st i K g u (by omega) (hg g (List.mem_cons_self ..)) hi
    have hb : q121 z (ck a p sp K g) u = some (.next (s', u.2 ++ o)) := by
      unfold q121
      show Option.bind (q30 u.1 (ck a p sp K g)) _ = _
      rw [e1]
      simp only [Option.bind_some]
      rw [show (((0 : Int) != 0)) = false from rfl]
      simp only [cond_false]
      rw [appendM_ok _ _ e2]
      rfl
    obtain ⟨u', f1, f2⟩ := q398 I B gs (i + 1) (K + g) (z + 1) (s', u.2 ++ o) (by omega) (fun x hx => hg x (List.mem_cons_of_mem _ hx)) st e3
    refine ⟨u', ?_, by rw [List.length_cons, List.sum_cons, show i + (gs.length + 1) = i + 1 + gs.length by omega, show K + (g + gs.sum) = K + g + gs.sum by omega]; exact f2⟩
    simp only [clk, stepsL, hb, Option.bind_some]
    exact f1
end Go.Pv.Sc
set_option linter.unusedSimpArgs false
namespace Go.Pv.Sc
open Go Go.Pv Go.Pv.Ev
theorem ri_wish {e : SEngine} {next : List SFire} {a p sp L : Int} {K : Nat} {s : SScheduler} {out : List SSwitch} (h : RI e next a p sp L K s out) : RI e next a p sp L K (wishS s []) out :=
  ⟨⟨h.ok.eng, h.ok.clk, h.ok.tim, h.ok.chs, rfl, h.ok.most, h.ok.none, h.ok.job, h.ok.line⟩, h.eng, h.cut, h.clk, h.acc, h.sw⟩
theorem q509 {e : SEngine} {l : List SFire} {a p sp L : Int} (he : engP e) (hw : wishB e l = true) (hL : 0 ≤ L) : RI e l a p sp L 0 (wishS (newS e) l) [] := by
  have h := new_ok he
  refine ⟨⟨h.eng, h.clk, h.tim, h.chs, hw, h.most, h.none, h.job, h.line⟩, rfl, rfl, .inl ⟨rfl, rfl, rfl, rfl⟩, fun c hc => ?_, Sw.nil _ _ _⟩
  rw [show ((0 : Nat) : Int) * sp = 0 from Int.zero_mul sp, nw_zero (q211 e _) hL]
  rfl
theorem bnd {α : Type} (o : Option α) : (Option.bind o fun t => some t) = o := by cases o <;> rfl
theorem run_all {e : SEngine} {l : List SFire} {a p sp : Int} {T M : Nat} (he : engP e) (hw : wishB e l = true) (hl8 : l.length ≤ 8) (W : Wh T M sp) (P : Par a p sp) (cyc : Nat) (hc : 1 ≤ cyc ∧ cyc ≤ 3)
    (X : Nat → SScheduler → List SSwitch → Prop) (x0 : X 0 (wishS (newS e) l) []) (xw : ∀ K s out, X K s out → X K (wishS s []) out)
    (xs : ∀ K g s out s' o, K ≤ 1200 → 1 ≤ g ∧ g ≤ 3 → RI e l a p sp (46080 * (cyc : Int)) K s out → Wishing l sp (46080 * (cyc : Int)) K g s → toothV s (ck a p sp K g) = (s', o, 0) → X K s out → X (K + g) s' (out ++ o)) :
    ∃ s out, q118 e ⟨(T : Int), (M : Int)⟩ p a (cyc : Int) l = some (out, true) ∧ RI e l a p sp (46080 * (cyc : Int)) (2 * (cyc + 2) * T) s out ∧ s.Jobs = [] ∧ X (2 * (cyc + 2) * T) s out ∧ out.length ≤ 1073741824 := by
  have hT0 := W.t0; have hT1 := W.t1; have hM := W.m; have hTs := W.s; have hsp := W.sp
  have hp0 := P.p0; have hp1 := P.p1; have ha0 := P.a0; have ha1 := P.a1
  obtain ⟨hs1, hs2⟩ := hg_sum W
  have hwn : ∀ c, c < 2 * e.Order.length → wn e l (tk p sp) c ≤ 2 := fun c _ => wn_le _ he hw c
  have hL : 0 ≤ 46080 * (cyc : Int) ∧ 46080 * (cyc : Int) ≤ 138240 := by omega
  have hKs : ∀ k : Nat, ((2 * k * T : Nat) : Int) * sp = 46080 * (k : Int) := fun k => by
    push_cast
    rw [Int.mul_assoc, hTs]; omega
  have hKT : ∀ k : Nat, k ≤ 5 → 2 * k * T ≤ 1200 := fun k hk => by
    have := Nat.mul_le_mul (show 2 * k ≤ 10 by omega) hT1
    omega
  have hmono : ∀ x y : Nat, x ≤ y → (x : Int) * sp ≤ (y : Int) * sp := fun x y h => Int.mul_le_mul_of_nonneg_right (by omega) (by omega)
  have hen := he.2.1
  obtain ⟨u, eu, hu⟩ := rangeN_inv (R := List SSwitch × Bool) (cyc + 2) (by omega) (q123 ⟨(T : Int), (M : Int)⟩ p a (cyc : Int))
    (fun i u => RI e l a p sp (46080 * (cyc : Int)) (2 * i * T) u.2 u.1 ∧ X (2 * i * T) u.2 u.1 ∧ u.2.Next = (if i ≤ cyc then l else []) ∧ u.1.length ≤ 16000 * (2 * i * T) ∧ (i = cyc + 2 → u.2.Jobs = []))
    ([], wishS (newS e) l) ⟨by rw [Nat.mul_zero, Nat.zero_mul]; exact q509 he hw hL.1, by rw [Nat.mul_zero, Nat.zero_mul]; exact x0, by rw [if_pos (by omega)]; rfl, by simp, fun h => by omega⟩ (fun i hi u ⟨u1, u2, u3, u4, _⟩ => by
      have hiT := hKT i (by omega)
      -- the wish
      obtain ⟨s2, w1, w2, w3, w4⟩ : ∃ s2 : SScheduler, (Option.bind (bif ((i : Int) == (cyc : Int)) then (Option.bind (q32 u.2 ([] : List SFire)) fun r4 => bif (r4.2 != 0) then (some (Sum.inr (([] : List SSwitch), false))) else (some (Sum.inl r4.1))) else (some (Sum.inl u.2))) fun (t : SScheduler ⊕ (List SSwitch × Bool)) => some t) = some (.inl s2) ∧ RI e l a p sp (46080 * (cyc : Int)) (2 * i * T) s2 u.1 ∧ X (2 * i * T) s2 u.1 ∧ s2.Next = (if i < cyc then l else []) := by
        by_cases hic : i = cyc
        · rw [show ((i : Int) == (cyc : Int)) = true by rw [beq_iff_eq]; omega]
          simp only [cond_true]
          rw [q362 u.2 [] (by rw [u3]; split <;> first | omega | simp) (by have := u1.ok.most; omega) (by simp), q199.2 u1.ok, show wishB u.2.Engine ([] : List SFire) = true from rfl]
          exact ⟨wishS u.2 [], rfl, ri_wish u1, xw _ _ _ u2, by rw [if_neg (by omega)]; rfl⟩
        · rw [show ((i : Int) == (cyc : Int)) = false by rw [beq_eq_false_iff_ne]; omega]
          refine ⟨u.2, rfl, u1, u2, ?_⟩
          rw [u3]
          by_cases h : i < cyc
          · rw [if_pos (by omega), if_pos h]
          · rw [if_neg (by omega), if_neg h]
      have hb1 := q85 (A := 5) (B := 120) (show 0 ≤ (i : Int) by omega) (by omega) (show 0 ≤ (T : Int) by omega) (by omega)
      have hb2 := q85 (A := 1200) (B := 40000) (show 0 ≤ 2 * ((i : Int) * T) by omega) (by omega) (show 0 ≤ p by omega) hp1
      have hat : w64 (a + (w64 ((w64 ((w64 (2 * (i : Int))) * (T : Int))) * p))) = a + 2 * (i : Int) * T * p := by
        rw [w64_of (n := 2 * (i : Int)) (by omega) (by omega), Int.mul_assoc 2, w64_of (n := 2 * ((i : Int) * T)) (by omega) (by omega), w64_of (n := 2 * ((i : Int) * T) * p) (by omega) (by omega), w64_of (by omega) (by omega)]
      obtain ⟨v, f1, f2⟩ := q398 (a := a) (p := p) (sp := sp)
        (fun idx K v => RI e l a p sp (46080 * (cyc : Int)) K v.1 v.2 ∧ X K v.1 v.2 ∧ v.1.Next = (if i < cyc then l else []) ∧ v.2.length ≤ 16000 * K ∧ 2 * i * T ≤ K ∧ (i = cyc + 1 → (∀ c : Nat, c < 2 * e.Order.length → (mine v.1.Jobs (c : Int)).length ≤ 13 - idx) ∧ (1 ≤ idx → ∀ j ∈ v.1.Jobs, j.Left ≤ 0)))
        (2 * (i + 1) * T) (hg T M ++ hg T M) 0 (2 * i * T) 0 (s2, u.1) (by rw [List.sum_append, hs1]; have : 2 * (i + 1) * T = 2 * i * T + (T + T) := by rw [Nat.mul_add, Nat.add_mul]; omega
                                                                           omega)
        (fun g hg2 => by
          rcases List.mem_append.1 hg2 with h | h
          · exact hg_mem W g h
          · exact hg_mem W g h) (fun idx K g v hKg hg2 ⟨v1, v2, v3, v4, v5, v6⟩ => by
          have hK1 : K + g ≤ 1200 := Nat.le_trans hKg (hKT (i + 1) (by omega))
          have hKi : ((K + g : Nat) : Int) * sp ≤ 46080 * ((i + 1 : Nat) : Int) := by rw [← hKs]; exact hmono _ _ hKg
          have hKl : 46080 * (i : Int) ≤ (K : Int) * sp := by rw [← hKs]; exact hmono _ _ v5
          have hx : ((K + g : Nat) : Int) * sp = (K : Int) * sp + (g : Int) * sp := by push_cast; rw [Int.add_mul]
          have hgp := q213 P hg2
          have hwsh : Wishing l sp (46080 * (cyc : Int)) K g v.1 := by
            by_cases h : i < cyc
            · left
              rw [if_pos h] at v3
              exact ⟨v3, by omega⟩
            · right
              rw [if_neg h] at v3
              exact ⟨v3, by omega⟩
          obtain ⟨s', o, t1, t2, t3, t4, t5, t6⟩ := q495 P hw (by omega) (by omega) hg2 hL hwn hwsh v1
          have hnx : v.1.Next.length ≤ 8 := by rw [v3]; split <;> first | omega | simp
          refine ⟨s', o, by rw [q347 _ _ (by omega) (by have := v1.ok.most; omega), t1], by omega, t2, xs K g _ _ s' o (by omega) hg2 v1 hwsh t1 v2, by rw [t3]; exact v3, by rw [List.length_append]; omega, by omega, fun hic => ?_⟩
          have hv6 := v6 hic
          have hN0 : v.1.Next = [] := by rw [v3, if_neg (by omega)]
          refine ⟨fun c hc2 => ?_, fun _ j hj => ?_⟩
          · by_cases h0 : idx = 0
            · have := t2.few P hL hwn c hc2
              show (mine s'.Jobs (c : Int)).length ≤ _
              omega
            · have h1 := t6 hN0 (by
                have : 0 < 2 * i * T := Nat.mul_pos (by omega) (by omega)
                omega) (hv6.2 (by omega)) c hc2
              have h2 := hv6.1 c hc2
              show (mine s'.Jobs (c : Int)).length ≤ _
              omega
          · have := t2.left P t4 j hj
            omega) ⟨w2, w3, w4, u4, Nat.le_refl _, fun hic => ⟨fun c hc2 => by have := w2.few P hL hwn c hc2; show (mine s2.Jobs (c : Int)).length ≤ _; omega, fun h => by omega⟩⟩
      obtain ⟨v1, v2, v3, v4, _, v6⟩ := f2
      have hgs : (hg T M ++ hg T M).sum = T + T := by rw [List.sum_append, hs1]
      have hgl : (hg T M ++ hg T M).length = (T - M) + (T - M) := by rw [List.length_append, hs2]
      rw [hgs] at v1 v2 v4
      rw [hgl] at v6
      have hend : 2 * i * T + (T + T) = 2 * (i + 1) * T := by rw [Nat.mul_add, Nat.add_mul]; omega
      rw [hend] at v1 v2 v4
      refine ⟨(v.2, v.1), ?_, v1, v2, ?_, v4, fun hic => ?_⟩
      · unfold q123
        have w1' : (bif ((i : Int) == (cyc : Int)) then (Option.bind (q32 u.2 ([] : List SFire)) fun r4 => bif (r4.2 != 0) then (some (Sum.inr (([] : List SSwitch), false))) else (some (Sum.inl r4.1))) else (some (Sum.inl u.2))) = some (.inl s2 : SScheduler ⊕ (List SSwitch × Bool)) := by
          rw [bnd] at w1; exact w1
        show Option.bind (bif ((i : Int) == (cyc : Int)) then (Option.bind (q32 u.2 ([] : List SFire)) fun r4 => bif (r4.2 != 0) then (some (Sum.inr (([] : List SSwitch), false))) else (some (Sum.inl r4.1))) else (some (Sum.inl u.2))) _ = _
        rw [w1']
        simp only [Option.bind_some]
        rw [hat, turn_eq W ⟨by omega, hp1⟩ ⟨ha0, ha1⟩ i (by omega)]
        simp only [Option.bind_some]
        rw [rangeM_steps _ (by rw [clk_len, hgl]; omega), f1]
        rfl
      · rw [v3]
        by_cases h : i < cyc
        · rw [if_pos h, if_pos (by omega)]
        · rw [if_neg h, if_neg (by omega)]
      · have hlive := Live.of v1.ok
        have hjl := len_sum (2 * e.Order.length) v.1.Jobs (fun j hj => by
          have := q414 (hlive.rows.job j hj)
          rw [v1.eng] at this
          omega)
        have h0 := sum_le (fun c => (mine v.1.Jobs (c : Int)).length) 0 (2 * e.Order.length) (fun c hc2 => by
          have := (v6 (by omega)).1 c hc2
          show (mine v.1.Jobs (c : Int)).length ≤ 0
          omega)
        show v.1.Jobs = []
        apply List.eq_nil_of_length_eq_zero
        omega)
  obtain ⟨u1, u2, u3, u4, u5⟩ := hu
  refine ⟨u.2, u.1, ?_, u1, u5 rfl, u2, by have := hKT (cyc + 2) (by omega); omega⟩
  unfold q118
  rw [snew_eq, decide_eq_true he]
  simp only [cond_true, Option.bind_some]
  rw [show (((0 : Int) != 0)) = false from rfl]
  simp only [cond_false]
  show Option.bind (q32 (newS e) l) _ = _
  rw [q362 (newS e) l (by simp [newS]) (by simp [newS]) (by omega), q199.2 (new_ok he), show (newS e).Engine = e from rfl, hw]
  simp only [Bool.and_self, cond_true, Option.bind_some]
  rw [show (((0 : Int) != 0)) = false from rfl, w64_of (n := (cyc : Int) + 2) (by omega) (by omega), show (cyc : Int) + 2 = ((cyc + 2 : Nat) : Int) by omega]
  simp only [cond_false]
  show Option.bind (rangeN ((cyc + 2 : Nat) : Int) (q123 ⟨(T : Int), (M : Int)⟩ p a (cyc : Int)) ([], wishS (newS e) l)) _ = _
  rw [eu]
  simp only [Option.bind_some]
  rw [u5 rfl]
  rfl
end Go.Pv.Sc
set_option linter.unusedSimpArgs false
namespace Go.Pv.Sc
open Go Go.Pv Go.Pv.Ev
theorem q270 {x y b : Int} (h : x ≤ y) (hb : 0 < b) : upV x b ≤ upV y b := by
  unfold upV
  have : (-y) / b ≤ (-x) / b := Int.ediv_le_ediv hb (by omega)
  omega
theorem upV_add {x b : Int} (m : Int) (hb : 0 < b) : upV (x + m * b) b = upV x b + m := by
  unfold upV
  rw [show -(x + m * b) = -x + (-m) * b by rw [Int.neg_mul]; omega, Int.add_mul_ediv_right _ _ (by omega)]
  omega
theorem upV_pos {x b : Int} (h : 0 < x) (hb : 0 < b) : 1 ≤ upV x b := by
  unfold upV
  have : (-x) / b < 0 := Int.ediv_neg_of_neg_of_pos (by omega) hb
  omega
theorem upV_ge {x b : Int} (h : 0 ≤ x) (hb : 0 < b) : 0 ≤ upV x b := by
  have := q270 h hb
  have e : upV 0 b = 0 := by unfold upV; rw [Int.neg_zero, Int.zero_ediv]; rfl
  omega
def tau (a p sp : Int) (K : Nat) (j : SJob) : Int := a + (K : Int) * p + upV (j.Left * p) sp
theorem tau_st {a p sp : Int} {K : Nat} {i j : SJob} (h : st i = st j) : tau a p sp K i = tau a p sp K j := by
  have : i.Left = j.Left := congrArg Prod.snd h
  unfold tau; rw [this]
theorem tau_abs {a p sp : Int} (hs : 0 < sp) (K : Nat) (j : SJob) : tau a p sp K j = a + upV (((K : Int) * sp + j.Left) * p) sp := by
  unfold tau
  rw [show ((K : Int) * sp + j.Left) * p = j.Left * p + ((K : Int) * p) * sp by rw [Int.add_mul, Int.mul_assoc, Int.mul_comm sp p, ← Int.mul_assoc]; omega, upV_add _ hs]
  omega
theorem arm_tau (a p sp now : Int) (K g : Nat) (j : SJob) : armAt now (ck a p sp K g) j = max (tau a p sp K j) (now + 1) := by
  unfold armAt tau maxI ck
  simp only
  split <;> omega
theorem tau_far {a p sp : Int} {K g : Nat} {j : SJob} (hs : 0 < sp) (hp : 0 < p) (h : (g : Int) * sp < j.Left) : a + ((K + g : Nat) : Int) * p < tau a p sp K j := by
  unfold tau
  have e : j.Left * p = (j.Left - (g : Int) * sp) * p + ((g : Int) * p) * sp := by rw [Int.sub_mul, Int.mul_assoc, Int.mul_comm sp p, ← Int.mul_assoc]; omega
  rw [e, upV_add _ hs]
  have := upV_pos (x := (j.Left - (g : Int) * sp) * p) (b := sp) (Int.mul_pos (by omega) hp) hs
  have e2 : ((K + g : Nat) : Int) * p = (K : Int) * p + (g : Int) * p := by push_cast; rw [Int.add_mul]
  omega
theorem q528 {a p sp : Int} (P : Par a p sp) {K : Nat} (hK : K ≤ 1500) {j : SJob} (hj : j.Left ≤ 1048576) : tau a p sp K j ≤ 1099511627775 := by
  have h1 := P.a1; have h2 := P.p0; have h3 := P.p1; have h4 := P.s0
  have m := q85 (A := 1500) (B := 40000) (show 0 ≤ (K : Int) by omega) (by omega) (show 0 ≤ p by omega) h3
  have m2 : j.Left * p ≤ 1048576 * 40000 := by
    by_cases h0 : 0 ≤ j.Left
    · exact Int.mul_le_mul hj h3 (by omega) (by omega)
    · have : j.Left * p ≤ 0 := Int.mul_nonpos_of_nonpos_of_nonneg (by omega) (by omega)
      omega
  have := q270 (b := sp) m2 (by omega)
  have e : upV (1048576 * 40000) sp ≤ 1048576 * 40000 := by
    unfold upV
    have : -(1048576 * 40000) ≤ (-(1048576 * 40000)) / sp := by
      rw [Int.le_ediv_iff_mul_le (by omega)]
      omega
    omega
  unfold tau
  omega
structure QB (τ : SJob → Int) (now : Int) (q : List SJob) : Prop where
  on : ∀ j ∈ q, now ≤ τ j
  off : ∀ j ∈ q, onK j.Event.Kind = false → now < τ j
  ord : q.Pairwise fun i k => τ i ≤ τ k ∧ (onK i.Event.Kind = true → τ i + 2 ≤ τ k) ∧ (onK k.Event.Kind = false → τ i + 1 ≤ τ k)
def AO (τ : SJob → Int) (Ah now : Int) (q : List SJob) : Prop := ∀ j r, q = j :: r → (j.Left ≤ Ah → j.Armed = true ∧ j.At = max (τ j) (now + 1)) ∧ (Ah < j.Left → j.Armed = false)
def armQ (now : Int) (k : SClock) (q : List SJob) : List SJob := match q with
  | [] => []
  | j :: r => if j.Left > k.Ahead ∨ armAt now k j > 1099511627776 then j :: r else ⟨j.Event, j.Left, true, armAt now k j⟩ :: r
theorem armQ_st (now : Int) (k : SClock) (q : List SJob) : (armQ now k q).map st = q.map st := by
  cases q with
  | nil => rfl
  | cons j r =>
    simp only [armQ]
    split <;> rfl
theorem qb_st {a p sp now : Int} {K : Nat} {x y : List SJob} (h : x.map st = y.map st) (hq : QB (tau a p sp K) now x) : QB (tau a p sp K) now y := by
  have key : ∀ l : List SJob, QB (tau a p sp K) now l ↔ ((∀ z ∈ l.map st, now ≤ a + (K : Int) * p + upV (z.2 * p) sp) ∧ (∀ z ∈ l.map st, onK z.1.Kind = false → now < a + (K : Int) * p + upV (z.2 * p) sp) ∧
      (l.map st).Pairwise fun i k => a + (K : Int) * p + upV (i.2 * p) sp ≤ a + (K : Int) * p + upV (k.2 * p) sp ∧ (onK i.1.Kind = true → a + (K : Int) * p + upV (i.2 * p) sp + 2 ≤ a + (K : Int) * p + upV (k.2 * p) sp) ∧ (onK k.1.Kind = false → a + (K : Int) * p + upV (i.2 * p) sp + 1 ≤ a + (K : Int) * p + upV (k.2 * p) sp)) := by
    intro l
    constructor
    · intro h
      refine ⟨fun z hz => ?_, fun z hz => ?_, ?_⟩
      · obtain ⟨j, hj, rfl⟩ := List.mem_map.1 hz; exact h.on j hj
      · obtain ⟨j, hj, rfl⟩ := List.mem_map.1 hz; exact h.off j hj
      · rw [List.pairwise_map]; exact h.ord
    · rintro ⟨h1, h2, h3⟩
      refine ⟨fun j hj => h1 _ (List.mem_map_of_mem hj), fun j hj => h2 _ (List.mem_map_of_mem hj), ?_⟩
      rw [List.pairwise_map] at h3; exact h3
  rw [key] at hq ⊢
  rw [← h]; exact hq
theorem armQ_ok {a p sp now : Int} (P : Par a p sp) {K g : Nat} {q : List SJob} (hK : K ≤ 1500) (hq : ∀ j ∈ q, j.Left ≤ 1048576) (hnow : now ≤ 1099511627775) (hu : ∀ j r, q = j :: r → (ck a p sp K g).Ahead < j.Left → j.Armed = false) : AO (tau a p sp K) (ck a p sp K g).Ahead now (armQ now (ck a p sp K g) q) := by
  intro j r e
  cases q with
  | nil => cases e
  | cons i q =>
    have hm := q528 P hK (hq i (List.mem_cons_self ..))
    have ha := arm_tau a p sp now K g i
    simp only [armQ] at e
    split at e
    · rename_i hc
      have hij := (List.cons.inj e).1
      subst hij
      refine ⟨fun h => ?_, fun h => hu i q rfl h⟩
      rcases hc with hc | hc
      · omega
      · rw [ha] at hc; omega
    · have hij := (List.cons.inj e).1
      subst hij
      refine ⟨fun _ => ⟨rfl, ?_⟩, fun h => ?_⟩
      · show armAt now (ck a p sp K g) i = max (tau a p sp K i) (now + 1)
        exact ha
      · rename_i hc
        exact absurd (.inl h) hc
theorem q_step {a p sp now t : Int} (P : Par a p sp) {K g : Nat} {q : List SJob} {x : SChannel} (hrow : rowB q x = true) (hb : QB (tau a p sp K) now q) (ha : AO (tau a p sp K) ((g : Int) * sp) now q) (hn : now < t) (ht : t ≤ a + ((K + g : Nat) : Int) * p) (hmin : x.Armed = true → t ≤ x.At) :
    QB (tau a p sp K) t (q.filter fun j => !dueJ t j) ∧ (∀ j r, (q.filter fun j => !dueJ t j) = j :: r → (g : Int) * sp < j.Left → j.Armed = false) ∧
      (x.Armed = true → x.At = t → ∀ j r, q = j :: r → onK j.Event.Kind = false → t = tau a p sp K j) := by
  have hp : 0 < p := by have := P.p0; omega
  have hs : 0 < sp := by have := P.s0; omega
  obtain ⟨_, _, r3, r4⟩ := q268 0 hrow hmin
  by_cases hd : x.Armed = true ∧ x.At = t
  · obtain ⟨j, r, e1, e2, _⟩ := r3 hd.1 hd.2
    rw [e2]
    subst e1
    have hr := hrow
    simp only [rowB, Bool.and_eq_true, Bool.not_eq_true', Bool.or_eq_true, beq_iff_eq] at hr
    obtain ⟨⟨⟨_, q2⟩, q3⟩, q4⟩ := hr
    have hja : j.Armed = true := by rw [q2]; exact hd.1
    have hjt : j.At = t := by
      rcases q3 with q3 | q3
      · rw [hja] at q3; cases q3
      · rw [q3.1]; exact hd.2
    obtain ⟨a1, a2⟩ := ha j r rfl
    have hle : j.Left ≤ (g : Int) * sp := by
      by_cases h : j.Left ≤ (g : Int) * sp
      · exact h
      · have := a2 (by omega)
        rw [hja] at this; cases this
    have hat := (a1 hle).2
    have hon := hb.on j (List.mem_cons_self ..)
    have hoff := hb.off j (List.mem_cons_self ..)
    have hord := List.pairwise_cons.1 hb.ord
    have hte : onK j.Event.Kind = false → t = tau a p sp K j := fun h => by have := hoff h; omega
    refine ⟨⟨fun k hk => ?_, fun k hk hko => ?_, hord.2⟩, fun k s e hk => ?_, fun _ _ j' r' e ho => ?_⟩
    · have := hord.1 k hk
      cases ho : onK j.Event.Kind
      · have := hte ho; omega
      · have := this.2.1 ho; omega
    · have hjk := hord.1 k hk
      cases ho : onK j.Event.Kind
      · have := hte ho; have := hjk.2.2 hko; omega
      · have := hjk.2.1 ho; omega
    · have := q195 q4 k (by rw [e]; simp)
      exact this
    · have hij := (List.cons.inj e).1
      subst hij
      exact hte ho
  · obtain ⟨e1, _⟩ := r4 hd
    rw [e1]
    -- the first is not late
    have hfirst : ∀ j r, q = j :: r → t + 1 ≤ tau a p sp K j := by
      intro j r e
      subst e
      obtain ⟨a1, a2⟩ := ha j r rfl
      by_cases hle : j.Left ≤ (g : Int) * sp
      · obtain ⟨b1, b2⟩ := a1 hle
        have hr := hrow
        simp only [rowB, Bool.and_eq_true, Bool.not_eq_true', Bool.or_eq_true, beq_iff_eq] at hr
        obtain ⟨⟨⟨_, q2⟩, q3⟩, _⟩ := hr
        have hxa : x.Armed = true := by rw [← q2]; exact b1
        have hxt : j.At = x.At := by
          rcases q3 with q3 | q3
          · rw [b1] at q3; cases q3
          · exact q3.1
        have := hmin hxa
        have : x.At ≠ t := fun h => hd ⟨hxa, h⟩
        omega
      · have := tau_far (a := a) (K := K) hs hp (show (g : Int) * sp < j.Left by omega)
        omega
    refine ⟨?_, fun j r e h => ((ha j r e).2 h), fun h1 h2 => absurd ⟨h1, h2⟩ hd⟩
    cases q with
    | nil => exact ⟨by simp, by simp, .nil⟩
    | cons j r =>
      have hf := hfirst j r rfl
      have hord := List.pairwise_cons.1 hb.ord
      refine ⟨fun k hk => ?_, fun k hk _ => ?_, hb.ord⟩
      · rcases List.mem_cons.1 hk with rfl | hk
        · omega
        · have := (hord.1 k hk).1; omega
      · rcases List.mem_cons.1 hk with rfl | hk
        · omega
        · have := (hord.1 k hk).1; omega
theorem q_end {a p sp now to : Int} (P : Par a p sp) {K g : Nat} {q : List SJob} {x : SChannel} (hrow : rowB q x = true) (hb : QB (tau a p sp K) now q) (ha : AO (tau a p sp K) ((g : Int) * sp) now q) (hn : now ≤ to) (ht : to ≤ a + ((K + g : Nat) : Int) * p) (hmin : x.Armed = true → to < x.At) : QB (tau a p sp K) to q := by
  rcases Int.lt_or_eq_of_le hn with h | h
  · have hp : 0 < p := by have := P.p0; omega
    have hs : 0 < sp := by have := P.s0; omega
    have := (q_step P hrow hb ha h ht (fun h2 => by have := hmin h2; omega)).1
    have e := (q268 0 hrow (t := to) (fun h2 => by have := hmin h2; omega)).2.2.2 (fun h2 => by have := hmin h2.1; omega)
    rw [e.1] at this
    exact this
  · rw [← h]; exact hb
end Go.Pv.Sc
set_option linter.unusedSimpArgs false
namespace Go.Pv.Sc
open Go Go.Pv Go.Pv.Ev
theorem kpP_two {a b : Int × Int} (h : kpP 1 2 [a, b] 0 1 = true) : a.1 = 1 ∧ b.1 = 2 := by
  simp only [kpP, Bool.and_eq_true, beq_iff_eq] at h
  obtain ⟨⟨h1, _⟩, ⟨h2, _⟩, _⟩ := h
  exact ⟨h1, by omega⟩
theorem evs_one {e : SEngine} {t : Int} {f : SFire} {x : SEvent} (h : x ∈ evs e t f) (hk : x.Kind = 1) : x.Angle = (cen e f.Cylinder + (-f.Spark - mn (trn f.Dwell t))) % 46080 := by
  unfold evs offs at h
  obtain ⟨o, ho, rfl⟩ := List.mem_map.1 h
  simp only [List.mem_append, List.mem_cons, List.not_mem_nil, or_false] at ho
  unfold evF at hk ⊢
  simp only at hk ⊢
  rcases ho with (ho | ho) | ho
  · rcases ho with rfl | rfl
    · simp at hk
    · rfl
  · cases h2 : decide (pul f > 0) <;> rw [h2] at ho
    · simp at ho
    · simp only [cond_true, List.mem_cons, List.not_mem_nil, or_false] at ho
      rcases ho with rfl | rfl <;> simp at hk
  · cases h2 : decide (pul f > 1) <;> rw [h2] at ho
    · simp at ho
    · simp only [cond_true, List.mem_cons, List.not_mem_nil, or_false] at ho
      rcases ho with rfl | rfl <;> simp at hk
theorem evs_two {e : SEngine} {t : Int} {f : SFire} {x : SEvent} (h : x ∈ evs e t f) (hk : x.Kind = 2) : x.Angle = (cen e f.Cylinder + -f.Spark) % 46080 := by
  unfold evs offs at h
  obtain ⟨o, ho, rfl⟩ := List.mem_map.1 h
  simp only [List.mem_append, List.mem_cons, List.not_mem_nil, or_false] at ho
  unfold evF at hk ⊢
  simp only at hk ⊢
  rcases ho with (ho | ho) | ho
  · rcases ho with rfl | rfl
    · rfl
    · simp at hk
  · cases h2 : decide (pul f > 0) <;> rw [h2] at ho
    · simp at ho
    · simp only [cond_true, List.mem_cons, List.not_mem_nil, or_false] at ho
      rcases ho with rfl | rfl <;> simp at hk
  · cases h2 : decide (pul f > 1) <;> rw [h2] at ho
    · simp at ho
    · simp only [cond_true, List.mem_cons, List.not_mem_nil, or_false] at ho
      rcases ho with rfl | rfl <;> simp at hk
theorem q525 {e : SEngine} {f : SFire} {t : Int} (he : engP e) (hf : fireP e f) : ((winV e f (beg e f.Cylinder) t).filter fun x => chn x == 2 * (f.Cylinder - 1)) = [] ∨
    ∃ x y, ((winV e f (beg e f.Cylinder) t).filter fun x => chn x == 2 * (f.Cylinder - 1)) = [x, y] ∧ x.Kind = 1 ∧ y.Kind = 2 ∧ y.Angle = (cen e f.Cylinder + -f.Spark) % 46080 ∧
      dst (beg e f.Cylinder) y.Angle - dst (beg e f.Cylinder) x.Angle = mn (trn f.Dwell t) ∧ 4000 ≤ t ∧ t ≤ 1000000 := by
  unfold winV
  cases h : (planV e [f] t).2 != 0
  · have hp := plan_ok he hf h
    have hop := (q249 (beg e f.Cylinder) (planV e [f] t).1).trans hp
    have htk : tickB t = true := by
      unfold planV at h
      rw [decide_eq_true he] at h
      simp only [Bool.not_true, cond_false] at h
      cases h1 : badF e [f] <;> rw [h1] at h
      · simp only [cond_false] at h
        cases h2 : tickB t
        · rw [h2] at h; simp at h
        · rfl
      · simp at h
    unfold tickB at htk
    simp only [Bool.and_eq_true, decide_eq_true_eq] at htk
    simp only [cond_false]
    cases ha : accB (beg e f.Cylinder) (ordW (beg e f.Cylinder) (planV e [f] t).1)
    · exact .inl rfl
    · right
      simp only [cond_true]
      generalize hW : ordW (beg e f.Cylinder) (planV e [f] t).1 = W at ha hop
      have hE : ∀ x ∈ W, evP x ∧ x.Cylinder = f.Cylinder := fun x hx => evs_ok (t := t) he hf x (hop.mem_iff.1 hx)
      have hk := q332 hop
      rw [(q368 hE).1]
      have l1 := hk.1.length_eq
      rw [List.length_map] at l1
      unfold accB at ha
      simp only [Bool.and_eq_true] at ha
      match hq : W.filter isC, l1 with
      | [x, y], _ =>
        rw [hq] at ha
        obtain ⟨⟨hi, hkp⟩, _⟩ := ha
        obtain ⟨k1, k2⟩ := kpP_two hkp
        have hx : x ∈ W := by have : x ∈ W.filter isC := by rw [hq]; simp
                              exact (List.mem_filter.1 this).1
        have hy : y ∈ W := by have : y ∈ W.filter isC := by rw [hq]; simp
                              exact (List.mem_filter.1 this).1
        have ax := evs_one (hop.mem_iff.1 hx) k1
        have ay := evs_two (hop.mem_iff.1 hy) k2
        refine ⟨x, y, rfl, k1, k2, ay, ?_, htk.1, htk.2⟩
        simp only [incB, Bool.and_eq_true, decide_eq_true_eq] at hi
        have hD := q363 (q215 (d := f.Dwell) (by unfold fireP at hf; omega) (by unfold fireP at hf; omega) htk.1).1
        have hlt := hi.2.1
        rw [ax, ay] at hlt ⊢
        unfold dst at hlt ⊢
        generalize mn (trn f.Dwell t) = D at hD hlt
        omega
  · exact .inl rfl
theorem q483 {p sp : Int} {f : SFire} {a : Int} (P : Par a p sp) (hd : 500 ≤ f.Dwell ∧ f.Dwell ≤ 10000) (ht : 4000 ≤ tk p sp ∧ tk p sp ≤ 1000000) : 2 * sp ≤ mn (trn f.Dwell (tk p sp)) * p := by
  have hp := P.p0
  have hs := P.s0
  have hs1 := P.s1
  have h1 : (tk p sp - 1) * sp ≤ 23040 * p := by
    unfold tk upV
    have := Int.lt_ediv_add_one_mul_self (-(23040 * p)) (show 0 < sp by omega)
    rw [Int.add_mul] at this
    rw [Int.sub_mul, Int.neg_mul]
    omega
  unfold mn minI
  generalize tk p sp = t at h1 ht
  have q1 : trn f.Dwell t * t ≤ f.Dwell * 23040 := Int.ediv_mul_le _ (by omega)
  have q2 : f.Dwell * 23040 < (trn f.Dwell t + 1) * t := Int.lt_ediv_add_one_mul_self _ (by omega)
  rw [Int.add_mul] at q2
  generalize trn f.Dwell t = D at q1 q2
  split
  · have : 23040 * 20 ≤ 23040 * p := by omega
    omega
  · have d0 : 0 ≤ D := by
      by_cases h : 0 ≤ D
      · exact h
      · have : D * t ≤ -1 * t := Int.mul_le_mul_of_nonneg_right (by omega) (by omega)
        omega
    have d1 : D * 4000 ≤ D * t := Int.mul_le_mul_of_nonneg_left ht.1 d0
    have d2 : 46080 ≤ D * (t - 1) := by rw [Int.mul_sub]; omega
    have d3 : D * ((t - 1) * sp) ≤ D * (23040 * p) := Int.mul_le_mul_of_nonneg_left h1 d0
    rw [← Int.mul_assoc] at d3
    have d4 : 46080 * sp ≤ D * (t - 1) * sp := Int.mul_le_mul_of_nonneg_right d2 (by omega)
    have d5 : D * (23040 * p) = 23040 * (D * p) := by rw [← Int.mul_assoc, Int.mul_comm D, Int.mul_assoc]
    omega
def fireAt (l : List SFire) (x : Nat) (f : SFire) : Prop := ∃ k : Nat, l.findIdx? (fun f => f.Cylinder == (x : Int) + 1) = some k ∧ l[k]? = some f
def Ex (e : SEngine) (l : List SFire) (a p sp : Int) (w : SSwitch) : Prop := w.Channel % 2 = 0 → w.Level = false → ∃ (x : Nat) (f : SFire) (A : Int), x < e.Order.length ∧ w.Channel = 2 * (x : Int) ∧ fireAt l x f ∧ w.At = a + upV (A * p) sp ∧ 0 ≤ A ∧ A % 46080 = (cen e ((x : Int) + 1) - f.Spark) % 46080
def JP (e : SEngine) (l : List SFire) (sp : Int) (K x : Nat) (j : SJob) : Prop := ∃ f, fireAt l x f ∧ 0 ≤ (K : Int) * sp + j.Left ∧ (onK j.Event.Kind = false → ((K : Int) * sp + j.Left) % 46080 = (cen e ((x : Int) + 1) - f.Spark) % 46080)
theorem jp_st {e : SEngine} {l : List SFire} {sp : Int} {K x : Nat} {i j : SJob} (h : st i = st j) (hj : JP e l sp K x j) : JP e l sp K x i := by
  have h1 : i.Event = j.Event := congrArg Prod.fst h
  have h2 : i.Left = j.Left := congrArg Prod.snd h
  obtain ⟨f, a, b, c⟩ := hj
  exact ⟨f, a, by rw [h2]; exact b, by rw [h1, h2]; exact c⟩
def CI (e : SEngine) (l : List SFire) (a p sp : Int) (K g : Nat) (s : SScheduler) : Prop := ∀ x : Nat, x < e.Order.length →
  QB (tau a p sp K) s.Timer.Now (mine s.Jobs ((2 * x : Nat) : Int)) ∧ AO (tau a p sp K) ((g : Int) * sp) s.Timer.Now (mine s.Jobs ((2 * x : Nat) : Int)) ∧ ∀ j ∈ mine s.Jobs ((2 * x : Nat) : Int), JP e l sp K x j
theorem q450 {n : Nat} {s : SScheduler} {a p sp t : Int} {K g : Nat} (h : Live n s) (hcut : s.Cut = false) (hk : s.Clock = ck a p sp K g) (c : Nat) (hc : c < s.Timer.Channels.length) :
    mine (stepG t s).Jobs (c : Int) = armQ t (ck a p sp K g) ((mine s.Jobs (c : Int)).filter fun j => !dueJ t j) := by
  unfold stepG
  rw [q334 (s := put s t (advU t (s.Timer.Channels, s.Jobs))) hcut c (by simpa [put, advU] using hc)]
  rw [show (put s t (advU t (s.Timer.Channels, s.Jobs))).Clock = ck a p sp K g from hk, show (put s t (advU t (s.Timer.Channels, s.Jobs))).Timer.Now = t from rfl, show mine (put s t (advU t (s.Timer.Channels, s.Jobs))).Jobs (c : Int) = (mine s.Jobs (c : Int)).filter (fun j => !dueJ t j) from q247 s.Jobs (c : Int) t]
  rfl
theorem q392 {e : SEngine} {l : List SFire} {a p sp to : Int} {K g : Nat} (P : Par a p sp) (hK : K ≤ 1500) (hto : to ≤ a + ((K + g : Nat) : Int) * p) (hto2 : to ≤ 1099511627775) : ∀ (f : Nat) (s : SScheduler) (o : List SSwitch), Live e.Order.length s → s.Cut = false → s.Clock = ck a p sp K g → CI e l a p sp K g s → (∀ w ∈ o, Ex e l a p sp w) → s.Timer.Now ≤ to →
    (∀ w ∈ (goV to f (o, s)).1, Ex e l a p sp w) ∧ CI e l a p sp K g (goV to f (o, s)).2
  | 0, s, o, _, _, _, hc, ho, _ => ⟨ho, hc⟩
  | f + 1, s, o, h, hcut, hk, hc, ho, hn => by
    by_cases hy : (Tm.nxV s.Timer.Channels).2 = true ∧ (Tm.nxV s.Timer.Channels).1 ≤ to
    · have eg : goV to (f + 1) (o, s) = goV to f (o ++ Tm.advS (Tm.nxV s.Timer.Channels).1 s.Timer.Channels, stepG (Tm.nxV s.Timer.Channels).1 s) := by
        show (if _ then _ else _) = _
        rw [if_pos hy]
      rw [eg]
      obtain ⟨n1, n2, n3⟩ := nx_now h hy.1
      have hal := q384 (Tm.nxV s.Timer.Channels).1 s
      have hlen := h.len
      have hq : ∀ x : Nat, (hx : x < e.Order.length) → _ := fun x hx => q_step (t := (Tm.nxV s.Timer.Channels).1) P (h.rows.row (2 * x) (by show 2 * x < s.Timer.Channels.length; omega)) (hc x hx).1 (hc x hx).2.1 n1 (by omega) (n3 _ (List.getElem_mem _))
      refine q392 P hK hto hto2 f _ _ (q279 h hy.1) (hal.cut.trans hcut) (hal.clk.trans hk) (fun x hx => ?_) (fun w hw => ?_) (by rw [q237]; exact hy.2)
      · obtain ⟨b1, b2, b3⟩ := hq x hx
        rw [q237, q450 h hcut hk (2 * x) (by omega)]
        have hjob : ∀ j ∈ ((mine s.Jobs ((2 * x : Nat) : Int)).filter fun j => !dueJ (Tm.nxV s.Timer.Channels).1 j), j ∈ mine s.Jobs ((2 * x : Nat) : Int) := fun j hj => (List.mem_filter.1 hj).1
        refine ⟨qb_st (armQ_st _ _ _).symm b1, armQ_ok P hK (fun j hj => (h.rows.job j (List.mem_filter.1 (hjob j hj)).1).left.2) (by omega) b2, fun j hj => ?_⟩
        have hm : st j ∈ (armQ (Tm.nxV s.Timer.Channels).1 (ck a p sp K g) ((mine s.Jobs ((2 * x : Nat) : Int)).filter fun j => !dueJ (Tm.nxV s.Timer.Channels).1 j)).map st := List.mem_map_of_mem hj
        rw [armQ_st] at hm
        obtain ⟨k, hk2, ek⟩ := List.mem_map.1 hm
        exact jp_st ek.symm ((hc x hx).2.2 k (hjob k hk2))
      · rcases List.mem_append.1 hw with hw | hw
        · exact ho w hw
        · intro hch hlv
          obtain ⟨i, c, e1, e2, _, e4⟩ := Tm.q371.1 hw
          obtain ⟨hi, rfl⟩ := List.getElem?_eq_some_iff.1 e1
          have hwc : w.Channel = (i : Int) := by rw [e4]
          obtain ⟨x, hx⟩ : ∃ x : Nat, i = 2 * x := ⟨i / 2, by omega⟩
          subst hx
          have hxn : x < e.Order.length := by omega
          obtain ⟨_, _, r3, r4⟩ := q268 (t := (Tm.nxV s.Timer.Channels).1) (2 * x) (h.rows.row (2 * x) hi) (n3 _ (List.getElem_mem hi))
          have hmem : w ∈ Tm.swC (Tm.nxV s.Timer.Channels).1 (2 * x) s.Timer.Channels[2 * x] := by
            rw [← adv_one _ _ (2 * x) hi]
            exact List.mem_filter.2 ⟨hw, by rw [hwc]; simp⟩
          by_cases hd : s.Timer.Channels[2 * x].Armed = true ∧ s.Timer.Channels[2 * x].At = (Tm.nxV s.Timer.Channels).1
          · obtain ⟨j, r, q1, q2, q3⟩ := r3 hd.1 hd.2
            simp only at q1
            have hq3 : Tm.swC (Tm.nxV s.Timer.Channels).1 (2 * x) s.Timer.Channels[2 * x] = [⟨(Tm.nxV s.Timer.Channels).1, ((2 * x : Nat) : Int), onK j.Event.Kind⟩] := q3
            rw [hq3] at hmem
            have hwe : w = ⟨(Tm.nxV s.Timer.Channels).1, ((2 * x : Nat) : Int), onK j.Event.Kind⟩ := by simpa using hmem
            have hon : onK j.Event.Kind = false := by rw [hwe] at hlv; exact hlv
            have ht := (hq x hxn).2.2 hd.1 hd.2 j r q1 hon
            obtain ⟨fr, f1, f0, f2⟩ := (hc x hxn).2.2 j (by rw [q1]; simp)
            refine ⟨x, fr, (K : Int) * sp + j.Left, hxn, by rw [hwe]; simp, f1, ?_, f0, f2 hon⟩
            rw [hwe]
            show (Tm.nxV s.Timer.Channels).1 = _
            rw [ht, tau_abs (by have := P.s0; omega)]
          · have hq4 : Tm.swC (Tm.nxV s.Timer.Channels).1 (2 * x) s.Timer.Channels[2 * x] = [] := (r4 hd).2
            rw [hq4] at hmem; simp at hmem
    · have eg : goV to (f + 1) (o, s) = (o, s) := by
        show (if _ then _ else _) = _
        rw [if_neg hy]
      rw [eg]
      exact ⟨ho, hc⟩
theorem q482 {e : SEngine} {l : List SFire} {a p sp to : Int} {K g : Nat} (P : Par a p sp) (hK : K ≤ 1500) (hto : to ≤ a + ((K + g : Nat) : Int) * p) (hto2 : to ≤ 1099511627775) {s : SScheduler} (h : Live e.Order.length s) (hcut : s.Cut = false) (hk : s.Clock = ck a p sp K g) (hc : CI e l a p sp K g s) (hn : s.Timer.Now ≤ to) :
    (∀ w ∈ (goE to s).1, Ex e l a p sp w) ∧ ∀ x : Nat, x < e.Order.length → QB (tau a p sp K) to (mine (goE to s).2.Jobs ((2 * x : Nat) : Int)) ∧
      (∀ j r, mine (goE to s).2.Jobs ((2 * x : Nat) : Int) = j :: r → (g : Int) * sp < j.Left → j.Armed = false) ∧ ∀ j ∈ mine (goE to s).2.Jobs ((2 * x : Nat) : Int), JP e l sp K x j := by
  obtain ⟨h1, h2⟩ := q392 P hK hto hto2 s.Jobs.length s [] h hcut hk hc (by simp) hn
  have hm := h.most
  obtain ⟨_, _, r3, _, r5, r6, _, _⟩ := go_run to s.Jobs.length s [] h (Nat.le_refl _) (by simp; omega) hn
  refine ⟨h1, fun x hx => ?_⟩
  obtain ⟨q1, q2, q3⟩ := h2 x hx
  have hlen := r3.len
  have hx2 : 2 * x < (goV to s.Jobs.length ([], s)).2.Timer.Channels.length := by omega
  exact ⟨q_end P (r3.rows.row (2 * x) hx2) q1 q2 r5 hto (r6 _ (List.getElem_mem hx2)), fun j r e => (q2 j r e).2, q3⟩
end Go.Pv.Sc
set_option linter.unusedSimpArgs false
namespace Go.Pv.Sc
open Go Go.Pv Go.Pv.Ev
theorem q443 {s s' : SScheduler} {o : List SSwitch} {c : SClock} (hok : SchOk s) (hcut : s.Cut = false) (hc : clkB c = true) (hv : c.Valid = true) (hle : s.Timer.Now ≤ c.At) (h : toothV s c = (s', o, 0)) :
    s' = armV (mk (goE c.At s).2 c (newJ s c (goE c.At s).2)) ∧ o = (goE c.At s).1 := by
  obtain ⟨_, G⟩ := gone hok (clkOk hc hv) hle
  unfold toothV at h
  rw [q199.2 hok, hc, hv, decide_eq_false (show ¬ c.At < s.Timer.Now by omega)] at h
  simp only [Bool.not_true, Bool.or_self, cond_false] at h
  unfold toothG at h
  rw [G.cut, hcut] at h
  simp only [cond_false] at h
  cases h2 : decide (((newJ s c (goE c.At s).2).length : Int) > 200) <;> rw [h2] at h
  · simp only [cond_false, Prod.mk.injEq] at h
    exact ⟨h.1.symm, h.2.1.symm⟩
  · simp at h
theorem q394 {a p sp : Int} (P : Par a p sp) {K0 g0 : Nat} {j : SJob} (hg : 1 ≤ g0 ∧ g0 ≤ 3) (h : a + ((K0 + g0 : Nat) : Int) * p ≤ tau a p sp K0 j) : (shiftJ ((g0 : Int) * sp) j).Left = j.Left - (g0 : Int) * sp ∧ tau a p sp (K0 + g0) (shiftJ ((g0 : Int) * sp) j) = tau a p sp K0 j := by
  have hp := P.p0; have hs := P.s0; have hs1 := P.s1
  have hG := q213 P hg
  have e2 : ((K0 + g0 : Nat) : Int) * p = (K0 : Int) * p + (g0 : Int) * p := by push_cast; rw [Int.add_mul]
  have hgp : 0 ≤ (g0 : Int) * p := Int.mul_nonneg (by omega) (by omega)
  have hl : -sp < j.Left := by
    by_cases h1 : -sp < j.Left
    · exact h1
    · have m1 : j.Left * p ≤ -sp * p := Int.mul_le_mul_of_nonneg_right (by omega) (by omega)
      have m2 : sp * 1 ≤ sp * p := Int.mul_le_mul_of_nonneg_left (by omega) (by omega)
      rw [Int.neg_mul] at m1
      have m3 := q270 (x := j.Left * p) (y := 0 + (-1) * sp) (b := sp) (by omega) (by omega)
      rw [upV_add _ (by omega)] at m3
      have e : upV 0 sp = 0 := by unfold upV; rw [Int.neg_zero, Int.zero_ediv]; rfl
      unfold tau at h
      omega
  have hL : (shiftJ ((g0 : Int) * sp) j).Left = j.Left - (g0 : Int) * sp := by
    unfold shiftJ maxI
    simp only
    split <;> omega
  refine ⟨hL, ?_⟩
  unfold tau
  rw [hL, e2]
  have : (j.Left - (g0 : Int) * sp) * p = j.Left * p + (-((g0 : Int) * p)) * sp := by
    rw [Int.sub_mul, Int.neg_mul, Int.mul_assoc, Int.mul_comm sp p, ← Int.mul_assoc]; omega
  rw [this, upV_add _ (by omega)]
  omega
theorem q503 {a p sp : Int} (P : Par a p sp) {K0 g0 : Nat} (hg : 1 ≤ g0 ∧ g0 ≤ 3) {q : List SJob} (h : QB (tau a p sp K0) (a + ((K0 + g0 : Nat) : Int) * p) q) : QB (tau a p sp (K0 + g0)) (a + ((K0 + g0 : Nat) : Int) * p) (q.map (shiftJ ((g0 : Int) * sp))) := by
  have ht : ∀ j ∈ q, tau a p sp (K0 + g0) (shiftJ ((g0 : Int) * sp) j) = tau a p sp K0 j := fun j hj => (q394 P hg (h.on j hj)).2
  refine ⟨fun j hj => ?_, fun j hj ho => ?_, ?_⟩
  · obtain ⟨i, hi, rfl⟩ := List.mem_map.1 hj
    rw [ht i hi]; exact h.on i hi
  · obtain ⟨i, hi, rfl⟩ := List.mem_map.1 hj
    rw [ht i hi]; exact h.off i hi ho
  · rw [List.pairwise_map]
    refine h.ord.imp_of_mem fun {i k} hi hk hik => ?_
    rw [ht i hi, ht k hk]; exact hik
theorem q437 : ∀ (q : List SJob) (lv : Bool), alt q lv = true → q ≠ [] → ∃ k ∈ q, onK k.Event.Kind = false ∧ ∀ i ∈ q, onK i.Event.Kind = true → ∃ a b, q = a ++ i :: b ∧ k ∈ b
  | [], _, _, h => absurd rfl h
  | [j], lv, h, _ => by
    have ho : onK j.Event.Kind = false := by
      unfold alt at h
      cases hk : onK j.Event.Kind
      · rfl
      · rw [hk] at h
        cases lv <;> simp [alt] at h
    exact ⟨j, by simp, ho, fun i hi hi2 => by
      have : i = j := by simpa using hi
      rw [this, ho] at hi2; cases hi2⟩
  | j :: k :: r, lv, h, _ => by
    simp only [alt, Bool.and_eq_true] at h
    obtain ⟨m, h1, h2, h3⟩ := q437 (k :: r) (!lv) (by simp only [alt, Bool.and_eq_true]; exact h.2) (by simp)
    refine ⟨m, List.mem_cons_of_mem _ h1, h2, fun i hi hi2 => ?_⟩
    rcases List.mem_cons.1 hi with rfl | hi
    · exact ⟨[], k :: r, rfl, h1⟩
    · obtain ⟨a, b, e1, e2⟩ := h3 i hi hi2
      exact ⟨j :: a, b, by rw [e1]; rfl, e2⟩
theorem q471 {τ : SJob → Int} {now : Int} {q : List SJob} {i k : SJob} (h : QB τ now q) (ho1 : onK i.Event.Kind = true) (ho2 : onK k.Event.Kind = false) (h1 : now ≤ τ i) (h2 : τ i + 2 ≤ τ k) (hq : ∀ j ∈ q, τ j ≤ τ i) (hlast : ∀ j ∈ q, onK j.Event.Kind = true → τ j + 2 ≤ τ i) : QB τ now (q ++ [i, k]) := by
  refine ⟨fun j hj => ?_, fun j hj ho => ?_, ?_⟩
  · simp only [List.mem_append, List.mem_cons, List.not_mem_nil, or_false] at hj
    rcases hj with hj | rfl | rfl
    · exact h.on j hj
    · exact h1
    · omega
  · simp only [List.mem_append, List.mem_cons, List.not_mem_nil, or_false] at hj
    rcases hj with hj | rfl | rfl
    · exact h.off j hj ho
    · rw [ho1] at ho; cases ho
    · omega
  · rw [List.pairwise_append]
    refine ⟨h.ord, ?_, fun j hj m hm => ?_⟩
    · rw [List.pairwise_cons]
      refine ⟨fun m hm => ?_, by simp⟩
      have : m = k := by simpa using hm
      subst this
      exact ⟨by omega, fun _ => h2, fun _ => by omega⟩
    · have hji := hq j hj
      simp only [List.mem_cons, List.not_mem_nil, or_false] at hm
      rcases hm with rfl | rfl
      · exact ⟨hji, hlast j hj, fun ho => by rw [ho1] at ho; cases ho⟩
      · exact ⟨by omega, fun ho => by have := hlast j hj ho; omega, fun _ => by omega⟩
theorem q532 {e : SEngine} {l : List SFire} {a p sp : Int} {K g : Nat} (P : Par a p sp) (he : engP e) (hw : wishB e l = true) (x : Nat) :
    mine (addV e (ck a p sp K g) l (tk p sp) ((x : Int) + 1)) ((2 * x : Nat) : Int) = [] ∨
    ∃ f i k, fireAt l x f ∧ mine (addV e (ck a p sp K g) l (tk p sp) ((x : Int) + 1)) ((2 * x : Nat) : Int) = [i, k] ∧ onK i.Event.Kind = true ∧ onK k.Event.Kind = false ∧ i.Armed = false ∧
      dst (((K : Int) * sp) % 46080) (beg e ((x : Int) + 1)) < (g : Int) * sp ∧ dst (((K : Int) * sp) % 46080) (beg e ((x : Int) + 1)) ≤ i.Left ∧ i.Left < k.Left ∧ k.Left < dst (((K : Int) * sp) % 46080) (beg e ((x : Int) + 1)) + 46080 ∧
      2 * sp ≤ (k.Left - i.Left) * p ∧ ((K : Int) * sp + k.Left) % 46080 = (cen e ((x : Int) + 1) - f.Spark) % 46080 := by
  unfold addV
  by_cases hd : dst (ck a p sp K g).Angle (beg e ((x : Int) + 1)) ≥ (ck a p sp K g).Ahead
  · rw [decide_eq_true hd]; exact .inl rfl
  · rw [decide_eq_false hd]
    simp only [cond_false]
    have hd' : dst (((K : Int) * sp) % 46080) (beg e ((x : Int) + 1)) < (g : Int) * sp := by
      have : ¬ dst (((K : Int) * sp) % 46080) (beg e ((x : Int) + 1)) ≥ (g : Int) * sp := hd
      omega
    rcases q198 ((x : Int) + 1) (q217 hw) with ⟨_, b⟩ | ⟨kk, f, ha, _, hc, hcy, b⟩
    · rw [b]; exact .inl rfl
    · rw [b]
      simp only [List.flatMap_cons, List.flatMap_nil, List.append_nil]
      unfold addF
      rw [mine_sh, show ((2 * x : Nat) : Int) = 2 * (f.Cylinder - 1) by rw [hcy]; omega]
      have hf := q132 hw f (List.mem_of_getElem? hc)
      rcases q525 (t := tk p sp) he hf with h | ⟨y, z, h, k1, k2, k3, k4, t0, t1⟩
      · rw [h]; exact .inl rfl
      · right
        rw [h]
        have hdw := q483 P hf.2.2.1 ⟨t0, t1⟩
        have hv : (ck a p sp K g).Angle = ((K : Int) * sp) % 46080 := rfl
        rw [hcy] at k3 k4 ⊢
        have hb := q211 e ((x : Int) + 1)
        have hD := q363 (q215 (d := f.Dwell) (by have := hf.2.2.1; omega) (by have := hf.2.2.1; omega) t0).1
        have r1 : 0 ≤ dst (beg e ((x : Int) + 1)) y.Angle := by unfold dst; omega
        have r2 : dst (beg e ((x : Int) + 1)) z.Angle < 46080 := by unfold dst; omega
        have hDpos : 0 < mn (trn f.Dwell (tk p sp)) := by
          have hs := P.s0
          by_cases h0 : 0 < mn (trn f.Dwell (tk p sp))
          · exact h0
          · have : mn (trn f.Dwell (tk p sp)) = 0 := by omega
            rw [this, Int.zero_mul] at hdw; omega
        refine ⟨f, shJ (dst (((K : Int) * sp) % 46080) (beg e ((x : Int) + 1))) (beg e ((x : Int) + 1)) y, shJ (dst (((K : Int) * sp) % 46080) (beg e ((x : Int) + 1))) (beg e ((x : Int) + 1)) z, ⟨kk, ha, hc⟩, rfl, by show onK y.Kind = true; rw [k1]; rfl, by show onK z.Kind = false; rw [k2]; rfl, rfl, hd', ?_, ?_, ?_, ?_, ?_⟩
        · show _ ≤ dst (((K : Int) * sp) % 46080) (beg e ((x : Int) + 1)) + dst (beg e ((x : Int) + 1)) y.Angle
          omega
        · show dst (((K : Int) * sp) % 46080) (beg e ((x : Int) + 1)) + dst (beg e ((x : Int) + 1)) y.Angle < dst (((K : Int) * sp) % 46080) (beg e ((x : Int) + 1)) + dst (beg e ((x : Int) + 1)) z.Angle
          omega
        · show dst (((K : Int) * sp) % 46080) (beg e ((x : Int) + 1)) + dst (beg e ((x : Int) + 1)) z.Angle < _
          omega
        · show 2 * sp ≤ (dst (((K : Int) * sp) % 46080) (beg e ((x : Int) + 1)) + dst (beg e ((x : Int) + 1)) z.Angle - (dst (((K : Int) * sp) % 46080) (beg e ((x : Int) + 1)) + dst (beg e ((x : Int) + 1)) y.Angle)) * p
          rw [show dst (((K : Int) * sp) % 46080) (beg e ((x : Int) + 1)) + dst (beg e ((x : Int) + 1)) z.Angle - (dst (((K : Int) * sp) % 46080) (beg e ((x : Int) + 1)) + dst (beg e ((x : Int) + 1)) y.Angle) = mn (trn f.Dwell (tk p sp)) by omega]
          exact hdw
        · show ((K : Int) * sp + (dst (((K : Int) * sp) % 46080) (beg e ((x : Int) + 1)) + dst (beg e ((x : Int) + 1)) z.Angle)) % 46080 = _
          rw [k3]
          unfold dst
          omega
end Go.Pv.Sc
set_option linter.unusedSimpArgs false
namespace Go.Pv.Sc
open Go Go.Pv Go.Pv.Ev
theorem q516 {w : SWheel} {b : Bool} (h : q51 w = some b) (hb : b = true) : ∃ (T M : Nat) (sp : Int), w = ⟨(T : Int), (M : Int)⟩ ∧ Wh T M sp := by
  subst hb
  unfold q51 at h
  cases hc : (((((w.Missing == 1) || (w.Missing == 2)) && (decide (w.Teeth ≥ 12))) && (decide (w.Teeth ≤ 120))) && (decide (w.Teeth ≥ (w64 (8 * w.Missing)))))
  · rw [hc] at h; cases h
  · rw [hc] at h
    simp only [Bool.and_eq_true, Bool.or_eq_true, beq_iff_eq, decide_eq_true_eq] at hc
    obtain ⟨⟨⟨h1, h2⟩, h3⟩, h4⟩ := hc
    rw [w64_of (by omega) (by omega)] at h4
    have hm : remM 23040 w.Teeth = some (Int.tmod 23040 w.Teeth) := by unfold remM; rw [if_neg (by omega)]
    rw [hm] at h
    simp only [cond_true, Option.bind_some, Option.some.injEq, beq_iff_eq] at h
    rw [Int.tmod_eq_emod_of_nonneg (by omega)] at h
    obtain ⟨T, hT⟩ : ∃ T : Nat, w.Teeth = T := ⟨w.Teeth.toNat, by omega⟩
    obtain ⟨M, hM⟩ : ∃ M : Nat, w.Missing = M := ⟨w.Missing.toNat, by omega⟩
    refine ⟨T, M, 23040 / T, ?_, ⟨by omega, by omega, by omega, by omega, ?_⟩⟩
    · cases w; simp only at hT hM; rw [hT, hM]
    · rw [hT] at h
      have := Int.mul_ediv_add_emod 23040 (T : Int)
      omega
theorem few_ok {e : SEngine} {w : SWheel} {p a : Int} {l : List SFire} {b : Bool} (h : q65 e w p a l = some b) (hb : b = true) :
    engP e ∧ wishB e l = true ∧ l.length ≤ 8 ∧ (∃ (T M : Nat) (sp : Int), w = ⟨(T : Int), (M : Int)⟩ ∧ Wh T M sp ∧ Par a p sp) := by
  subst hb
  unfold q65 at h
  cases h0 : ((decide ((e.Order.length : Int) ≤ 8)) && (decide ((l.length : Int) ≤ 8)))
  · rw [h0] at h
    simp at h
  · rw [h0] at h
    simp only [Bool.and_eq_true, decide_eq_true_eq] at h0
    simp only [cond_true] at h
    rw [q206] at h
    cases h1 : decide (engP e)
    · rw [h1] at h; simp at h
    · have he := of_decide_eq_true h1
      rw [h1] at h
      simp only [Option.bind_some, cond_true] at h
      rw [q385 e l he (by omega)] at h
      cases h2 : wishB e l
      · rw [h2] at h; simp at h
      · rw [h2] at h
        simp only [Option.bind_some, cond_true] at h
        cases h3 : q51 w with
        | none => rw [h3] at h; cases h
        | some q =>
          rw [h3] at h
          simp only [Option.bind_some, Option.some.injEq, Bool.and_eq_true, decide_eq_true_eq] at h
          obtain ⟨⟨⟨⟨hq, p0⟩, p1⟩, a0⟩, a1⟩ := h
          obtain ⟨T, M, sp, hw, W⟩ := q516 h3 hq
          have := W.sp
          exact ⟨he, rfl, by omega, T, M, sp, hw, W, ⟨by omega, by omega, by omega, by omega, this.1, this.2⟩⟩
theorem q510 (e : SEngine) (w : SWheel) (p a : Int) (l : List SFire) : ∃ b, q65 e w p a l = some b := by
  have hv : ∃ b, q51 w = some b := by
    unfold q51
    cases hc : (((((w.Missing == 1) || (w.Missing == 2)) && (decide (w.Teeth ≥ 12))) && (decide (w.Teeth ≤ 120))) && (decide (w.Teeth ≥ (w64 (8 * w.Missing)))))
    · exact ⟨_, rfl⟩
    · simp only [Bool.and_eq_true, Bool.or_eq_true, beq_iff_eq, decide_eq_true_eq] at hc
      have hm : remM 23040 w.Teeth = some (Int.tmod 23040 w.Teeth) := by unfold remM; rw [if_neg (by omega)]
      rw [hm]; exact ⟨_, rfl⟩
  obtain ⟨q, hq⟩ := hv
  unfold q65
  cases h0 : ((decide ((e.Order.length : Int) ≤ 8)) && (decide ((l.length : Int) ≤ 8)))
  · exact ⟨_, rfl⟩
  · simp only [Bool.and_eq_true, decide_eq_true_eq] at h0
    simp only [cond_true]
    rw [q206]
    cases h1 : decide (engP e)
    · exact ⟨_, rfl⟩
    · simp only [Option.bind_some, cond_true]
      rw [q385 e l (of_decide_eq_true h1) (by omega)]
      cases wishB e l
      · exact ⟨_, rfl⟩
      · simp only [Option.bind_some, cond_true]
        rw [hq]; exact ⟨_, rfl⟩
theorem u8_wf {x : Int} (h : (Lit.int .u8 x).wf = true) : 0 ≤ x ∧ x ≤ 255 := by
  have m0 : IntKind.min .u8 = 0 := rfl
  have m1 : IntKind.max .u8 = 255 := rfl
  simpa [Lit.wf, m0, m1] using h
theorem cyc_eq {n : Int} (h : 0 ≤ n ∧ n ≤ 255) : ∃ cyc : Nat, 1 ≤ cyc ∧ cyc ≤ 3 ∧ w64 (1 + (w64 (Int.tmod n 3))) = (cyc : Int) := by
  rw [Int.tmod_eq_emod_of_nonneg h.1]
  refine ⟨(1 + n % 3).toNat, by omega, by omega, ?_⟩
  rw [w64_of (n := n % 3) (by omega) (by omega), w64_of (by omega) (by omega)]
  omega
theorem q489 (l : List SFire) (hl : l.length ≤ 1000000) (c : Int) (f : SFire → Option Bool) (hf : ∀ y, f y = some (y.Cylinder == c)) : q24 l f = some (match l.findIdx? (fun f => f.Cylinder == c) with | some k => (k : Int) | none => -1) := by
  unfold q24 q69
  rw [rangeN_list l (by omega) (fun (i : Int) x (_ : Unit) => Option.bind (f x) fun v => bif v then (some (Fl.ret i)) else (some (Fl.next ())))]
  have := q266 f (fun f : SFire => f.Cylinder == c) l 0 (fun y _ => hf y)
  rw [show ((0 : Nat) : Int) = 0 from rfl] at this
  rw [this]
  cases l.findIdx? (fun f => f.Cylinder == c) with
  | none => rfl
  | some k => simp
end Go.Pv.Sc
set_option linter.unusedSimpArgs false
namespace Go.Pv.Sc
open Go Go.Pv Go.Pv.Ev
def XI (e : SEngine) (l : List SFire) (a p sp : Int) (K : Nat) (s : SScheduler) (out : List SSwitch) : Prop :=
  (∀ w ∈ out, Ex e l a p sp w) ∧ ∀ K0 g0 : Nat, s.Clock = ck a p sp K0 g0 → K = K0 + g0 → CI e l a p sp K0 g0 s ∧
    ∀ x : Nat, x < e.Order.length → ∀ j ∈ mine s.Jobs ((2 * x : Nat) : Int), j.Left < (g0 : Int) * sp + dst (((K : Int) * sp) % 46080) (beg e ((x : Int) + 1))
theorem ck_inj {a p sp : Int} (P : Par a p sp) {K g K1 g1 : Nat} (h : ck a p sp K g = ck a p sp K1 g1) : K1 = K ∧ g1 = g := by
  have e1 : a + (K : Int) * p = a + (K1 : Int) * p := congrArg SClock.At h
  have e2 : (g : Int) * sp = (g1 : Int) * sp := congrArg SClock.Ahead h
  have p0 := P.p0
  have s0 := P.s0
  have h1 := Int.eq_of_mul_eq_mul_right (a := p) (by omega) (show (K : Int) * p = (K1 : Int) * p by omega)
  have h2 := Int.eq_of_mul_eq_mul_right (a := sp) (by omega) e2
  omega
theorem xi_step {e : SEngine} {l : List SFire} {a p sp L : Int} (P : Par a p sp) (hw : wishB e l = true) (K g : Nat) (s : SScheduler) (out : List SSwitch) (s' : SScheduler) (o : List SSwitch) (hK : K ≤ 1200) (hg : 1 ≤ g ∧ g ≤ 3)
    (R : RI e l a p sp L K s out) (hN : Wishing l sp L K g s) (ht : toothV s (ck a p sp K g) = (s', o, 0)) (X : XI e l a p sp K s out) : XI e l a p sp (K + g) s' (out ++ o) := by
  have hp := P.p0; have hs0 := P.s0; have hs1 := P.s1; have ha0 := P.a0; have ha1 := P.a1
  have hc := ck_ok P (K := K) (g := g) (by omega) hg
  have hck : ClkOk (ck a p sp K g) := clkOk hc rfl
  have hG := q213 P hg
  have hKs : 0 ≤ (K : Int) * sp := Int.mul_nonneg (by omega) (by omega)
  have hKp := q85 (A := 1500) (B := 40000) (show 0 ≤ (K : Int) by omega) (by omega) (show 0 ≤ p by omega) P.p1
  have hAt : (ck a p sp K g).At = a + (K : Int) * p := rfl
  have he : engP e := by rw [← R.eng]; exact R.ok.eng
  have hnl : s.Engine.Order.length = e.Order.length := by rw [R.eng]
  have hlive : Live e.Order.length s := by have := Live.of R.ok; rw [hnl] at this; exact this
  have hle : s.Timer.Now ≤ (ck a p sp K g).At := by
    rw [hAt]
    rcases R.clk with ⟨k0, _, k1, _⟩ | ⟨K0, g0, k1, k2, _, _, k5, _⟩
    · omega
    · have e1 : (K : Int) * p = (K0 : Int) * p + (g0 : Int) * p := by rw [k1]; push_cast; rw [Int.add_mul]
      have : 0 ≤ (g0 : Int) * p := Int.mul_nonneg (by omega) (by omega)
      omega
  obtain ⟨f1, f2⟩ := q443 R.ok R.cut hc rfl hle ht
  subst f1
  subst f2
  obtain ⟨_, G⟩ := gone R.ok hck hle
  have hcut : (goE (ck a p sp K g).At s).2.Cut = false := by rw [G.cut]; exact R.cut
  have hnlv := q298 G R.ok hck rfl hcut
  rw [hnl] at hnlv
  have hmcl := hnlv.len
  have hnJ : newJ s (ck a p sp K g) (goE (ck a p sp K g).At s).2 = leftJ s (ck a p sp K g) (goE (ck a p sp K g).At s).2.Jobs ++ e.Order.flatMap (addV e (ck a p sp K g) s.Next (tk p sp)) := by
    unfold newJ
    rw [G.eng, G.next, R.eng]; rfl
  have hor := q280 (mk (goE (ck a p sp K g).At s).2 (ck a p sp K g) (newJ s (ck a p sp K g) (goE (ck a p sp K g).At s).2))
  -- the jobs that are left
  have hleft : (∀ w ∈ (goE (ck a p sp K g).At s).1, Ex e l a p sp w) ∧ ∀ x : Nat, x < e.Order.length → QB (tau a p sp K) (a + (K : Int) * p) (mine (leftJ s (ck a p sp K g) (goE (ck a p sp K g).At s).2.Jobs) ((2 * x : Nat) : Int)) ∧
      (∀ j r, mine (leftJ s (ck a p sp K g) (goE (ck a p sp K g).At s).2.Jobs) ((2 * x : Nat) : Int) = j :: r → (g : Int) * sp < j.Left → j.Armed = false) ∧
      (∀ j ∈ mine (leftJ s (ck a p sp K g) (goE (ck a p sp K g).At s).2.Jobs) ((2 * x : Nat) : Int), JP e l sp K x j ∧ j.Left < dst (((K : Int) * sp) % 46080) (beg e ((x : Int) + 1))) := by
    rcases R.clk with ⟨k0, v0, _, j0⟩ | ⟨K0, g0, k1, k2, k3, k4, k5, k6, _⟩
    · have hj0 : (goE (ck a p sp K g).At s).2.Jobs = [] := by
        apply List.eq_nil_iff_forall_not_mem.2
        intro j hj
        obtain ⟨k, hk, _⟩ := goE_mem _ _ j hj
        rw [j0] at hk; simp at hk
      have ho0 : (goE (ck a p sp K g).At s).1 = [] := by
        unfold goE
        rw [j0]; rfl
      refine ⟨by rw [ho0]; simp, fun x hx => ?_⟩
      have : leftJ s (ck a p sp K g) (goE (ck a p sp K g).At s).2.Jobs = [] := by
        unfold leftJ
        rw [v0, hj0]; rfl
      rw [this]
      exact ⟨⟨by simp [mine], by simp [mine], .nil⟩, fun j r e => by simp [mine] at e, fun j hj => by simp [mine] at hj⟩
    · obtain ⟨ci, bd⟩ := X.2 K0 g0 k4 k1
      have hto : (ck a p sp K g).At = a + ((K0 + g0 : Nat) : Int) * p := by rw [hAt, k1]
      obtain ⟨x1, x2⟩ := q482 P (show K0 ≤ 1500 by omega) (show (ck a p sp K g).At ≤ a + ((K0 + g0 : Nat) : Int) * p by omega) (by omega) hlive R.cut k4 ci hle
      refine ⟨x1, fun x hx => ?_⟩
      obtain ⟨y1, y2, y3⟩ := x2 x hx
      have hG0 := q213 P (g := g0) ⟨k2, k3⟩
      have hd : dst s.Clock.Angle (ck a p sp K g).Angle = (g0 : Int) * sp := by
        rw [k4, k1]
        exact q433 K0 g0 sp (by omega) (by omega)
      have hv : s.Clock.Valid = true := by rw [k4]; rfl
      have hlj : mine (leftJ s (ck a p sp K g) (goE (ck a p sp K g).At s).2.Jobs) ((2 * x : Nat) : Int) = (mine (goE (ck a p sp K g).At s).2.Jobs ((2 * x : Nat) : Int)).map (shiftJ ((g0 : Int) * sp)) := by
        unfold leftJ
        rw [hv, hd]
        simp only [cond_true]
        rw [q267]
      have hKx : (K : Int) * sp = (K0 : Int) * sp + (g0 : Int) * sp := by rw [k1]; push_cast; rw [Int.add_mul]
      have y1 : QB (tau a p sp K0) (a + ((K0 + g0 : Nat) : Int) * p) (mine (goE (ck a p sp K g).At s).2.Jobs ((2 * x : Nat) : Int)) := by rw [← hto]; exact y1
      have hsh : ∀ j ∈ mine (goE (ck a p sp K g).At s).2.Jobs ((2 * x : Nat) : Int), (shiftJ ((g0 : Int) * sp) j).Left = j.Left - (g0 : Int) * sp := fun j hj => (q394 P ⟨k2, k3⟩ (y1.on j hj)).1
      rw [hlj]
      refine ⟨?_, fun j r e hlt => ?_, fun j hj => ?_⟩
      · have hqs := q503 P ⟨k2, k3⟩ y1
        rw [← k1] at hqs
        exact hqs
      · cases hq : mine (goE (ck a p sp K g).At s).2.Jobs ((2 * x : Nat) : Int) with
        | nil => rw [hq] at e; cases e
        | cons i q =>
          rw [hq] at e
          have hij := (List.cons.inj e).1
          subst hij
          have := hsh i (by rw [hq]; simp)
          exact y2 i q hq (by omega)
      · obtain ⟨i, hi, rfl⟩ := List.mem_map.1 hj
        have hL := hsh i hi
        obtain ⟨f, z1, z0, z2⟩ := y3 i hi
        have hie : (shiftJ ((g0 : Int) * sp) i).Event = i.Event := rfl
        refine ⟨⟨f, z1, by rw [hL]; omega, fun ho => ?_⟩, ?_⟩
        · rw [hL, hKx, show (K0 : Int) * sp + (g0 : Int) * sp + (i.Left - (g0 : Int) * sp) = (K0 : Int) * sp + i.Left by omega]
          exact z2 ho
        · obtain ⟨k, hk, ek⟩ := goE_mem _ _ i (List.mem_filter.1 hi).1
          have hkm : k ∈ mine s.Jobs ((2 * x : Nat) : Int) := by
            refine List.mem_filter.2 ⟨hk, ?_⟩
            have h1 : i.Event = k.Event := congrArg Prod.fst ek
            have h2 := (List.mem_filter.1 hi).2
            rw [h1] at h2; exact h2
          have hb := bd x hx k hkm
          have h2 : i.Left = k.Left := congrArg Prod.snd ek
          omega
  refine ⟨fun w hw => ?_, fun K1 g1 hck1 hK1 => ?_⟩
  · rcases List.mem_append.1 hw with h | h
    · exact X.1 w h
    · exact hleft.1 w h
  · have hclk : (armV (mk (goE (ck a p sp K g).At s).2 (ck a p sp K g) (newJ s (ck a p sp K g) (goE (ck a p sp K g).At s).2))).Clock = ck a p sp K g := hor.clk
    rw [hclk] at hck1
    obtain ⟨rfl, rfl⟩ := ck_inj P hck1
    have hnow : (armV (mk (goE (ck a p sp K1 g1).At s).2 (ck a p sp K1 g1) (newJ s (ck a p sp K1 g1) (goE (ck a p sp K1 g1).At s).2))).Timer.Now = a + (K1 : Int) * p := by
      have e0 : (mk (goE (ck a p sp K1 g1).At s).2 (ck a p sp K1 g1) (newJ s (ck a p sp K1 g1) (goE (ck a p sp K1 g1).At s).2)).Timer.Now = a + (K1 : Int) * p := G.now
      unfold armV
      split
      · exact e0
      · exact e0
    -- by coil
    have key : ∀ x : Nat, x < e.Order.length → QB (tau a p sp K1) (a + (K1 : Int) * p) (mine (newJ s (ck a p sp K1 g1) (goE (ck a p sp K1 g1).At s).2) ((2 * x : Nat) : Int)) ∧
        (∀ j r, mine (newJ s (ck a p sp K1 g1) (goE (ck a p sp K1 g1).At s).2) ((2 * x : Nat) : Int) = j :: r → (ck a p sp K1 g1).Ahead < j.Left → j.Armed = false) ∧
        ∀ j ∈ mine (newJ s (ck a p sp K1 g1) (goE (ck a p sp K1 g1).At s).2) ((2 * x : Nat) : Int), JP e l sp K1 x j ∧ j.Left < (g1 : Int) * sp + dst ((((K1 + g1 : Nat) : Int) * sp) % 46080) (beg e ((x : Int) + 1)) := by
      intro x hx
      obtain ⟨y1, y2, y3⟩ := hleft.2 x hx
      have hb := q211 e ((x : Int) + 1)
      have hKx : ((K1 + g1 : Nat) : Int) * sp = (K1 : Int) * sp + (g1 : Int) * sp := by push_cast; rw [Int.add_mul]
      have hAh : (ck a p sp K1 g1).Ahead = (g1 : Int) * sp := rfl
      have hold : dst (((K1 : Int) * sp) % 46080) (beg e ((x : Int) + 1)) ≤ (g1 : Int) * sp + dst ((((K1 + g1 : Nat) : Int) * sp) % 46080) (beg e ((x : Int) + 1)) := by
        rw [hKx]; unfold dst; omega
      have hadd : mine (e.Order.flatMap (addV e (ck a p sp K1 g1) s.Next (tk p sp))) ((2 * x : Nat) : Int) = [] ∨ ∃ f i k, fireAt l x f ∧ mine (e.Order.flatMap (addV e (ck a p sp K1 g1) s.Next (tk p sp))) ((2 * x : Nat) : Int) = [i, k] ∧ onK i.Event.Kind = true ∧ onK k.Event.Kind = false ∧ i.Armed = false ∧
          dst (((K1 : Int) * sp) % 46080) (beg e ((x : Int) + 1)) < (g1 : Int) * sp ∧ dst (((K1 : Int) * sp) % 46080) (beg e ((x : Int) + 1)) ≤ i.Left ∧ i.Left < k.Left ∧ k.Left < dst (((K1 : Int) * sp) % 46080) (beg e ((x : Int) + 1)) + 46080 ∧
          2 * sp ≤ (k.Left - i.Left) * p ∧ ((K1 : Int) * sp + k.Left) % 46080 = (cen e ((x : Int) + 1) - f.Spark) % 46080 := by
        rcases hN with ⟨q1, _⟩ | ⟨q1, _⟩
        · rw [q1, q424 he hw (2 * x) (by omega), show 2 * x / 2 = x by omega]
          exact q532 P he hw x
        · left
          have : e.Order.flatMap (addV e (ck a p sp K1 g1) s.Next (tk p sp)) = [] := by
            rw [q1, List.flatMap_eq_nil_iff]
            intro y _
            unfold addV
            cases decide (dst (ck a p sp K1 g1).Angle (beg e y) ≥ (ck a p sp K1 g1).Ahead) <;> rfl
          rw [this]; rfl
      rw [hnJ, q42]
      rcases hadd with h0 | ⟨f, i, k, z1, z2, z3, z4, z5, z6, z7, z8, z9, z10, z11⟩
      · rw [h0, List.append_nil]
        refine ⟨y1, fun j r e1 h2 => y2 j r e1 (by omega), fun j hj => ⟨(y3 j hj).1, ?_⟩⟩
        have := (y3 j hj).2
        omega
      · rw [z2]
        have hv0 : 0 ≤ dst (((K1 : Int) * sp) % 46080) (beg e ((x : Int) + 1)) := by unfold dst; omega
        have hnew : dst (((K1 : Int) * sp) % 46080) (beg e ((x : Int) + 1)) + 46080 ≤ (g1 : Int) * sp + dst ((((K1 + g1 : Nat) : Int) * sp) % 46080) (beg e ((x : Int) + 1)) := by
          rw [hKx]
          unfold dst at z6 ⊢
          omega
        have hti : a + (K1 : Int) * p ≤ tau a p sp K1 i := by
          unfold tau
          have := upV_ge (x := i.Left * p) (b := sp) (Int.mul_nonneg (by omega) (by omega)) (by omega)
          omega
        have htk : tau a p sp K1 i + 2 ≤ tau a p sp K1 k := by
          unfold tau
          have h1 : i.Left * p + 2 * sp ≤ k.Left * p := by rw [Int.sub_mul] at z10; omega
          have h2 := q270 (b := sp) h1 (by omega)
          rw [upV_add _ (by omega)] at h2
          omega
        have hjt : ∀ j ∈ mine (leftJ s (ck a p sp K1 g1) (goE (ck a p sp K1 g1).At s).2.Jobs) ((2 * x : Nat) : Int), tau a p sp K1 j ≤ tau a p sp K1 i := fun j hj => by
          have := (y3 j hj).2
          unfold tau
          have := q270 (x := j.Left * p) (y := i.Left * p) (b := sp) (Int.mul_le_mul_of_nonneg_right (by omega) (by omega)) (by omega)
          omega
        have hrow : (mine (leftJ s (ck a p sp K1 g1) (goE (ck a p sp K1 g1).At s).2.Jobs) ((2 * x : Nat) : Int)) = [] ∨ ∃ lv, alt ((mine (leftJ s (ck a p sp K1 g1) (goE (ck a p sp K1 g1).At s).2.Jobs) ((2 * x : Nat) : Int)).map fun j => ⟨j.Event, j.Left, false, 0⟩) lv = true := by
          have hxl : 2 * x < (goE (ck a p sp K1 g1).At s).2.Timer.Channels.length := by have := G.live.len; omega
          have hr := (q327 G).row (2 * x) hxl
          simp only at hr
          cases hq : mine (leftJ s (ck a p sp K1 g1) (goE (ck a p sp K1 g1).At s).2.Jobs) ((2 * x : Nat) : Int) with
          | nil => exact .inl rfl
          | cons j r =>
            right
            rw [hq] at hr
            simp only [rowB, Bool.and_eq_true, Bool.not_eq_true'] at hr
            obtain ⟨⟨⟨r1, _⟩, _⟩, r4⟩ := hr
            have hun := q195 r4
            have halt : ∀ (q : List SJob) (lv : Bool), alt q lv = true → alt (q.map fun j => ⟨j.Event, j.Left, false, 0⟩) lv = true := by
              intro q
              induction q with
              | nil => intro lv h; exact h
              | cons y q ih =>
                intro lv h
                simp only [alt, Bool.and_eq_true, List.map_cons] at h ⊢
                exact ⟨⟨h.1.1, rfl⟩, ih _ h.2⟩
            refine ⟨(goE (ck a p sp K1 g1).At s).2.Timer.Channels[2 * x].Level, ?_⟩
            simp only [List.map_cons, alt, Bool.and_eq_true, Bool.not_eq_true']
            exact ⟨⟨r1, trivial⟩, halt r _ r4⟩
        have hlast : ∀ j ∈ mine (leftJ s (ck a p sp K1 g1) (goE (ck a p sp K1 g1).At s).2.Jobs) ((2 * x : Nat) : Int), onK j.Event.Kind = true → tau a p sp K1 j + 2 ≤ tau a p sp K1 i := by
          intro j hj ho
          rcases hrow with h0 | ⟨lv, hal⟩
          · rw [h0] at hj; simp at hj
          · obtain ⟨m, m1, m2, m3⟩ := q437 _ lv hal (by intro h; rw [List.map_eq_nil_iff] at h; rw [h] at hj; simp at hj)
            obtain ⟨m', hm', rfl⟩ := List.mem_map.1 m1
            -- the last is an Off behind j
            have hp2 := y1.ord
            rw [List.pairwise_iff_getElem] at hp2
            obtain ⟨A, B, e1, e2⟩ := m3 ⟨j.Event, j.Left, false, 0⟩ (List.mem_map.2 ⟨j, hj, rfl⟩) ho
            obtain ⟨A', r', q1, q2, q3⟩ := List.map_eq_append_iff.1 e1
            obtain ⟨j', B', q4, q5, q6⟩ := List.map_eq_cons_iff.1 q3
            rw [← q6] at e2
            obtain ⟨m'', hm'', q7⟩ := List.mem_map.1 e2
            have hm3 : m'' ∈ mine (leftJ s (ck a p sp K1 g1) (goE (ck a p sp K1 g1).At s).2.Jobs) ((2 * x : Nat) : Int) := by rw [q1, q4]; simp [hm'']
            have hord := y1.ord
            rw [q1, q4, List.pairwise_append] at hord
            have hjm := (List.pairwise_cons.1 hord.2.1).1 m'' hm''
            have hst1 : st j' = st j := by
              have a1 : j'.Event = j.Event := by have h := congrArg (fun z : SJob => z.Event) q5; exact h
              have a2 : j'.Left = j.Left := by have h := congrArg (fun z : SJob => z.Left) q5; exact h
              unfold st; rw [a1, a2]
            have hon' : onK j'.Event.Kind = true := by
              have a1 : j'.Event = j.Event := congrArg Prod.fst hst1
              rw [a1]; exact ho
            have h1 := hjm.2.1 hon'
            have h2 := hjt m'' hm3
            rw [tau_st hst1] at h1
            omega
        refine ⟨q471 y1 z3 z4 hti htk hjt hlast, fun j r e1 h2 => ?_, fun j hj => ?_⟩
        · cases hq : mine (leftJ s (ck a p sp K1 g1) (goE (ck a p sp K1 g1).At s).2.Jobs) ((2 * x : Nat) : Int) with
          | nil =>
            rw [hq] at e1
            have hij := (List.cons.inj e1).1
            rw [← hij]; exact z5
          | cons y q =>
            rw [hq] at e1
            have hij := (List.cons.inj e1).1
            rw [← hij] at h2 ⊢
            exact y2 y q hq (by omega)
        · simp only [List.mem_append, List.mem_cons, List.not_mem_nil, or_false] at hj
          rcases hj with hj | rfl | rfl
          · have := y3 j hj
            exact ⟨this.1, by omega⟩
          · exact ⟨⟨f, z1, by omega, fun ho => by rw [z3] at ho; cases ho⟩, by omega⟩
          · exact ⟨⟨f, z1, by omega, fun _ => z11⟩, by omega⟩
    have hmq : ∀ x : Nat, x < e.Order.length → mine (armV (mk (goE (ck a p sp K1 g1).At s).2 (ck a p sp K1 g1) (newJ s (ck a p sp K1 g1) (goE (ck a p sp K1 g1).At s).2))).Jobs ((2 * x : Nat) : Int) = armQ (a + (K1 : Int) * p) (ck a p sp K1 g1) (mine (newJ s (ck a p sp K1 g1) (goE (ck a p sp K1 g1).At s).2) ((2 * x : Nat) : Int)) := fun x hx => by
      rw [q334 (s := mk (goE (ck a p sp K1 g1).At s).2 (ck a p sp K1 g1) (newJ s (ck a p sp K1 g1) (goE (ck a p sp K1 g1).At s).2)) hcut (2 * x) (by omega)]
      show (match mine (newJ s (ck a p sp K1 g1) (goE (ck a p sp K1 g1).At s).2) ((2 * x : Nat) : Int) with
          | [] => []
          | j :: r => if j.Left > (ck a p sp K1 g1).Ahead ∨ armAt (goE (ck a p sp K1 g1).At s).2.Timer.Now (ck a p sp K1 g1) j > 1099511627776 then j :: r else ⟨j.Event, j.Left, true, armAt (goE (ck a p sp K1 g1).At s).2.Timer.Now (ck a p sp K1 g1) j⟩ :: r) = _
      rw [G.now]
      rfl
    have hjst : ∀ x : Nat, x < e.Order.length → ∀ j ∈ mine (armV (mk (goE (ck a p sp K1 g1).At s).2 (ck a p sp K1 g1) (newJ s (ck a p sp K1 g1) (goE (ck a p sp K1 g1).At s).2))).Jobs ((2 * x : Nat) : Int), ∃ k ∈ mine (newJ s (ck a p sp K1 g1) (goE (ck a p sp K1 g1).At s).2) ((2 * x : Nat) : Int), st k = st j := fun x hx j hj => by
      rw [hmq x hx] at hj
      have hm : st j ∈ (armQ (a + (K1 : Int) * p) (ck a p sp K1 g1) (mine (newJ s (ck a p sp K1 g1) (goE (ck a p sp K1 g1).At s).2) ((2 * x : Nat) : Int))).map st := List.mem_map_of_mem hj
      rw [armQ_st] at hm
      obtain ⟨k, hk, ek⟩ := List.mem_map.1 hm
      exact ⟨k, hk, ek⟩
    refine ⟨fun x hx => ?_, fun x hx j hj => ?_⟩
    · obtain ⟨b1, b2, b3⟩ := key x hx
      rw [hnow]
      refine ⟨?_, ?_, fun j hj => ?_⟩
      · rw [hmq x hx]; exact qb_st (armQ_st _ _ _).symm b1
      · rw [hmq x hx]
        exact armQ_ok P (by omega) (fun j hj => (hnlv.rows.job j (List.mem_filter.1 hj).1).left.2) (by omega) b2
      · obtain ⟨k, hk, ek⟩ := hjst x hx j hj
        exact jp_st ek.symm (b3 k hk).1
    · obtain ⟨k, hk, ek⟩ := hjst x hx j hj
      have h2 : k.Left = j.Left := congrArg Prod.snd ek
      have := ((key x hx).2.2 k hk).2
      omega
theorem q459 {x b : Int} (hb : 0 < b) : x ≤ upV x b * b ∧ upV x b * b < x + b := by
  unfold upV
  have h1 := Int.ediv_mul_le (-x) (show b ≠ 0 by omega)
  have h2 := Int.lt_ediv_add_one_mul_self (-x) hb
  rw [Int.add_mul] at h2
  rw [Int.neg_mul]
  omega
theorem q454 {p a sp : Int} (P : Par a p sp) (x : SSwitch) (r3 : Int × Int) (x2 : SFire) {u q2 A : Int} (hx : x.At - a = u) (hu : 0 ≤ u ∧ u ≤ 100000000) (hc : 0 ≤ r3.1 ∧ r3.1 < 46080) (hsp : -1280 ≤ x2.Spark ∧ x2.Spark ≤ 3840) (hA0 : 0 ≤ A) (hA : A % 46080 = (r3.1 - x2.Spark) % 46080)
    (hub : A * p ≤ u * sp ∧ u * sp < A * p + sp) (hq : q2 = u * sp / (46080 * p)) : loopM (q27 p a sp x r3 x2 q2) (false, q2 - 1) = some (.inl (true, q2 + 2)) := by
  have hp0 := P.p0; have hp1 := P.p1; have hs0 := P.s0; have hs1 := P.s1
  have hus := q85 (A := 100000000) (B := 1920) hu.1 hu.2 (show 0 ≤ sp by omega) hs1
  -- the cycle
  have hk0 : A = 46080 * (A / 46080) + (r3.1 - x2.Spark) % 46080 := by omega
  generalize hk : A / 46080 = k at hk0
  have hkn : 0 ≤ k := by omega
  generalize hang : (r3.1 - x2.Spark) % 46080 = ang at hk0
  have hangr : 0 ≤ ang ∧ ang < 46080 := by omega
  have hp46 : 0 < 46080 * p := by omega
  have hAp : A * p = k * (46080 * p) + ang * p := by rw [hk0, Int.add_mul, Int.mul_comm 46080 k, Int.mul_assoc]
  have hangp : 0 ≤ ang * p ∧ ang * p ≤ 46079 * p := ⟨Int.mul_nonneg hangr.1 (by omega), Int.mul_le_mul_of_nonneg_right (by omega) (by omega)⟩
  have hq0 : k ≤ q2 := by
    rw [hq, Int.le_ediv_iff_mul_le hp46]; omega
  have hq1 : q2 ≤ k + 1 := by
    have : q2 < k + 2 := by
      rw [hq]
      refine Int.ediv_lt_of_lt_mul hp46 ?_
      rw [Int.add_mul]; omega
    omega
  have hqr : 0 ≤ q2 ∧ q2 ≤ 192000000000 := ⟨by omega, by rw [hq]; exact Int.le_trans (Int.ediv_le_self _ hus.1) (by omega)⟩
  have hqs : q2 ≤ 1000000 := by
    have h1 : q2 * (46080 * p) ≤ u * sp := by rw [hq]; exact Int.ediv_mul_le _ (by omega)
    by_cases h : q2 ≤ 1000000
    · exact h
    · have : 1000001 * 921600 ≤ q2 * (46080 * p) := Int.mul_le_mul (by omega) (by omega) (by omega) (by omega)
      omega
  have htm : Int.tmod (w64 ((w64 (r3.1 - x2.Spark)) + 46080)) 46080 = ang := by
    rw [w64_of (n := r3.1 - x2.Spark) (by omega) (by omega), w64_of (by omega) (by omega), Int.tmod_eq_emod_of_nonneg (by omega)]
    omega
  have hb : ∀ (r : Bool) (i : Int), -2 ≤ i → i ≤ q2 + 1 → q27 p a sp x r3 x2 q2 (r, i) = some (.inl (r || (decide (u * sp ≥ (i * 46080 + ang) * p) && decide (u * sp - sp < (i * 46080 + ang) * p)), i + 1)) := by
    intro r i h1 h2
    have hi : -92160 ≤ i * 46080 + ang ∧ i * 46080 + ang ≤ 46172160000 := by omega
    have hip : -92160 * 40000 ≤ (i * 46080 + ang) * p ∧ (i * 46080 + ang) * p ≤ 46172160000 * 40000 := by
      constructor
      · by_cases h0 : 0 ≤ i * 46080 + ang
        · have := Int.mul_nonneg h0 (show 0 ≤ p by omega); omega
        · have : -92160 * p ≤ (i * 46080 + ang) * p := Int.mul_le_mul_of_nonneg_right hi.1 (by omega)
          omega
      · by_cases h0 : 0 ≤ i * 46080 + ang
        · exact Int.mul_le_mul hi.2 hp1 (by omega) (by omega)
        · have : (i * 46080 + ang) * p ≤ 0 := Int.mul_nonpos_of_nonpos_of_nonneg (by omega) (by omega)
          omega
    unfold q27
    simp only
    rw [w64_of (n := q2 + 1) (by omega) (by omega), decide_eq_true h2, hx, htm, w64_of (n := u) (by omega) (by omega), w64_of (n := u * sp) (by omega) (by omega), w64_of (n := u * sp - sp) (by omega) (by omega), w64_of (n := i * 46080) (by omega) (by omega), w64_of (n := i * 46080 + ang) (by omega) (by omega), w64_of (n := (i * 46080 + ang) * p) (by omega) (by omega), w64_of (n := i + 1) (by omega) (by omega)]
    cases r <;> rfl
  have hend : ∀ r : Bool, q27 p a sp x r3 x2 q2 (r, q2 + 2) = some (.inr (.inl (r, q2 + 2))) := by
    intro r
    unfold q27
    simp only
    rw [w64_of (n := q2 + 1) (by omega) (by omega), decide_eq_false (by omega)]; rfl
  have hhit : (decide (u * sp ≥ (k * 46080 + ang) * p) && decide (u * sp - sp < (k * 46080 + ang) * p)) = true := by
    have e : (k * 46080 + ang) * p = A * p := by rw [hk0, Int.mul_comm 46080 k]
    rw [e, Bool.and_eq_true, decide_eq_true_eq, decide_eq_true_eq]
    omega
  have e1 := hb false (q2 - 1) (by omega) (by omega)
  rw [show q2 - 1 + 1 = q2 by omega, Bool.false_or] at e1
  rw [loopM_next e1, loopM_next (hb _ q2 (by omega) (by omega))]
  have e3 := hb (decide (u * sp ≥ ((q2 - 1) * 46080 + ang) * p) && decide (u * sp - sp < ((q2 - 1) * 46080 + ang) * p) || (decide (u * sp ≥ (q2 * 46080 + ang) * p) && decide (u * sp - sp < (q2 * 46080 + ang) * p))) (q2 + 1) (by omega) (by omega)
  rw [show q2 + 1 + 1 = q2 + 2 by omega] at e3
  rw [loopM_next e3, loopM_out (hend _)]
  congr 3
  rcases (show k = q2 ∨ k = q2 - 1 by omega) with h | h
  · rw [← h, hhit]; simp
  · rw [← h, hhit]; simp
theorem q519 (e : SEngine) (w : SWheel) (p a n : Int) (l : List SFire) (hn : 0 ≤ n ∧ n ≤ 255) : q58 e w p a n l = some true := by
  unfold q58
  rw [q493]
  simp only [Option.bind_some, Bool.not_true, cond_false]
  obtain ⟨b, hb⟩ := q510 e w p a l
  rw [hb]
  simp only [Option.bind_some]
  cases hbb : b
  · rfl
  · obtain ⟨he, hw, hl8, T, M, sp, rfl, W, P⟩ := few_ok hb hbb
    obtain ⟨cyc, c1, c3, hcy⟩ := cyc_eq hn
    have hen := he.2.1
    have hp0 := P.p0; have hp1 := P.p1; have hs0 := P.s0; have hs1 := P.s1; have ha0 := P.a0; have ha1 := P.a1
    have hT0 := W.t0; have hT1 := W.t1
    simp only [Bool.not_true, cond_false]
    rw [hcy]
    obtain ⟨s, out, e1, R, hJ, X, ho⟩ := run_all he hw hl8 W P cyc ⟨c1, c3⟩ (XI e l a p sp)
      ⟨by simp, fun K0 g0 hc _ => by
        have : (wishS (newS e) l).Clock.Valid = (ck a p sp K0 g0).Valid := by rw [hc]
        cases this⟩ (fun K s out h => h) (fun K g s out s' o hK hg R hN ht X => xi_step P hw K g s out s' o hK hg R hN ht X)
    rw [e1]
    simp only [Option.bind_some, Bool.not_true, cond_false]
    have hq : quoM .i64 23040 (T : Int) = some sp := by
      rw [quo_eq (by omega) (by omega) (by omega)]
      congr 1
      rw [← W.s]
      exact Int.mul_ediv_cancel_left _ (by omega)
    rw [hq]
    simp only [Option.bind_some]
    have hnow : s.Timer.Now ≤ a + 60000000 := by
      rcases R.clk with ⟨_, _, k1, _⟩ | ⟨K0, g0, k1, k2, _, _, k5, _⟩
      · omega
      · have hK : 2 * (cyc + 2) * T ≤ 1200 := by
          have := Nat.mul_le_mul (show 2 * (cyc + 2) ≤ 10 by omega) hT1
          omega
        have := q85 (A := 1200) (B := 40000) (show 0 ≤ (K0 : Int) by omega) (by omega) (show 0 ≤ p by omega) hp1
        omega
    obtain ⟨v, ev, _⟩ := rangeM_inv (R := Bool) out (by omega) (q76 e p a l sp) (fun _ _ => True) () trivial (fun j hj v _ => by
      refine ⟨(), ?_, trivial⟩
      have hch := R.sw.ch out[j] (List.getElem_mem hj)
      have hran := R.sw.ran out[j] (List.getElem_mem hj)
      have hex := X.1 out[j] (List.getElem_mem hj)
      generalize out[j] = x at hch hran hex
      unfold q76
      rw [Int.tmod_eq_emod_of_nonneg hch.1]
      cases hc : ((x.Channel % 2 != 0) || x.Level)
      · simp only [cond_false]
        rw [Bool.or_eq_false_iff] at hc
        obtain ⟨y, f, A, y1, y2, ⟨k, y3, y4⟩, y5, y6, y7⟩ := hex (by simpa using hc.1) hc.2
        have htd : w64 ((w64 (Int.tdiv x.Channel 2)) + 1) = (y : Int) + 1 := by
          rw [y2, Int.tdiv_eq_ediv_of_nonneg (by omega), w64_of (n := 2 * (y : Int) / 2) (by omega) (by omega), w64_of (by omega) (by omega)]
          omega
        have hf := q132 hw f (List.mem_of_getElem? y4)
        have hcr := q328 e ((y : Int) + 1)
        have hub := q459 (x := A * p) (b := sp) (by omega)
        have hAp : 0 ≤ A * p := Int.mul_nonneg y6 (by omega)
        have hu0 := upV_ge (x := A * p) (b := sp) hAp (by omega)
        have hus := q85 (A := 100000000) (B := 1920) hu0 (show upV (A * p) sp ≤ 100000000 by omega) (show 0 ≤ sp by omega) hs1
        rw [htd, q489 l (by omega) ((y : Int) + 1) (fun x0 => q49 x0 ((y : Int) + 1)) (fun z => rfl), y3]
        simp only [Option.bind_some]
        rw [q404, decide_eq_true he, decide_eq_true (all_in he y1)]
        simp only [Bool.not_true, cond_false, Option.bind_some]
        rw [decide_eq_false (show ¬ (k : Int) < 0 by omega), show (((0 : Int) != 0)) = false from rfl]
        simp only [Bool.or_self, cond_false]
        rw [getI_nat, y4]
        simp only [Option.bind_some]
        have hxa : x.At - a = upV (A * p) sp := by omega
        rw [hxa, w64_of (n := upV (A * p) sp) (by omega) (by omega), w64_of (n := upV (A * p) sp * sp) (by omega) (by omega), w64_of (n := 46080 * p) (by omega) (by omega), quo_eq hus.1 (by omega) (by omega)]
        simp only [Option.bind_some]
        have hq2 : 0 ≤ upV (A * p) sp * sp / (46080 * p) ∧ upV (A * p) sp * sp / (46080 * p) ≤ 192000000000 := ⟨Int.ediv_nonneg hus.1 (by omega), Int.le_trans (Int.ediv_le_self _ hus.1) (by omega)⟩
        rw [w64_of (n := upV (A * p) sp * sp / (46080 * p) - 1) (by omega) (by omega), q454 P x (cen e ((y : Int) + 1), 0) f (u := upV (A * p) sp) (A := A) hxa ⟨hu0, by omega⟩ hcr hf.2.1 y6 y7 hub rfl]
        rfl
      · rfl)
    rw [ev]
    rfl
end Go.Pv.Sc
namespace Go.Pv
open Go
theorem q312 (x0 : SEngine) (x1 : SWheel) (x2 : Int) (x3 : Int) (x4 : Int) (x5 : List SFire) (g0 : wf_SEngine x0) (g1 : wf_SWheel x1) (g2 : (fun n => (Lit.int .i64 n).wf = true) x2) (g3 : (fun n => (Lit.int .i64 n).wf = true) x3) (g4 : (fun n => (Lit.int .u8 n).wf = true) x4) (g5 : (wfL wf_SFire) x5) : q58 x0 x1 x2 x3 x4 x5 = some true :=
  have _ := g0
  have _ := g1
  have _ := g2
  have _ := g3
  have _ := g5
  Sc.q519 x0 x1 x2 x3 x4 x5 (Sc.u8_wf g4)
end Go.Pv

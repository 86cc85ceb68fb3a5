/- Proved: SchedulerTeeth, called with any arguments that its row admits, returns true, and every argument reads behind the call as it read before. Conditions: none beyond the row's own. Printed by law.py. This file joins: Plain Lean: scheduler's Tooth = its reference, and what comes of it is valid. Plain Lean: Tooth and the reference's Tooth compute toothV. Plain Lean: SchedulerTeeth. The plain law of SchedulerTeeth. -/
import Derived.Test.YtldhbjpnlehpgaaGreatSchedulerTeethJ
import Derived.Test.YtldhbjpnlehpgaaGreatRows
set_option linter.unusedSimpArgs false
set_option linter.unusedVariables false
set_option linter.unusedSimpArgs false
namespace Go.Pv.Sc
open Go Go.Pv Go.Pv.Ev
theorem q365 {w : List SJob} (hw : alt w false = true) : ∀ {l : List SJob} {lv : Bool}, alt l lv = true → alt (l ++ w) lv = true
  | [], lv, h => by
    have : lv = false := by simpa [alt] using h
    subst this; exact hw
  | j :: l, lv, h => by
    simp only [alt, Bool.and_eq_true] at h
    simp only [List.cons_append, alt, Bool.and_eq_true]
    exact ⟨h.1, q365 hw h.2⟩
theorem q517 {w l : List SJob} {x : SChannel} (hw : alt w false = true) (h : rowB l x = true) : rowB (l ++ w) x = true := by
  cases l with
  | nil =>
    simp only [rowB, Bool.and_eq_true, Bool.not_eq_true'] at h
    cases w with
    | nil => simp [rowB, h.1, h.2]
    | cons j r =>
      simp only [alt, Bool.and_eq_true, Bool.not_eq_true'] at hw
      simp only [List.nil_append, rowB, h.1, h.2, hw.1.1, hw.1.2, hw.2]
      rfl
  | cons j r =>
    simp only [rowB, Bool.and_eq_true] at h
    simp only [List.cons_append, rowB, Bool.and_eq_true]
    exact ⟨h.1, q365 hw h.2⟩
theorem kpR_alt (c : Nat) (v begin : Int) : ∀ (F : List SEvent) (i : Nat), kpR c (F.map kp) i = true → (i + F.length) % 2 = 0 → alt (F.map (shJ v begin)) (i % 2 == 1) = true
  | [], i, _, h => by
    have : (i % 2 == 1) = false := beq_eq_false_iff_ne.2 (by simp at h; omega)
    rw [this]; rfl
  | x :: F, i, h, hp => by
    simp only [List.map_cons, kpR, Bool.and_eq_true] at h
    simp only [List.length_cons] at hp
    have ih := kpR_alt c v begin F (i + 1) h.2 (by omega)
    have e : (!(i % 2 == 1)) = ((i + 1) % 2 == 1) := by
      rcases Nat.mod_two_eq_zero_or_one i with h2 | h2
      · rw [h2, show (i + 1) % 2 = 1 by omega]; rfl
      · rw [h2, show (i + 1) % 2 = 0 by omega]; rfl
    have h1 := h.1.1
    simp only [List.map_cons, alt]
    rw [e, ih]
    have e2 : (i % 2 == 0) = !(i % 2 == 1) := by
      rcases Nat.mod_two_eq_zero_or_one i with h2 | h2 <;> rw [h2] <;> rfl
    rw [e2] at h1
    have hk : (kp x).1 = x.Kind := rfl
    rw [hk] at h1
    unfold shJ
    simp only
    revert h1
    cases onK x.Kind <;> cases (i % 2 == 1) <;> simp
theorem mine_sh (v begin : Int) (W : List SEvent) (c : Int) : mine (W.map (shJ v begin)) c = (W.filter fun x => chn x == c).map (shJ v begin) := by
  unfold mine
  rw [List.filter_map]
  rfl
theorem q523 {W : List SEvent} {cyl c : Int} (h : ∀ x ∈ W, evP x ∧ x.Cylinder = cyl) (h0 : c ≠ 2 * (cyl - 1)) (h1 : c ≠ 2 * (cyl - 1) + 1) : (W.filter fun x => chn x == c) = [] := by
  rw [List.filter_eq_nil_iff]
  intro x hx
  obtain ⟨_, hc⟩ := h x hx
  unfold chn
  rw [hc]
  split <;> simp <;> omega
theorem q559 {e : SEngine} {f : SFire} {v t : Int} (he : engP e) (hf : fireP e f) (c : Int) : alt (mine (addF e v t f) c) false = true := by
  unfold addF winV
  cases h : (planV e [f] t).2 != 0
  · have hp := plan_ok he hf h
    have hop := (q320 (beg e f.Cylinder) (planV e [f] t).1).trans hp
    simp only [cond_false]
    cases ha : accB (beg e f.Cylinder) (ordW (beg e f.Cylinder) (planV e [f] t).1)
    · rfl
    · simp only [cond_true]
      generalize hW : ordW (beg e f.Cylinder) (planV e [f] t).1 = W at ha hop
      have hE : ∀ x ∈ W, evP x ∧ x.Cylinder = f.Cylinder := fun x hx => evs_ok (t := t) he hf x (hop.mem_iff.1 hx)
      have hk := q467 hop
      have fl := q498 hE
      unfold accB at ha
      rw [kp_coil hk.1, q488 (pul f) (q174 f) hk.2] at ha
      simp only [Bool.and_eq_true] at ha
      rw [mine_sh]
      by_cases h0 : c = 2 * (f.Cylinder - 1)
      · subst h0
        rw [fl.1]
        have l2 := hk.1.length_eq
        rw [List.length_map] at l2
        exact kpR_alt 0 v _ _ 0 ha.1.2 (by rw [l2]; rfl)
      · by_cases h1 : c = 2 * (f.Cylinder - 1) + 1
        · subst h1
          rw [fl.2]
          have l2 := hk.2.length_eq
          rw [List.length_map] at l2
          refine kpR_alt 1 v _ _ 0 ha.2.2 ?_
          rw [l2]
          rcases q174 f with h | h | h <;> (rw [h]; rfl)
        · rw [q523 hE h0 h1]; rfl
  · rfl
theorem q428 {α : Type} (g : α → List SJob) (c : Int) : ∀ (l : List α), (∀ x ∈ l, alt (mine (g x) c) false = true) → alt (mine (l.flatMap g) c) false = true
  | [], _ => rfl
  | x :: l, h => by
    rw [List.flatMap_cons, q217]
    exact q365 (q428 g c l fun y hy => h y (List.mem_cons_of_mem _ hy)) (h x (List.mem_cons_self ..))
theorem q580 {e : SEngine} {k : SClock} {l : List SFire} {t x : Int} (he : engP e) (hw : wishB e l = true) (c : Int) : alt (mine (addV e k l t x) c) false = true := by
  unfold addV
  cases decide (dst k.Angle (beg e x) ≥ k.Ahead)
  · exact q428 _ c _ fun f hf => q559 he (q264 hw f (List.mem_filter.1 hf).1) c
  · rfl
theorem q569 {e : SEngine} {k : SClock} {l : List SFire} {t x : Int} (he : engP e) (hw : wishB e l = true) : ∀ j ∈ addV e k l t x, JobOk e.Order.length j := by
  intro j hj
  unfold addV at hj
  cases hv : decide (dst k.Angle (beg e x) ≥ k.Ahead) <;> rw [hv] at hj
  · simp only [cond_false, List.mem_flatMap] at hj
    obtain ⟨f, hf, hj⟩ := hj
    have hff := q264 hw f (List.mem_filter.1 hf).1
    unfold addF at hj
    obtain ⟨y, hy, rfl⟩ := List.mem_map.1 hj
    obtain ⟨h1, h2⟩ := (q308 he hff).2 y hy
    have hc := eng_cyl he hff.1
    refine ⟨by unfold shJ; simp only; rw [h2]; exact hc, h1.2.1, h1.1, h1.2.2.2, ?_, .inr rfl⟩
    unfold shJ dst; simp only; omega
  · simp at hj
theorem q462 (d : Int) : ∀ (l : List SJob) (lv : Bool), alt (l.map (shiftJ d)) lv = alt l lv
  | [], _ => rfl
  | j :: l, lv => by
    simp only [List.map_cons, alt, q462 d l]
    rfl
theorem q557 (d : Int) (l : List SJob) (x : SChannel) : rowB (l.map (shiftJ d)) x = rowB l x := by
  cases l with
  | nil => rfl
  | cons j r => simp only [List.map_cons, rowB, q462 d r]; rfl
theorem q558 (d now : Int) (l : List SJob) : cutB now (l.map (shiftJ d)) = cutB now l := by
  match l with
  | [] => rfl
  | [j] => rfl
  | i :: j :: r => rfl
theorem q438 (d : Int) (l : List SJob) (c : Int) : mine (l.map (shiftJ d)) c = (mine l c).map (shiftJ d) := by
  unfold mine
  rw [List.filter_map]
  rfl
theorem q550 {n : Nat} {d : Int} {j : SJob} (hd : 0 ≤ d ∧ d ≤ 46080) (h : JobOk n j) : JobOk n (shiftJ d j) := by
  have hl := h.left
  refine ⟨h.cyl, h.kind, h.angle, h.pulse, ?_, h.at0⟩
  unfold shiftJ maxI
  simp only
  split <;> omega
theorem q513 {n : Nat} {now d : Int} {ch : List SChannel} {l : List SJob} (hd : 0 ≤ d ∧ d ≤ 46080) (h : Rows n now (ch, l)) : Rows n now (ch, l.map (shiftJ d)) := by
  refine ⟨h.len, h.ch, fun j hj => ?_, fun c hc => ?_⟩
  · obtain ⟨k, hk, rfl⟩ := List.mem_map.1 hj
    exact q550 hd (h.job k hk)
  · have := h.row c hc
    simp only at this ⊢
    rw [q438, q557]; exact this
theorem q554 {n : Nat} {now : Int} {ch : List SChannel} {l w : List SJob} (h : Rows n now (ch, l)) (hj : ∀ j ∈ w, JobOk n j) (hw : ∀ c, alt (mine w c) false = true) : Rows n now (ch, l ++ w) := by
  refine ⟨h.len, h.ch, fun j hj2 => ?_, fun c hc => ?_⟩
  · rcases List.mem_append.1 hj2 with h2 | h2
    · exact h.job j h2
    · exact hj j h2
  · have := h.row c hc
    simp only at this ⊢
    rw [q217]
    exact q517 (hw _) this
def zeroS : SScheduler := ⟨(⟨([] : List Int), 0⟩ : SEngine), (⟨false, 0, 0, 0, 0, 0⟩ : SClock), (⟨0, ([] : List SChannel)⟩ : STimer), ([] : List SFire), ([] : List SJob), false⟩
def leftJ (s : SScheduler) (c : SClock) (l : List SJob) : List SJob := bif s.Clock.Valid then l.map (shiftJ (dst s.Clock.Angle c.Angle)) else l
def mk (s : SScheduler) (c : SClock) (l : List SJob) : SScheduler := ⟨s.Engine, c, s.Timer, s.Next, l, s.Cut⟩
def newJ (s : SScheduler) (c : SClock) (g : SScheduler) : List SJob := leftJ s c g.Jobs ++ g.Engine.Order.flatMap (addV g.Engine c g.Next (tickV c))
def toothG (s : SScheduler) (c : SClock) (g : List SSwitch × SScheduler) : SScheduler × List SSwitch × Int :=
  bif g.2.Cut then (mk g.2 c (leftJ s c g.2.Jobs), g.1, 0) else bif decide (((newJ s c g.2).length : Int) > 200) then (zeroS, [], 5) else (armV (mk g.2 c (newJ s c g.2)), g.1, 0)
def toothV (s : SScheduler) (c : SClock) : SScheduler × List SSwitch × Int :=
  bif !schB s || !clkB c then (zeroS, [], 1) else bif !c.Valid then (zeroS, [], 6) else bif decide (c.At < s.Timer.Now) then (zeroS, [], 16) else toothG s c (goE c.At s)
theorem clk_ang {s : SScheduler} (h : SchOk s) (hv : s.Clock.Valid = true) : angB s.Clock.Angle = true := q133.2 ⟨(clkOk h.clk hv).an0, (clkOk h.clk hv).an1⟩
theorem q469 {e : SEngine} {k : SClock} {next : List SFire} {t : Int} (he : engP e) (hw : wishB e next = true) : ∀ l : List Int, (l.flatMap (addV e k next t)).length ≤ 6 * l.length
  | [] => by simp
  | x :: l => by
    have := q469 (k := k) (t := t) he hw l
    have := q503 (k := k) (t := t) (x := x) he hw
    rw [List.flatMap_cons, List.length_append, List.length_cons]; omega
theorem q309 (s : SScheduler) (c : SClock) (l : List SJob) : (leftJ s c l).length = l.length := by
  unfold leftJ; cases s.Clock.Valid <;> simp
structure Gone (s : SScheduler) (c : SClock) (g : List SSwitch × SScheduler) : Prop where
  live : Live s.Engine.Order.length g.2
  eng : g.2.Engine = s.Engine
  clk : g.2.Clock = s.Clock
  next : g.2.Next = s.Next
  cut : g.2.Cut = s.Cut
  now : g.2.Timer.Now = c.At
  jobs : g.2.Jobs.length ≤ 200
theorem gone {s : SScheduler} {c : SClock} (h : SchOk s) (hc : ClkOk c) (hle : s.Timer.Now ≤ c.At) : q198 s c.At = some (goE c.At s) ∧ Gone s c (goE c.At s) := by
  obtain ⟨h1, h2, h3, h4, h5, h6⟩ := goOn_eq (.of h) c.At hle hc.at1
  have := h.most
  exact ⟨h1, h2, h3.eng, h3.clk, h3.next, h3.cut, h4, by omega⟩
theorem q464 {s : SScheduler} {c : SClock} {g : List SSwitch × SScheduler} (h : Gone s c g) : Rows s.Engine.Order.length g.2.Timer.Now (g.2.Timer.Channels, leftJ s c g.2.Jobs) := by
  unfold leftJ
  cases s.Clock.Valid
  · exact h.live.rows
  · exact q513 (by unfold dst; omega) h.live.rows
theorem q424 {s : SScheduler} {c : SClock} {g : List SSwitch × SScheduler} (h : Gone s c g) (hc : ClkOk c) (hv : c.Valid = true) (hcut : g.2.Cut = true) : Live s.Engine.Order.length (mk g.2 c (leftJ s c g.2.Jobs)) := by
  refine ⟨h.live.eng, h.live.n1, h.live.n8, q464 h, fun _ ch hch => ?_, h.live.now0, h.live.now1, .inr ⟨hv, hc⟩, ?_⟩
  · show cutB g.2.Timer.Now (mine (leftJ s c g.2.Jobs) (ch : Int)) = true
    have := h.live.cut hcut ch hch
    unfold leftJ
    cases s.Clock.Valid
    · exact this
    · simp only [cond_true]
      rw [q438, q558]; exact this
  · show (leftJ s c g.2.Jobs).length ≤ 1000
    rw [q309]; have := h.jobs; omega
theorem q351 {s : SScheduler} {c : SClock} {g : List SSwitch × SScheduler} (h : Gone s c g) (hs : SchOk s) (hc : ClkOk c) (hv : c.Valid = true) (hcut : g.2.Cut = false) : Live s.Engine.Order.length (mk g.2 c (newJ s c g.2)) := by
  have he : engP g.2.Engine := by rw [h.eng]; exact hs.eng
  have hw : wishB g.2.Engine g.2.Next = true := by rw [h.eng, h.next]; exact hs.wish
  have hn : g.2.Engine.Order.length = s.Engine.Order.length := by rw [h.eng]
  have hn8 := he.2.1
  have h6 := q469 (k := c) (t := tickV c) he hw g.2.Engine.Order
  have hl := q309 s c g.2.Jobs
  have hjb := h.jobs
  refine ⟨h.live.eng, h.live.n1, h.live.n8, ?_, fun hcc => ?_, h.live.now0, h.live.now1, .inr ⟨hv, hc⟩, ?_⟩
  · refine q554 (q464 h) (fun j hj => ?_) fun ch => q428 _ ch _ fun x _ => q580 he hw ch
    obtain ⟨x, _, hx⟩ := List.mem_flatMap.1 hj
    rw [← hn]
    exact q569 he hw j hx
  · have : g.2.Cut = true := hcc
    rw [hcut] at this; cases this
  · show (newJ s c g.2).length ≤ 1000
    unfold newJ
    rw [List.length_append]; omega
theorem q439 {s : SScheduler} (h : Live s.Engine.Order.length s) (he : engP s.Engine) (hb : clkB s.Clock = true) (hv : s.Clock.Valid = true) (hw : wishB s.Engine s.Next = true) (hm : s.Jobs.length ≤ 200) : SchOk s := by
  refine ⟨he, hb, h.tim, h.len, hw, hm, fun h2 => absurd (hv.symm.trans h2) (by decide), h.rows.job, fun c hc => ?_⟩
  have h1 := h.rows.row c hc
  simp only at h1
  unfold lineB
  rw [h1]
  cases hcut : s.Cut
  · rfl
  · rw [h.cut hcut c hc]; rfl
theorem q560 {s : SScheduler} {c : SClock} (h0 : (toothV s c).2.2 = 0) : SchOk (toothV s c).1 := by
  unfold toothV at h0 ⊢
  cases h1 : !schB s || !clkB c <;> rw [h1] at h0
  · simp only [cond_false] at h0 ⊢
    cases h2 : !c.Valid <;> rw [h2] at h0
    · simp only [cond_false] at h0 ⊢
      cases h3 : decide (c.At < s.Timer.Now) <;> rw [h3] at h0
      · simp only [cond_false] at h0 ⊢
        simp only [Bool.or_eq_false_iff, Bool.not_eq_false'] at h1
        have hv : c.Valid = true := by simpa using h2
        have hs := q280.1 h1.1
        have hc := clkOk h1.2 hv
        have hle : s.Timer.Now ≤ c.At := by simpa using h3
        obtain ⟨_, hg⟩ := gone hs hc hle
        unfold toothG at h0 ⊢
        cases hcut : (goE c.At s).2.Cut <;> rw [hcut] at h0
        · simp only [cond_false] at h0 ⊢
          cases h4 : decide (((newJ s c (goE c.At s).2).length : Int) > 200) <;> rw [h4] at h0
          · simp only [cond_false]
            have hl := q429 (q351 hg hs hc hv hcut)
            have ha := q402 (mk (goE c.At s).2 c (newJ s c (goE c.At s).2))
            have e1 : (armV (mk (goE c.At s).2 c (newJ s c (goE c.At s).2))).Engine = s.Engine := ha.eng.trans hg.eng
            have e2 : (armV (mk (goE c.At s).2 c (newJ s c (goE c.At s).2))).Clock = c := ha.clk
            have e3 : (armV (mk (goE c.At s).2 c (newJ s c (goE c.At s).2))).Next = s.Next := ha.next.trans hg.next
            refine q439 (by rw [e1]; exact hl) (by rw [e1]; exact hs.eng) (by rw [e2]; exact h1.2) (by rw [e2]; exact hv) (by rw [e1, e3]; exact hs.wish) ?_
            have hcf : (mk (goE c.At s).2 c (newJ s c (goE c.At s).2)).Cut = false := hcut
            unfold armV
            rw [hcf]
            simp only [Bool.false_eq_true, if_false]
            show (armN _ _ _ _).2.length ≤ 200
            rw [q266]
            have : (newJ s c (goE c.At s).2).length ≤ 200 := by
              have := of_decide_eq_false h4; omega
            exact this
          · simp at h0
        · simp only [cond_true]
          have hl := q424 hg hc hv hcut
          refine q439 (by show Live (goE c.At s).2.Engine.Order.length _; rw [hg.eng]; exact hl) (by show engP (goE c.At s).2.Engine; rw [hg.eng]; exact hs.eng) h1.2 hv (by show wishB (goE c.At s).2.Engine (goE c.At s).2.Next = true; rw [hg.eng, hg.next]; exact hs.wish) ?_
          show (leftJ s c (goE c.At s).2.Jobs).length ≤ 200
          rw [q309]; exact hg.jobs
      · simp at h0
    · simp at h0
  · simp at h0
end Go.Pv.Sc
set_option linter.unusedSimpArgs false
namespace Go.Pv.Sc
open Go Go.Pv Go.Pv.Ev
theorem q520 (s : SScheduler) (c : SClock) (hn : s.Next.length ≤ 1000000) (hj : s.Jobs.length ≤ 1000000) :
    (Option.bind (q64 s) fun v => (bif (!v) then (some true) else (Option.bind (q186 c) fun v2 => some (!v2)))) = some (!schB s || !clkB c) := by
  rw [q397 s hn hj, clk_eq]
  cases schB s <;> rfl
theorem q509 (s : SScheduler) (c : SClock) (hn : s.Next.length ≤ 1000000) (hj : s.Jobs.length ≤ 1000000) :
    (Option.bind (q123 s) fun v => (bif (!v) then (some true) else (Option.bind (q76 c) fun v2 => some (!v2)))) = some (!schB s || !clkB c) := by
  rw [q391 s hn hj, rclk_eq]
  cases schB s <;> rfl
theorem bind2 {α β γ : Type} (x : Option α) (f : α → Option β) (g : β → Option γ) : (Option.bind x fun v => Option.bind (f v) g) = Option.bind (Option.bind x f) g := by cases x <;> rfl
theorem q386 (s : SScheduler) (c : SClock) (hn : s.Next.length ≤ 1000000) (hj : s.Jobs.length ≤ 1000000) : q42 s c = some (toothV s c) := by
  unfold q42 toothV
  rw [bind2, q520 s c hn hj]
  simp only [Option.bind_some]
  cases h1 : !schB s || !clkB c
  · simp only [cond_false]
    cases h2 : !c.Valid
    · simp only [cond_false]
      cases h3 : decide (c.At < s.Timer.Now)
      · simp only [cond_false]
        simp only [Bool.or_eq_false_iff, Bool.not_eq_false'] at h1
        have hv : c.Valid = true := by simpa using h2
        have hs := q280.1 h1.1
        have hc := clkOk h1.2 hv
        have hle : s.Timer.Now ≤ c.At := by simpa using h3
        obtain ⟨hgo, hg⟩ := gone hs hc hle
        rw [q463 s hn hj]
        simp only [Option.bind_some]
        rw [hgo]
        simp only [Option.bind_some]
        unfold toothG
        generalize goE c.At s = g at hg
        have hcb : angB c.Angle = true := q133.2 ⟨hc.an0, hc.an1⟩
        have hleft : (bif s.Clock.Valid then (Option.bind (q63 s.Clock.Angle c.Angle) fun v4 => Option.bind (rangeN (g.2.Jobs.length : Int) (q125 v4) g.2.Jobs) fun (t : (List SJob) ⊕ Empty) => match t with | .inl f3 => (some f3) | .inr r => r.elim) else (some g.2.Jobs)) = some (leftJ s c g.2.Jobs) := by
          unfold leftJ
          cases hsv : s.Clock.Valid
          · rfl
          · have hjb := hg.jobs
            have := q413 (dst s.Clock.Angle c.Angle) (by unfold dst; omega) g.2.Jobs [] (fun j hj => (hg.live.rows.job j hj).left)
            simp only [cond_true]
            rw [dist_in (clk_ang hs hsv) hcb]
            simp only [Option.bind_some]
            rw [rangeN_steps _ (by omega)]
            rw [show ((([] : List SJob).length : Nat) : Int) = 0 from rfl, List.nil_append, List.nil_append] at this
            rw [this]
            rfl
        erw [hleft]
        simp only [Option.bind_some]
        cases hcut : g.2.Cut
        · simp only [Bool.not_false, cond_true, cond_false]
          have hl := q309 s c g.2.Jobs
          have hjb := hg.jobs
          have hb := q359 (s := mk g.2 c (leftJ s c g.2.Jobs)) (by show engP g.2.Engine; rw [hg.eng]; exact hs.eng) hc hv h1.2 (by show wishB g.2.Engine g.2.Next = true; rw [hg.eng, hg.next]; exact hs.wish) (by show g.2.Next.length ≤ 1000000; rw [hg.next]; exact hn) (by show (leftJ s c g.2.Jobs).length ≤ 1000; omega)
          have hb' : q180 (⟨(⟨g.2.Engine.Order, g.2.Engine.First⟩ : SEngine), c, (⟨g.2.Timer.Now, g.2.Timer.Channels⟩ : STimer), g.2.Next, leftJ s c g.2.Jobs, false⟩ : SScheduler) = some (mk g.2 c (newJ s c g.2)) := by
            have e : (⟨(⟨g.2.Engine.Order, g.2.Engine.First⟩ : SEngine), c, (⟨g.2.Timer.Now, g.2.Timer.Channels⟩ : STimer), g.2.Next, leftJ s c g.2.Jobs, false⟩ : SScheduler) = mk g.2 c (leftJ s c g.2.Jobs) := by unfold mk; rw [hcut]
            rw [e, hb]; rfl
          rw [hb']
          simp only [Option.bind_some]
          have hll := q351 hg hs hc hv hcut
          have ha := sarm_eq hll.rows (.inr hc) hll.now0 hll.now1 hll.n1 hll.n8 (by have := hll.most; omega)
          show (bif decide (((newJ s c g.2).length : Int) > 200) then _ else _) = _
          cases decide (((newJ s c g.2).length : Int) > 200)
          · simp only [cond_false]
            rw [ha]; rfl
          · rfl
        · simp only [Bool.not_true, cond_true, cond_false]
          unfold mk
          rw [hcut]
      · rfl
    · rfl
  · rfl
theorem q528 (s : SScheduler) (c : SClock) (hn : s.Next.length ≤ 1000) (hj : s.Jobs.length ≤ 1000000) : q168 s c = some (toothV s c) := by
  unfold q168 toothV
  rw [bind2, q509 s c (by omega) hj]
  simp only [Option.bind_some]
  cases h1 : !schB s || !clkB c
  · simp only [cond_false]
    cases h2 : !c.Valid
    · simp only [cond_false]
      cases h3 : decide (c.At < s.Timer.Now)
      · simp only [cond_false]
        simp only [Bool.or_eq_false_iff, Bool.not_eq_false'] at h1
        have hv : c.Valid = true := by simpa using h2
        have hs := q280.1 h1.1
        have hc := clkOk h1.2 hv
        have hle : s.Timer.Now ≤ c.At := by simpa using h3
        obtain ⟨_, hg⟩ := gone hs hc hle
        rw [rgo_eq (.of hs) c.At hle (by omega)]
        simp only [Option.bind_some]
        unfold toothG
        generalize goE c.At s = g at hg
        have hcb : angB c.Angle = true := q133.2 ⟨hc.an0, hc.an1⟩
        have hjb := hg.jobs
        have hleft : (bif s.Clock.Valid then (Option.bind (loopM (q54 s c) (0, g.2.Jobs)) fun (t : (Int × List SJob) ⊕ Empty) => match t with | .inl s3 => (some s3.2) | .inr r => r.elim) else (some g.2.Jobs)) = some (leftJ s c g.2.Jobs) := by
          unfold leftJ
          cases hsv : s.Clock.Valid
          · rfl
          · have := q454 (s := s) (c := c) (clk_ang hs hsv) hcb g.2.Jobs.length (by omega) g.2.Jobs [] (by simp) (fun j hj => (hg.live.rows.job j hj).left)
            simp only [cond_true]
            rw [show ((([] : List SJob).length : Nat) : Int) = 0 from rfl, List.nil_append, List.nil_append] at this
            rw [this]
            rfl
        erw [hleft]
        simp only [Option.bind_some]
        have hl := q309 s c g.2.Jobs
        cases hcut : g.2.Cut
        · simp only [Bool.not_false, cond_true, cond_false]
          rw [q546 hc]
          simp only [Option.bind_some]
          have heng : engP g.2.Engine := by rw [hg.eng]; exact hs.eng
          have hn8 := heng.2.1
          have hb := q437 (c := c) (r2 := (g.2, g.1)) (t := tickV c) hc heng (by show wishB g.2.Engine g.2.Next = true; rw [hg.eng, hg.next]; exact hs.wish) (by show g.2.Next.length ≤ 1000; rw [hg.next]; exact hn) g.2.Engine.Order 0 (leftJ s c g.2.Jobs) rfl (by omega) (by omega)
          rw [show (((0 : Nat) : Int)) = 0 from rfl] at hb
          rw [hb]
          simp only [Option.bind_some]
          have hll := q351 hg hs hc hv hcut
          have ha := rarm_eq hll.rows hll.clk hll.now0 hll.now1 hll.n8 (by have := hll.most; omega)
          show (bif decide (((newJ s c g.2).length : Int) > 200) then _ else _) = _
          cases decide (((newJ s c g.2).length : Int) > 200)
          · simp only [cond_false]
            have e : (⟨(⟨g.2.Engine.Order, g.2.Engine.First⟩ : SEngine), c, (⟨g.2.Timer.Now, g.2.Timer.Channels⟩ : STimer), g.2.Next, leftJ s c g.2.Jobs ++ g.2.Engine.Order.flatMap (addV g.2.Engine c g.2.Next (tickV c)), false⟩ : SScheduler) = mk g.2 c (newJ s c g.2) := by unfold mk newJ; rw [hcut]
            rw [e, ha]
            rfl
          · rfl
        · simp only [Bool.not_true, cond_true, cond_false]
          have hll := q424 hg hc hv hcut
          have ha := rarm_eq hll.rows hll.clk hll.now0 hll.now1 hll.n8 (by have := hll.most; omega)
          have e : (⟨(⟨g.2.Engine.Order, g.2.Engine.First⟩ : SEngine), c, (⟨g.2.Timer.Now, g.2.Timer.Channels⟩ : STimer), g.2.Next, leftJ s c g.2.Jobs, true⟩ : SScheduler) = mk g.2 c (leftJ s c g.2.Jobs) := by unfold mk; rw [hcut]
          rw [e, ha]
          simp only [Option.bind_some]
          have e2 : armV (mk g.2 c (leftJ s c g.2.Jobs)) = mk g.2 c (leftJ s c g.2.Jobs) := by
            unfold armV
            rw [show (mk g.2 c (leftJ s c g.2.Jobs)).Cut = true from hcut]
            rfl
          rw [e2]
      · rfl
    · rfl
  · rfl
end Go.Pv.Sc
set_option linter.unusedSimpArgs false
namespace Go.Pv.Sc
open Go Go.Pv Go.Pv.Ev
theorem q492 {α : Type} (l : List α) : (l.all fun _ => true) = true := by simp
theorem q390 (s : SScheduler) (h1 : s.Engine.Order.length ≤ 1000000) (h2 : s.Next.length ≤ 1000000) (h3 : s.Jobs.length ≤ 1000000) (h4 : s.Timer.Channels.length ≤ 1000000) : q135 s s = some true := by
  unfold q135
  have k1 := loopM_allL (mb := q146 s s) (fun i => (i : Int)) (p := fun _ => true) (b0 := .inl (s.Engine.Order.length : Int)) (b1 := .inr false) s.Engine.Order (by simp [q146]) (fun j y hy => by
    have hj := (List.getElem?_eq_some_iff.1 hy).1
    unfold q146
    rw [show decide ((j : Int) < (s.Engine.Order.length : Int)) = true from decide_eq_true (by omega), getI_nat, hy, w64_of (n := (j : Int) + 1) (by omega) (by omega)]
    simp)
  have k2 := loopM_allL (mb := q143 s s) (fun i => (i : Int)) (p := fun _ => true) (b0 := .inl (s.Next.length : Int)) (b1 := .inr false) s.Next (by simp [q143]) (fun j y hy => by
    have hj := (List.getElem?_eq_some_iff.1 hy).1
    unfold q143
    rw [show decide ((j : Int) < (s.Next.length : Int)) = true from decide_eq_true (by omega), getI_nat, hy, w64_of (n := (j : Int) + 1) (by omega) (by omega)]
    simp)
  have k3 := loopM_allL (mb := q142 s s) (fun i => (i : Int)) (p := fun _ => true) (b0 := .inl (s.Jobs.length : Int)) (b1 := .inr false) s.Jobs (by simp [q142]) (fun j y hy => by
    have hj := (List.getElem?_eq_some_iff.1 hy).1
    unfold q142
    rw [show decide ((j : Int) < (s.Jobs.length : Int)) = true from decide_eq_true (by omega), getI_nat, hy, w64_of (n := (j : Int) + 1) (by omega) (by omega)]
    simp)
  rw [show ((0 : Nat) : Int) = 0 from rfl, q492] at k1 k2 k3
  rw [k1, k2, k3, Tm.q390 s.Timer (by omega)]
  simp
theorem q480 (l : List SSwitch) (h : l.length ≤ 1000000) : q128 l l = some true := by
  unfold q128
  have k1 := loopM_allL (mb := q90 l l) (fun i => (i : Int)) (p := fun _ => true) (b0 := .inl (l.length : Int)) (b1 := .inr false) l (by simp [q90]) (fun j y hy => by
    have hj := (List.getElem?_eq_some_iff.1 hy).1
    unfold q90
    rw [show decide ((j : Int) < (l.length : Int)) = true from decide_eq_true (by omega), getI_nat, hy, w64_of (n := (j : Int) + 1) (by omega) (by omega)]
    simp)
  rw [show ((0 : Nat) : Int) = 0 from rfl, q492] at k1
  rw [k1]
  simp
theorem goE_len {n : Nat} {s : SScheduler} (h : Live n s) (to : Int) (h1 : s.Timer.Now ≤ to) : (goE to s).1.length ≤ 16000 := by
  have hm := h.most
  obtain ⟨_, _, _, _, _, _, r7, _⟩ := go_run to s.Jobs.length s [] h (Nat.le_refl _) (by simp; omega) h1
  unfold goE
  simp only [List.length_nil] at r7 ⊢
  omega
structure Small (t : SScheduler × List SSwitch × Int) : Prop where
  o : t.1.Engine.Order.length ≤ 1000000
  n : t.1.Next.length ≤ 1000000
  j : t.1.Jobs.length ≤ 1000000
  c : t.1.Timer.Channels.length ≤ 1000000
  w : t.2.1.length ≤ 1000000
theorem q301 (e : Int) : Small (zeroS, [], e) := ⟨by simp [zeroS], by simp [zeroS], by simp [zeroS], by simp [zeroS], by simp⟩
theorem q508 {s : SScheduler} {c : SClock} (hn : s.Next.length ≤ 1000) : Small (toothV s c) := by
  unfold toothV
  cases h1 : !schB s || !clkB c
  · simp only [cond_false]
    cases h2 : !c.Valid
    · simp only [cond_false]
      cases h3 : decide (c.At < s.Timer.Now)
      · simp only [cond_false]
        simp only [Bool.or_eq_false_iff, Bool.not_eq_false'] at h1
        have hv : c.Valid = true := by simpa using h2
        have hs := q280.1 h1.1
        have hc := clkOk h1.2 hv
        have hle : s.Timer.Now ≤ c.At := by simpa using h3
        obtain ⟨_, hg⟩ := gone hs hc hle
        have hgl := goE_len (.of hs) c.At hle
        have ho := hs.eng.2.1
        unfold toothG
        cases hcut : (goE c.At s).2.Cut
        · simp only [cond_false]
          cases h4 : decide (((newJ s c (goE c.At s).2).length : Int) > 200)
          · have hl := q429 (q351 hg hs hc hv hcut)
            have ha := q402 (mk (goE c.At s).2 c (newJ s c (goE c.At s).2))
            have e1 : (armV (mk (goE c.At s).2 c (newJ s c (goE c.At s).2))).Engine = s.Engine := ha.eng.trans hg.eng
            have e3 : (armV (mk (goE c.At s).2 c (newJ s c (goE c.At s).2))).Next = s.Next := ha.next.trans hg.next
            have l1 := hl.len
            have l2 := hl.most
            simp only [cond_false]
            refine ⟨?_, ?_, ?_, ?_, ?_⟩
            · simp only; rw [e1]; omega
            · simp only; rw [e3]; omega
            · simp only; omega
            · simp only; omega
            · simp only; omega
          · exact q301 _
        · have hl := q424 hg hc hv hcut
          have l1 := hl.len
          have l2 := hl.most
          simp only [cond_true]
          refine ⟨?_, ?_, ?_, ?_, ?_⟩
          · show (goE c.At s).2.Engine.Order.length ≤ _; rw [hg.eng]; omega
          · show (goE c.At s).2.Next.length ≤ _; rw [hg.next]; omega
          · simp only; omega
          · simp only; omega
          · simp only; omega
      · exact q301 _
    · exact q301 _
  · exact q301 _
def z0 : SChannel := ⟨false, 0, false, false⟩
def k0 : SClock := ⟨false, 0, 0, 0, 0, 0⟩
def newS (e : SEngine) : SScheduler := ⟨e, k0, ⟨0, List.replicate (2 * e.Order.length) z0⟩, [], [], false⟩
theorem snew_eq (e : SEngine) : q164 e = some (bif decide (engP e) then (newS e, 0) else (zeroS, 1)) := by
  unfold q164
  rw [q307]
  cases hd : decide (engP e)
  · rfl
  · have he := of_decide_eq_true hd
    have h1 := he.1; have h2 := he.2.1
    simp only [Option.bind_some, Bool.not_true, cond_false]
    rw [w64_of (n := 2 * (e.Order.length : Int)) (by omega) (by omega), show 2 * (e.Order.length : Int) = ((2 * e.Order.length : Nat) : Int) by omega, Tm.new_eq _ (by omega) (by omega)]
    simp only [Option.bind_some]
    unfold q243 q400
    rw [appendM_ok _ _ (by simp; omega)]
    rfl
def wishS (s : SScheduler) (l : List SFire) : SScheduler := ⟨s.Engine, s.Clock, s.Timer, l, s.Jobs, s.Cut⟩
theorem q575 (s : SScheduler) (l : List SFire) (hn : s.Next.length ≤ 1000000) (hj : s.Jobs.length ≤ 1000000) (hl : l.length ≤ 1000000) : q153 s l = some (bif schB s && wishB s.Engine l then (wishS s l, 0) else (zeroS, 1)) := by
  unfold q153
  rw [q397 s hn hj]
  cases hd : schB s
  · rfl
  · have hs := q280.1 hd
    simp only [Option.bind_some, Bool.not_true, cond_false]
    rw [q476 _ _ hs.eng hl]
    cases wishB s.Engine l
    · rfl
    · simp only [Option.bind_some, Bool.not_true, cond_false]
      rw [q463 s hn hj]
      simp only [Option.bind_some]
      unfold q124
      rw [appendM_ok _ _ (by simp; omega)]
      rfl
def e1 : SEngine := ⟨[1], 0⟩
def f1 : SFire := ⟨1, 640, 2000, 0, 0, 0, 0⟩
def c1 : SClock := ⟨true, 1000, 5760, 1000, 384, 384⟩
def c2 : SClock := ⟨true, 2000, 44544, 1000, 384, 384⟩
def xa : SEvent := ⟨45440, 2, 1, 0⟩
def xb : SEvent := ⟨44672, 1, 1, 0⟩
def s1 : SScheduler := wishS (newS e1) [f1]
theorem srt2 : srt [xa, xb] = [xb, xa] := by
  refine uniqE (srt_asc _) ?_ ((q432 _).trans (List.Perm.swap _ _ _))
  have : ltE xa xb = false := by decide
  first
    | exact List.Pairwise.cons (by intro y hy; simp at hy; subst hy; exact this) (List.Pairwise.cons (by simp) List.Pairwise.nil)
    | simp [Asc, this]
theorem plan1 : planV e1 [f1] 60000 = ([xb, xa], 0) := by
  have h : [f1].flatMap (evs e1 60000) = [xa, xb] := by rfl
  have g1 : decide (engP e1) = true := by decide +kernel
  have g2 : badF e1 [f1] = false := by decide +kernel
  have g3 : tickB 60000 = true := by decide +kernel
  have g4 : dupB [f1] = false := by decide +kernel
  have g5 : [f1].any (long 60000) = false := by decide +kernel
  unfold planV
  rw [g1, g2, g3, g4, g5, h, srt2]
  rfl
theorem win1 : winV e1 f1 5760 60000 = [xb, xa] := by
  unfold winV
  rw [plan1]
  have ho : ordW 5760 [xb, xa] = [xb, xa] := by rfl
  have ha : accB 5760 [xb, xa] = true := by decide +kernel
  show (bif accB 5760 (ordW 5760 [xb, xa]) then ordW 5760 [xb, xa] else []) = _
  rw [ho, ha]
  rfl
theorem tick1 : tickV c1 = 60000 ∧ tickV c2 = 60000 := by decide +kernel
theorem beg1 : beg e1 1 = 5760 := by decide +kernel
theorem add1 (k : SClock) : addV e1 k [f1] 60000 1 = bif decide (dst k.Angle 5760 ≥ k.Ahead) then [] else [shJ (dst k.Angle 5760) 5760 xb, shJ (dst k.Angle 5760) 5760 xa] := by
  unfold addV
  rw [beg1, show ([f1].filter fun f => f.Cylinder == 1) = [f1] from rfl]
  simp only [List.flatMap_cons, List.flatMap_nil, List.append_nil]
  unfold addF
  rw [show f1.Cylinder = 1 from rfl, beg1, win1]
  rfl
theorem newJ1 (s : SScheduler) (c : SClock) (g : SScheduler) (hE : g.Engine = e1) (hN : g.Next = [f1]) (ht : tickV c = 60000) : newJ s c g = leftJ s c g.Jobs ++ (bif decide (dst c.Angle 5760 ≥ c.Ahead) then [] else [shJ (dst c.Angle 5760) 5760 xb, shJ (dst c.Angle 5760) 5760 xa]) := by
  unfold newJ
  rw [hE, hN, ht, ← add1]
  show _ ++ List.flatMap (addV e1 c [f1] 60000) [1] = _
  rw [List.flatMap_cons, List.flatMap_nil, List.append_nil]
def g1 : SScheduler := put s1 1000 (s1.Timer.Channels, [])
def s2 : SScheduler := armV (mk g1 c1 [shJ 0 5760 xb, shJ 0 5760 xa])
theorem go1 : goE 1000 s1 = ([], g1) := by rfl
theorem tooth1 : toothV s1 c1 = (s2, [], 0) := by
  have a1 : (!schB s1 || !clkB c1) = false := by decide +kernel
  have a2 : (!c1.Valid) = false := rfl
  have a3 : decide (c1.At < s1.Timer.Now) = false := by decide +kernel
  have a4 : newJ s1 c1 g1 = [shJ 0 5760 xb, shJ 0 5760 xa] := by
    rw [newJ1 s1 c1 g1 rfl rfl tick1.1]
    rfl
  unfold toothV
  rw [a1, a2, a3, show c1.At = 1000 from rfl, go1]
  simp only [cond_false]
  unfold toothG
  simp only
  rw [a4]
  rfl
def g2 : SScheduler := put s2 2000 (s2.Timer.Channels, s2.Jobs)
theorem go2 : goE 2000 s2 = ([], g2) := by rfl
def s3 : SScheduler := armV (mk g2 c2 [shiftJ 38784 (shJ 0 5760 xb), shiftJ 38784 (shJ 0 5760 xa)])
theorem tooth2 : toothV s2 c2 = (s3, [], 0) := by
  have a1 : (!schB s2 || !clkB c2) = false := by decide +kernel
  have a2 : (!c2.Valid) = false := rfl
  have a3 : decide (c2.At < s2.Timer.Now) = false := by decide +kernel
  have a4 : newJ s2 c2 g2 = [shiftJ 38784 (shJ 0 5760 xb), shiftJ 38784 (shJ 0 5760 xa)] := by
    rw [newJ1 s2 c2 g2 rfl rfl tick1.2]
    rfl
  unfold toothV
  rw [a1, a2, a3, show c2.At = 2000 from rfl, go2]
  simp only [cond_false]
  unfold toothG
  simp only
  rw [a4]
  rfl
theorem q585 : q175 = some true := by
  have n1 : q164 e1 = some (newS e1, 0) := by
    rw [snew_eq, show decide (engP e1) = true by decide +kernel]; rfl
  have w1 : q153 (newS e1) [f1] = some (s1, 0) := by
    rw [q575 _ _ (by decide) (by decide) (by decide), show (schB (newS e1) && wishB (newS e1).Engine [f1]) = true by decide +kernel]; rfl
  have t1 : q42 s1 c1 = some (s2, [], 0) := by
    rw [q386 _ _ (by decide) (by decide), tooth1]
  have t2 : q42 s2 c2 = some (s3, [], 0) := by
    rw [q386 _ _ (by decide +kernel) (by decide +kernel), tooth2]
  unfold q175 q257
  simp only [Option.bind_some]
  show Option.bind (q164 e1) _ = _
  rw [n1]
  simp only [Option.bind_some]
  show Option.bind (q153 (newS e1) [f1]) _ = _
  rw [w1]
  simp only [Option.bind_some]
  show Option.bind (q42 s1 c1) _ = _
  rw [t1]
  simp only [Option.bind_some]
  rw [show (((((0 : Int) != 0) || ((0 : Int) != 0)) || ((0 : Int) != 0)) || ((s2.Jobs.length : Int) != 2)) = false by decide +kernel]
  simp only [cond_false]
  show Option.bind (q42 s2 c2) _ = _
  rw [t2]
  simp only [Option.bind_some]
  rfl
theorem q567 (s : SScheduler) (c : SClock) : q66 s c = some true := by
  unfold q66
  rw [q585]
  simp only [Option.bind_some, Bool.not_true, cond_false]
  unfold q234
  simp only [Option.bind_some]
  cases hg : (((decide ((s.Jobs.length : Int) > 40)) || (decide ((s.Next.length : Int) > 20))) || (decide ((s.Timer.Channels.length : Int) > 40))) || (decide ((s.Engine.Order.length : Int) > 20))
  · simp only [Bool.or_eq_false_iff, decide_eq_false_iff_not] at hg
    simp only [cond_false]
    rw [q386 s c (by omega) (by omega), q528 s c (by omega) (by omega)]
    simp only [Option.bind_some]
    have hs := q508 (s := s) (c := c) (by omega)
    have hok := q560 (s := s) (c := c)
    generalize toothV s c = t at hs hok
    show (Option.bind (q135 t.1 t.1) _) = _
    rw [q390 t.1 hs.o hs.n hs.j hs.c]
    simp only [Option.bind_some, cond_true]
    rw [q480 _ hs.w]
    simp only [Option.bind_some, Bool.true_and, beq_self_eq_true, cond_true]
    cases h0 : t.2.2 != 0
    · have h1 : t.2.2 = 0 := by simpa using h0
      simp only [cond_false]
      show (Option.bind (Option.bind (Option.bind (q64 t.1) _) _) _) = _
      rw [q397 t.1 hs.n hs.j, q280.2 (hok h1)]
      rfl
    · rfl
  · rfl
end Go.Pv.Sc
namespace Go.Pv
open Go
theorem q360 (x0 : SScheduler) (x1 : SClock) (g0 : wf_SScheduler x0) (g1 : wf_SClock x1)  : q66 x0 x1 = some true :=
  have _ := g0
  have _ := g1
  Sc.q567 x0 x1
end Go.Pv
namespace Go.Proofs.YtldhbjpnlehpgaaGreat.schedulerTeeth
open Go Go.Pv Go.Proofs Go.ChangeShapes Go.WideShapes Go.ChangeAt Go.RowKit Go.Proofs.YtldhbjpnlehpgaaGreat
theorem own : ownKnob Tryz.prog.godebug = none := by kernel_rfl
theorem laidOut : laidOutB Tryz.prog = true := by kernel_rfl
set_option maxRecDepth 100000 in
theorem lifted (os : Os) (started : os.Started) (H : Type) (enc : TypeId × Value → H) :
    ReturnsInHanded {} Tryz.checked os 3 .any (Rows.schedulerTeethSpec.pre6 enc Tryz.prog Tryz.f3 Rows.schedulerTeethRow.domain false) (Rows.schedulerTeethSpec.post enc Tryz.prog Tryz.f3 false true false false) := by
  refine returnsInHanded_of_change (C := Tryz.checked) own started (by kernel_rfl) Tryz.func3
    (ChangeSpec.witness6 (enc := enc) (C := Tryz.checked) false ⟨#[], #[.agg #[.slice none 0 0, .int .i64 0, .bool false, .int .i64 0, .int .i64 0, .int .i64 0, .int .i64 0, .int .i64 0, .int .i64 0, .slice none 0 0, .slice none 0 0, .slice none 0 0, .bool false], .agg #[.bool false, .int .i64 0, .int .i64 0, .int .i64 0, .int .i64 0, .int .i64 0]], []⟩ 16 (by kernel_rfl) (by kernel_rfl) (by kernel_rfl) (by kernel_rfl)) ?_
  intro W base args ds gs before hval0 hW hcnd _
  have hval : ∀ (j : Nat) t v, Tryz.f3.params[j]? = some t → args[j]? = some v → Value.okWide Tryz.prog W .any base t v := hval0
  have hW' := hW
  obtain ⟨p, q, hA0, hV, rfl, hfz, hnd⟩ := hW
  have hA : DataW.TrodAll enc Tryz.prog W 0 (fun _ => true) true Tryz.f3.params.toList args.toList ds p := hA0
  rw [Tryz.params3] at hA hval
  obtain ⟨v0, vs0, d0, ds0, p0, q0, hargs, rfl, rfl, h0, r0⟩ := trodAll_cons hA
  obtain ⟨v1, vs1, d1, ds1, p1, q1, rfl, rfl, rfl, h1, r1⟩ := trodAll_cons r0
  obtain ⟨rfl, rfl, rfl⟩ := trodAll_nil r1
  obtain rfl : args = #[v0, v1] := by cases args; simp_all
  obtain ⟨rfl, rfl⟩ := trodVars_none hV
  have k0 := h0
  have lt0 : ∀ x ∈ p0, x.block < W.heap.size := by obtain ⟨m, hm⟩ := k0; exact DataW.trod_lt m _ _ _ hm
  obtain ⟨x0, g0, a0⟩ := arg_33 _ _ W _ _ _ _ (hval 0 33 v0 rfl rfl) h0
  have k1 := h1
  have lt1 : ∀ x ∈ p1, x.block < W.heap.size := by obtain ⟨m, hm⟩ := k1; exact DataW.trod_lt m _ _ _ hm
  obtain ⟨x1, g1, a1⟩ := arg_26 _ _ W _ _ _ _ (hval 1 26 v1 rfl rfl) h1
  clear hA0 hval0
  refine (TieF.calls (q267 x0 x1) (q360 x0 x1 g0 g1) (rvl_cons (a0 _) (rvl_cons (a1 _) rvl_nil))).mono fun e W' ⟨he, bel⟩ => ?_
  subst he
  exact ⟨_, rfl, _, _, _, [], _, [], hW', trodAll_mk1 (shut_bool Tryz.underlying4 _), (trodAll_cons_mk (Below.trod laidOut (by kernel_rfl) (of_decide_eq_true (by kernel_rfl)) k0 bel lt0) (trodAll_cons_mk (Below.trod laidOut (by kernel_rfl) (of_decide_eq_true (by kernel_rfl)) k1 bel lt1) trodAll_mk0)), rfl, bel.frame _, fun h => by cases h⟩
end Go.Proofs.YtldhbjpnlehpgaaGreat.schedulerTeeth
namespace Go.Proofs.YtldhbjpnlehpgaaGreat
theorem schedulerTeeth_holds : Rows.SchedulerTeethSaid :=
  OpenClaim.holds_of_wide 3 Tryz.f3 rfl rfl rfl rfl rfl rfl rfl ⟨rfl, rfl, rfl, rfl, rfl⟩ rfl rfl rfl rfl rfl (by kernel_rfl) Tryz.func3 (by kernel_rfl)
    (of_decide_eq_true (by kernel_rfl)) (by unfold Func.isWrapper; first | (rw [if_pos (by decide +kernel)]; kernel_rfl) | (rw [if_neg (by decide +kernel)]; exact ⟨rfl, rfl⟩))
    (fun os started H enc _ => schedulerTeeth.lifted os started H enc)
#print axioms schedulerTeeth_holds
end Go.Proofs.YtldhbjpnlehpgaaGreat

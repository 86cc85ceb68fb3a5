/- This file joins: Plain Lean: what scheduler's arm and goOn compute, and their references. Plain Lean: scheduler's goOn, and its reference. Plain Lean: stable insertion, the order of a fire's window in the scheduler and in its reference. Plain Lean: a fire's window in the scheduler, and in its reference. Plain Lean: scheduler's plan = its reference's window. Plain Lean: what arith's quotients are. Plain Lean: what a tooth's time begins, in the scheduler and in its reference. Plain Lean: what a tooth's time begins, in the reference. Plain Lean: scheduler's Tooth = its reference, and what comes of it is valid. Plain Lean: Tooth and the reference's Tooth compute toothV. Plain Lean: SchedulerTeeth. Plain Lean: SchedulerStates. Plain Lean: a scheduler that is cut; SchedulerSafe. Plain Lean: what Cut makes. Plain Lean: SchedulerSafe. Plain Lean: SchedulerSafe. The plain law of SchedulerSafe. -/
import Derived.Test.YtldhbjpnlehpgaaGreatSchedulerSafeI
set_option linter.unusedSimpArgs false
set_option linter.unusedVariables false
set_option linter.unusedSimpArgs false
namespace Go.Pv.Sc
open Go Go.Pv Go.Pv.Ev
theorem radv_eq (t : STimer) (to : Int) (h : Tm.timB t = true) : q176 t to = some (⟨to, t.Channels.map (Tm.advC to)⟩, Tm.advS to t.Channels) := by
  have hl := Tm.q196 h
  unfold q176
  rw [Tm.copy_eq _ (by omega)]
  simp only [Option.bind_some]
  rw [Tm.q337 _ (by omega)]
  simp only [Option.bind_some]
  have hc : t.Channels.countP (Tm.due to) ≤ 16 := Nat.le_trans List.countP_le_length hl.2.1
  obtain ⟨a, b, h⟩ := Tm.q532 to t 16 t.Channels [] hc hl.2.1 (by simp)
  rw [h]
  rfl
def upV (a b : Int) : Int := -((-a) / b)
theorem up_eq (a b : Int) (h0 : -4611686018427387904 ≤ a) (h1 : a ≤ 4611686018427387904) (hb : 0 < b) (hb1 : b ≤ 4611686018427387904) : q239 a b = some (upV a b) := by
  unfold q239 quoM remM upV
  rw [if_neg (by omega), if_neg (by omega)]
  simp only [Option.bind_some]
  obtain ⟨k, rfl⟩ : ∃ k : Nat, b = k := ⟨b.toNat, by omega⟩
  have hk : k > 0 := by omega
  by_cases ha : 0 ≤ a
  · obtain ⟨m, rfl⟩ : ∃ m : Nat, a = m := ⟨a.toNat, by omega⟩
    have e1 : Int.tdiv (m : Int) (k : Int) = ((m / k : Nat) : Int) := rfl
    have e2 : Int.tmod (m : Int) (k : Int) = ((m % k : Nat) : Int) := rfl
    rw [e1, e2]
    have hq : m / k ≤ m := Nat.div_le_self _ _
    have hr := Nat.mod_lt m hk
    have hd := Nat.div_add_mod m k
    generalize m / k = q at hq hd
    generalize m % k = r at hr hd
    have ew : IntKind.i64.wrap (q : Int) = (q : Int) := w64_of (by omega) (by omega)
    rw [ew]
    by_cases hr0 : r = 0
    · subst hr0
      have : -(m : Int) = (k : Int) * (-(q : Int)) := by rw [Int.mul_neg]; have : (m : Int) = ((k * q : Nat) : Int) := by omega
                                                         rw [this]; push_cast; rfl
      rw [this, Int.mul_ediv_cancel_left _ (by omega)]
      simp
    · have e3 : decide ((r : Int) > 0) = true := by simp; omega
      rw [e3, w64_of (by omega) (by omega)]
      simp only [cond_true, Option.some.injEq]
      have : -(m : Int) = ((k - r : Nat) : Int) + (k : Int) * (-(q : Int) - 1) := by
        have h5 : (k : Int) * (-(q : Int) - 1) = -((k * q : Nat) : Int) - (k : Int) := by rw [Int.mul_sub, Int.mul_neg, Int.mul_one]; push_cast; rfl
        rw [h5]; omega
      rw [this, Int.add_mul_ediv_left _ _ (by omega), Int.ediv_eq_zero_of_lt (by omega) (by omega)]
      omega
  · obtain ⟨m, rfl⟩ : ∃ m : Nat, a = -(m : Int) := ⟨a.natAbs, by omega⟩
    have e1 : Int.tdiv (-(m : Int)) (k : Int) = -((m / k : Nat) : Int) := by rw [Int.neg_tdiv]; rfl
    have e2 : Int.tmod (-(m : Int)) (k : Int) = -((m % k : Nat) : Int) := by rw [Int.neg_tmod]; rfl
    rw [e1, e2, Int.neg_neg]
    have e4 : (m : Int) / (k : Int) = ((m / k : Nat) : Int) := rfl
    rw [e4]
    have hq : m / k ≤ m := Nat.div_le_self _ _
    generalize m / k = q at hq
    generalize m % k = r
    have e3 : decide (-(r : Int) > 0) = false := decide_eq_false (by omega)
    have ew : IntKind.i64.wrap (-(q : Int)) = -(q : Int) := w64_of (by omega) (by omega)
    rw [e3, ew]
    rfl
theorem rup_eq (a b : Int) (h0 : -4611686018427387904 ≤ a) (h1 : a ≤ 4611686018427387904) (hb : 0 < b) (hb1 : b ≤ 4611686018427387904) : q245 a b = some (upV a b) := by
  unfold q245 upV
  rw [w64_of (n := 0 - a) (by omega) (by omega), show 0 - a = -a by omega, R1.q503 _ _ (by omega) (by omega) hb hb1]
  simp only [Option.bind_some, Option.some.injEq]
  have h2 : -4611686018427387904 ≤ (-a) / b := by
    rw [Int.le_ediv_iff_mul_le hb]
    have : -4611686018427387904 * b ≤ -4611686018427387904 * 1 := Int.mul_le_mul_of_nonpos_left (by omega) (by omega)
    omega
  have h3 : (-a) / b ≤ 4611686018427387904 := by
    apply Int.le_of_lt_add_one
    rw [Int.ediv_lt_iff_lt_mul hb]
    have : (4611686018427387904 + 1) * 1 ≤ (4611686018427387904 + 1) * b := Int.mul_le_mul_of_nonneg_left (by omega) (by omega)
    omega
  rw [w64_of (by omega) (by omega)]
  omega
theorem q499 {a b : Int} (hb : 0 < b) (h0 : -1125899906842624 ≤ a) (h1 : a ≤ 1125899906842624) : -1125899906842624 ≤ upV a b ∧ upV a b ≤ 1125899906842624 := by
  unfold upV
  have h2 : -1125899906842624 ≤ (-a) / b := by
    rw [Int.le_ediv_iff_mul_le hb]
    have : -1125899906842624 * b ≤ -1125899906842624 * 1 := Int.mul_le_mul_of_nonpos_left (by omega) (by omega)
    omega
  have h3 : (-a) / b ≤ 1125899906842624 := by
    apply Int.le_of_lt_add_one
    rw [Int.ediv_lt_iff_lt_mul hb]
    have : (1125899906842624 + 1) * 1 ≤ (1125899906842624 + 1) * b := Int.mul_le_mul_of_nonneg_left (by omega) (by omega)
    omega
  omega
def split (c : Int) : List SJob → Option (List SJob × SJob × List SJob)
  | [] => none
  | j :: r => if chn j.Event = c then some ([], j, r) else (split c r).map fun t => (j :: t.1, t.2.1, t.2.2)
theorem q173 {c : Int} : ∀ {l : List SJob} {a : List SJob} {j : SJob} {b : List SJob}, split c l = some (a, j, b) → l = a ++ j :: b ∧ chn j.Event = c ∧ ∀ y ∈ a, chn y.Event ≠ c
  | [], a, j, b, h => by simp [split] at h
  | x :: r, a, j, b, h => by
    simp only [split] at h
    by_cases hc : chn x.Event = c
    · rw [if_pos hc] at h
      cases h
      exact ⟨rfl, hc, fun y hy => by simp at hy⟩
    · rw [if_neg hc] at h
      cases hs : split c r with
      | none => rw [hs] at h; simp at h
      | some t =>
        obtain ⟨a', j', b'⟩ := t
        rw [hs] at h
        simp only [Option.map_some, Option.some.injEq, Prod.mk.injEq] at h
        obtain ⟨rfl, rfl, rfl⟩ := h
        obtain ⟨h1, h2, h3⟩ := q173 hs
        exact ⟨by rw [h1]; rfl, h2, fun y hy => by
          rcases List.mem_cons.1 hy with rfl | hy
          · exact hc
          · exact h3 y hy⟩
theorem q405 {c : Int} : ∀ {l : List SJob}, split c l = none → ∀ y ∈ l, chn y.Event ≠ c
  | [], _, y, hy => by simp at hy
  | x :: r, h, y, hy => by
    simp only [split] at h
    by_cases hc : chn x.Event = c
    · rw [if_pos hc] at h; cases h
    · rw [if_neg hc] at h
      cases hs : split c r with
      | none =>
        rcases List.mem_cons.1 hy with rfl | hy
        · exact hc
        · exact q405 hs y hy
      | some t => rw [hs] at h; simp at h
theorem q152 (a b : List SJob) (c : Int) : mine (a ++ b) c = mine a c ++ mine b c := by unfold mine; rw [List.filter_append]
theorem q247 {l : List SJob} {c : Int} (h : ∀ y ∈ l, chn y.Event ≠ c) : mine l c = [] := by
  unfold mine
  rw [List.filter_eq_nil_iff]
  intro y hy
  simpa using h y hy
theorem q341 {j : SJob} {l : List SJob} {c : Int} (h : chn j.Event = c) : mine (j :: l) c = j :: mine l c := by unfold mine; rw [List.filter_cons_of_pos (by simpa using h)]
theorem q340 {j : SJob} {l : List SJob} {c : Int} (h : chn j.Event ≠ c) : mine (j :: l) c = mine l c := by unfold mine; rw [List.filter_cons_of_neg (by simpa using h)]
theorem q409 {c : Int} {l a b : List SJob} {j : SJob} (h : split c l = some (a, j, b)) : mine l c = j :: mine b c := by
  obtain ⟨rfl, h2, h3⟩ := q173 h
  rw [q152, q247 h3, List.nil_append, q341 h2]
theorem q504 {c : Int} {l : List SJob} (h : split c l = none) : mine l c = [] := q247 (q405 h)
def firstI (c : Int) (l : List SJob) : Int := match split c l with | some t => (t.1.length : Int) | none => -1
theorem q378 (c : Int) (n : Nat) (hn : n ≤ 8) : ∀ (l : List SJob) (i : Nat), (∀ j ∈ l, JobOk n j) → stepsL (fun (i : Int) x (_ : Unit) => Option.bind (q54 x c) fun v => bif v then (some (Fl.ret i)) else (some (Fl.next ()))) l (i : Int) () =
    some (match split c l with | some t => .inr ((i + t.1.length : Nat) : Int) | none => .inl ())
  | [], i, _ => rfl
  | j :: l, i, h => by
    have hj := h j (List.mem_cons_self ..)
    simp only [stepsL, q54, (chan_eq hj hn).1, Option.bind_some, split]
    by_cases hc : chn j.Event = c
    · have e : (chn j.Event == c) = true := by simpa using hc
      rw [e, if_pos hc]; rfl
    · have e : (chn j.Event == c) = false := by simpa using hc
      rw [e, if_neg hc]
      simp only [cond_false, Option.bind_some]
      have := q378 c n hn l (i + 1) (fun y hy => h y (List.mem_cons_of_mem _ hy))
      rw [show ((i : Int) + 1) = ((i + 1 : Nat) : Int) by omega]
      unfold q54 at this
      rw [this]
      cases split c l with
      | none => rfl
      | some t => simp; omega
theorem q289 (c : Int) (n : Nat) (hn : n ≤ 8) (l : List SJob) (hl : l.length ≤ 1000000) (h : ∀ j ∈ l, JobOk n j) : q21 l (fun x0 => q54 x0 c) = some (firstI c l) := by
  unfold q21 q87
  rw [rangeN_list l (by omega) (fun (i : Int) x (_ : Unit) => Option.bind (q54 x c) fun v => bif v then (some (Fl.ret i)) else (some (Fl.next ())))]
  have := q378 c n hn l 0 h
  rw [show ((0 : Nat) : Int) = 0 from rfl] at this
  rw [this]
  unfold firstI
  cases split c l with
  | none => rfl
  | some t => simp
theorem q411 (s : SScheduler) (c : Int) (n : Nat) (hn : n ≤ 8) (hl : s.Jobs.length ≤ 1000000) (h : ∀ j ∈ s.Jobs, JobOk n j) : ∀ (r : List SJob) (i : Nat), s.Jobs.drop i = r → i ≤ s.Jobs.length →
    loopM (q75 s c) (i : Int) = some (match split c r with | some t => .inr ((i + t.1.length : Nat) : Int) | none => .inl (s.Jobs.length : Int))
  | [], i, hd, hi => by
    have : i = s.Jobs.length := by have := List.drop_eq_nil_iff.1 hd; omega
    subst this
    refine loopM_out ?_
    unfold q75; simp [split]
  | y :: r, i, hd, hi => by
    have hy : s.Jobs[i]? = some y := by rw [← List.head?_drop, hd]; rfl
    have hlt := (List.getElem?_eq_some_iff.1 hy).1
    have hd' : s.Jobs.drop (i + 1) = r := by rw [← List.drop_drop, hd]; rfl
    have hym := List.mem_iff_getElem?.2 ⟨i, hy⟩
    have e1 : decide ((i : Int) < (s.Jobs.length : Int)) = true := by simp; omega
    have ew : w64 ((i : Int) + 1) = ((i + 1 : Nat) : Int) := by rw [w64_of (by omega) (by omega)]; omega
    have hb : q75 s c (i : Int) = some (if chn y.Event = c then .inr (.inr (i : Int)) else .inl ((i + 1 : Nat) : Int)) := by
      unfold q75
      simp only [e1, cond_true, getI_nat, hy, Option.bind_some, (chan_eq (h y hym) hn).2, ew]
      by_cases hc : chn y.Event = c
      · have e : (chn y.Event == c) = true := by simpa using hc
        rw [e, if_pos hc]; rfl
      · have e : (chn y.Event == c) = false := by simpa using hc
        rw [e, if_neg hc]; rfl
    simp only [split]
    by_cases hc : chn y.Event = c
    · rw [if_pos hc] at hb
      rw [loopM_out hb, if_pos hc]; rfl
    · rw [if_neg hc] at hb
      rw [loopM_next hb, q411 s c n hn hl h r (i + 1) hd' (by omega), if_neg hc]
      cases split c r with
      | none => rfl
      | some t => simp; omega
theorem q505 (s : SScheduler) (c : Int) (n : Nat) (hn : n ≤ 8) (hl : s.Jobs.length ≤ 1000000) (h : ∀ j ∈ s.Jobs, JobOk n j) : q204 s c = some (firstI c s.Jobs) := by
  unfold q204
  have := q411 s c n hn hl h s.Jobs 0 rfl (by omega)
  rw [show ((0 : Nat) : Int) = 0 from rfl] at this
  rw [this]
  unfold firstI
  cases split c s.Jobs with
  | none => rfl
  | some t => simp
def armAt (now : Int) (k : SClock) (j : SJob) : Int := maxI (k.At + upV (j.Left * k.Period) k.Space) (now + 1)
def armC (now : Int) (k : SClock) (c : Nat) (u : List SChannel × List SJob) : List SChannel × List SJob :=
  match split (c : Int) u.2 with
  | none => u
  | some (a, j, b) => if j.Left > k.Ahead ∨ armAt now k j > 1099511627776 then u else
      match u.1[c]? with
      | none => u
      | some x => (u.1.set c ⟨true, armAt now k j, onK j.Event.Kind, x.Level⟩, a ++ ⟨j.Event, j.Left, true, armAt now k j⟩ :: b)
def armN (now : Int) (k : SClock) : Nat → List SChannel × List SJob → List SChannel × List SJob
  | 0, u => u
  | c + 1, u => armC now k c (armN now k c u)
structure Rows (n : Nat) (now : Int) (u : List SChannel × List SJob) : Prop where
  len : u.1.length = 2 * n
  ch : ∀ x ∈ u.1, Tm.chB now x = true
  job : ∀ j ∈ u.2, JobOk n j
  row : ∀ c (h : c < u.1.length), rowB (mine u.2 (c : Int)) u.1[c] = true
theorem chB_set {now at_ : Int} {b l : Bool} (h0 : now < at_) (h1 : at_ ≤ 1099511627776) : Tm.chB now ⟨true, at_, b, l⟩ = true := by
  unfold Tm.chB
  simp only [cond_true, Bool.not_eq_true', Bool.or_eq_false_iff, decide_eq_false_iff_not]
  omega
theorem q452 (now : Int) (k : SClock) (j : SJob) : now < armAt now k j := by unfold armAt maxI; split <;> omega
theorem row_arm {j : SJob} {r : List SJob} {x : SChannel} (at_ : Int) (h : rowB (j :: r) x = true) : rowB (⟨j.Event, j.Left, true, at_⟩ :: r) ⟨true, at_, onK j.Event.Kind, x.Level⟩ = true := by
  unfold rowB at h ⊢
  simp only [Bool.and_eq_true, Bool.not_eq_true'] at h
  obtain ⟨⟨⟨h1, _⟩, _⟩, h4⟩ := h
  have hk : onK j.Event.Kind = !x.Level := by cases hk : onK j.Event.Kind <;> cases hx : x.Level <;> simp_all
  simp [h1, h4, hk]
theorem q547 {n : Nat} {now : Int} {k : SClock} {c : Nat} {u : List SChannel × List SJob} (h : Rows n now u) : Rows n now (armC now k c u) := by
  unfold armC
  cases hs : split (c : Int) u.2 with
  | none => exact h
  | some t =>
    obtain ⟨a, j, b⟩ := t
    simp only
    split
    · exact h
    · rename_i hq
      have hq1 : armAt now k j ≤ 1099511627776 := by
        by_cases h5 : armAt now k j > 1099511627776
        · exact absurd (.inr h5) hq
        · omega
      cases hx : u.1[c]? with
      | none => exact h
      | some x =>
        obtain ⟨hc, rfl⟩ := List.getElem?_eq_some_iff.1 hx
        obtain ⟨hl, hj, ha⟩ := q173 hs
        have hjm : j ∈ u.2 := by rw [hl]; simp
        have hjk := h.job j hjm
        refine ⟨by simp [h.len], fun y hy => ?_, fun y hy => ?_, fun d hd => ?_⟩
        · rcases List.mem_or_eq_of_mem_set hy with hy | rfl
          · exact h.ch y hy
          · exact chB_set (q452 now k j) hq1
        · simp only [List.mem_append, List.mem_cons] at hy
          rcases hy with hy | rfl | hy
          · exact h.job y (by rw [hl]; simp [hy])
          · exact ⟨hjk.cyl, hjk.kind, hjk.angle, hjk.pulse, hjk.left, .inl rfl⟩
          · exact h.job y (by rw [hl]; simp [hy])
        · simp only [List.length_set] at hd
          have hrow := h.row d hd
          simp only [List.getElem_set]
          by_cases hdc : c = d
          · subst hdc
            rw [if_pos rfl, q152, q247 ha, List.nil_append, q341 (by exact hj)]
            rw [q409 hs] at hrow
            exact row_arm _ hrow
          · rw [if_neg hdc, q152, q340 (by show chn j.Event ≠ (d : Int); rw [hj]; omega)]
            rw [hl, q152, q340 (by rw [hj]; omega)] at hrow
            exact hrow
theorem q271 {n : Nat} {now : Int} {k : SClock} {u : List SChannel × List SJob} (h : Rows n now u) : ∀ m, Rows n now (armN now k m u)
  | 0 => h
  | m + 1 => q547 (q271 h m)
theorem q483 (now : Int) (k : SClock) (c : Nat) (u : List SChannel × List SJob) : (armC now k c u).2.length = u.2.length := by
  unfold armC
  cases hs : split (c : Int) u.2 with
  | none => rfl
  | some t =>
    obtain ⟨a, j, b⟩ := t
    simp only
    split
    · rfl
    · cases u.1[c]? with
      | none => rfl
      | some x =>
        have := (q173 hs).1
        simp [this]
theorem q236 (now : Int) (k : SClock) (u : List SChannel × List SJob) : ∀ m, (armN now k m u).2.length = u.2.length
  | 0 => rfl
  | m + 1 => by rw [armN, q483, q236 now k u m]
theorem q326 (now : Int) (k : SClock) (ch : List SChannel) : ∀ m, armN now k m (ch, []) = (ch, [])
  | 0 => rfl
  | m + 1 => by rw [armN, q326 now k ch m]; rfl
theorem q416 {n : Nat} {k : SClock} {j : SJob} (hk : ClkOk k) (hj : JobOk n j) : (-1125899906842624 ≤ j.Left * k.Period ∧ j.Left * k.Period ≤ 1125899906842624) ∧ (-1125899906842624 ≤ upV (j.Left * k.Period) k.Space ∧ upV (j.Left * k.Period) k.Space ≤ 1125899906842624) := by
  have h1 := hj.left; have h2 := hk.p0; have h3 := hk.p1; have h4 := hk.s0
  have a : j.Left * k.Period ≤ 1048576 * 1073741824 := by
    by_cases h0 : 0 ≤ j.Left
    · exact Int.mul_le_mul h1.2 h3 (by omega) (by omega)
    · have : j.Left * k.Period ≤ 0 := Int.mul_nonpos_of_nonpos_of_nonneg (by omega) (by omega)
      omega
  have b : -(1048576 * 1073741824) ≤ j.Left * k.Period := by
    by_cases h0 : 0 ≤ j.Left
    · have : 0 ≤ j.Left * k.Period := Int.mul_nonneg h0 (by omega)
      omega
    · have : (-j.Left) * k.Period ≤ 1048576 * 1073741824 := Int.mul_le_mul (by omega) h3 (by omega) (by omega)
      rw [Int.neg_mul] at this
      omega
  exact ⟨⟨by omega, by omega⟩, q499 (by omega) (by omega) (by omega)⟩
theorem timB_of {n : Nat} {now : Int} {u : List SChannel × List SJob} (h : Rows n now u) (h0 : 0 ≤ now) (h1 : now ≤ 1099511627776) (hn : 1 ≤ n) (hn8 : n ≤ 8) : Tm.timB ⟨now, u.1⟩ = true := by
  unfold Tm.timB
  have hl := h.len
  rw [Tm.q456 (by simp only; omega)]
  simp only [Bool.not_false, Bool.true_and, List.all_eq_true]
  exact h.ch
theorem set_mid (a b : List SJob) (j j' : SJob) : setM (a ++ j :: b) (a.length : Int) j' = some (a ++ j' :: b) := by
  rw [setM_nat _ _ _ (by simp)]
  simp
theorem get_mid (a b : List SJob) (j : SJob) : getI (a ++ j :: b) (a.length : Int) = some j := by
  rw [getI_nat]; simp
theorem q517 {n : Nat} {s : SScheduler} {now : Int} {u : List SChannel × List SJob} (hu : Rows n now u) (hk : ClkOk s.Clock) (h0 : 0 ≤ now) (h1 : now ≤ 1099511627776) (hn : 1 ≤ n) (hn8 : n ≤ 8) (hl : u.2.length ≤ 1000000) (c : Nat) (hc : c < 2 * n) :
    q59 s (c : Int) (⟨now, u.1⟩, u.2) = some (.next (⟨now, (armC now s.Clock c u).1⟩, (armC now s.Clock c u).2)) := by
  unfold q59
  simp only
  rw [q289 (c : Int) n hn8 u.2 hl hu.job]
  have hcl : c < u.1.length := by rw [hu.len]; exact hc
  unfold firstI armC
  cases hs : split (c : Int) u.2 with
  | none => rfl
  | some t =>
    obtain ⟨a, j, b⟩ := t
    obtain ⟨hl2, hj, ha⟩ := q173 hs
    have hjm : j ∈ u.2 := by rw [hl2]; simp
    have hjk := hu.job j hjm
    obtain ⟨r1, r2⟩ := q416 hk hjk
    have hka := hk.at0; have hka1 := hk.at1
    simp only [Option.bind_some]
    have e1 : decide ((a.length : Int) < 0) = false := by simp
    have eg : getI u.2 (a.length : Int) = some j := by rw [hl2]; exact get_mid a b j
    rw [e1, eg]
    simp only [cond_false, Option.bind_some]
    by_cases hla : j.Left > s.Clock.Ahead
    · rw [decide_eq_true hla, if_pos (.inl hla)]
      rfl
    · rw [decide_eq_false hla]
      simp only [cond_false]
      rw [w64_of (n := j.Left * s.Clock.Period) (by omega) (by omega), up_eq _ _ (by omega) (by omega) (by have := hk.s0; omega) (by have := hk.s1; omega)]
      simp only [Option.bind_some]
      rw [w64_of (n := s.Clock.At + upV (j.Left * s.Clock.Period) s.Clock.Space) (by omega) (by omega), w64_of (n := now + 1) (by omega) (by omega)]
      have hat : maxI (s.Clock.At + upV (j.Left * s.Clock.Period) s.Clock.Space) (now + 1) = armAt now s.Clock j := rfl
      rw [hat]
      by_cases hmx : armAt now s.Clock j > 1099511627776
      · rw [decide_eq_true hmx, if_pos (.inr hmx)]; rfl
      · rw [decide_eq_false hmx, if_neg (by omega)]
        simp only [cond_false]
        have eo : q200 j.Event.Kind = some (onK j.Event.Kind) := rfl
        rw [eo]
        simp only [Option.bind_some]
        have hgt := q452 now s.Clock j
        have e2 : decide (armAt now s.Clock j ≤ now) = false := by simp; omega
        have e3 : decide (armAt now s.Clock j > Tm.MAXT) = false := by unfold Tm.MAXT; simp; omega
        rw [Tm.arm_eq ⟨now, u.1⟩ _ _ _ c rfl hcl (timB_of hu h0 h1 hn hn8)]
        simp only
        rw [e2, e3]
        simp only [cond_false, Option.bind_some, beq_self_eq_true, cond_true]
        rw [hl2, set_mid]
        simp only [Option.bind_some]
        rw [set_mid, List.getElem?_eq_getElem hcl]
        rfl
theorem arm_run {n : Nat} {s : SScheduler} {now : Int} {u : List SChannel × List SJob} (hu : Rows n now u) (hk : ClkOk s.Clock) (h0 : 0 ≤ now) (h1 : now ≤ 1099511627776) (hn : 1 ≤ n) (hn8 : n ≤ 8) (hl : u.2.length ≤ 1000000) :
    rangeN ((2 * n : Nat) : Int) (q59 s) (⟨now, u.1⟩, u.2) = some (.inl (⟨now, (armN now s.Clock (2 * n) u).1⟩, (armN now s.Clock (2 * n) u).2)) := by
  obtain ⟨t, k1, k2⟩ := rangeN_inv (R := Empty) (2 * n) (by omega) (q59 s) (fun c t => t = (⟨now, (armN now s.Clock c u).1⟩, (armN now s.Clock c u).2)) (⟨now, u.1⟩, u.2) rfl (fun c hc t ht => by
    subst ht
    refine ⟨_, q517 (q271 hu c) hk h0 h1 hn hn8 (by rw [q236]; exact hl) c hc, rfl⟩)
  rw [k1, k2]
def put (s : SScheduler) (now : Int) (u : List SChannel × List SJob) : SScheduler := ⟨s.Engine, s.Clock, ⟨now, u.1⟩, s.Next, u.2, s.Cut⟩
def armV (s : SScheduler) : SScheduler := if s.Cut then s else put s s.Timer.Now (armN s.Timer.Now s.Clock s.Timer.Channels.length (s.Timer.Channels, s.Jobs))
theorem q338 (s : SScheduler) (t : STimer) : ∀ (k i : Nat), stepsN (q59 s) k (i : Int) (t, []) = some (.inl (t, []))
  | 0, _ => rfl
  | k + 1, i => by
    have : q59 s (i : Int) (t, []) = some (.next (t, [])) := by
      unfold q59
      have hi : q21 [] (fun x0 => q54 x0 (i : Int)) = some (-1) := by
        unfold q21
        rw [show ((([] : List SJob).length : Nat) : Int) = ((0 : Nat) : Int) from rfl, rangeN_steps 0 (by decide)]
        rfl
      simp only [hi]
      rfl
    simp only [stepsN, this, Option.bind_some]
    exact q338 s t k (i + 1)
theorem sarm_eq {n : Nat} {s : SScheduler} (hu : Rows n s.Timer.Now (s.Timer.Channels, s.Jobs)) (hk : s.Jobs = [] ∨ ClkOk s.Clock) (h0 : 0 ≤ s.Timer.Now) (h1 : s.Timer.Now ≤ 1099511627776) (hn : 1 ≤ n) (hn8 : n ≤ 8) (hl : s.Jobs.length ≤ 1000000) :
    q181 s = some (armV s) := by
  unfold q181 armV
  have hlen := hu.len
  simp only at hlen
  cases hcut : s.Cut
  · simp only [cond_false, Bool.false_eq_true, if_false]
    rcases hk with hk | hk
    · rw [hk, q326, rangeN_steps _ (by omega)]
      have := q338 s s.Timer s.Timer.Channels.length 0
      rw [show ((0 : Nat) : Int) = 0 from rfl] at this
      rw [this]
      unfold put
      simp only [Option.bind_some, hcut]
    · have := arm_run (s := s) hu hk h0 h1 hn hn8 hl
      simp only at this
      have e : (⟨s.Timer.Now, s.Timer.Channels⟩ : STimer) = s.Timer := rfl
      rw [e] at this
      rw [hlen, this]
      unfold put
      simp only [Option.bind_some, hcut]
  · rfl
theorem q498 {n : Nat} {s : SScheduler} {u : List SChannel × List SJob} (hu : Rows n s.Timer.Now u) (hk : ClkOk s.Clock) (h0 : 0 ≤ s.Timer.Now) (h1 : s.Timer.Now ≤ 1099511627776) (hn8 : n ≤ 8) (hl : u.2.length ≤ 1000000) (c : Nat) (hc : c < 2 * n) :
    q68 s ((c : Int), u.1, u.2) = some (.inl (((c + 1 : Nat) : Int), (armC s.Timer.Now s.Clock c u).1, (armC s.Timer.Now s.Clock c u).2)) := by
  have hcl : c < u.1.length := by rw [hu.len]; exact hc
  have hul := hu.len
  unfold q68
  simp only
  have e0 : decide ((c : Int) < (u.1.length : Int)) = true := by simp; omega
  have ew : w64 ((c : Int) + 1) = ((c + 1 : Nat) : Int) := by rw [w64_of (by omega) (by omega)]; omega
  rw [e0, q505 _ (c : Int) n hn8 hl hu.job, ew]
  simp only [cond_true]
  unfold firstI armC
  cases hs : split (c : Int) u.2 with
  | none => rfl
  | some t =>
    obtain ⟨a, j, b⟩ := t
    obtain ⟨hl2, hj, ha⟩ := q173 hs
    have hjm : j ∈ u.2 := by rw [hl2]; simp
    have hjk := hu.job j hjm
    obtain ⟨r1, r2⟩ := q416 hk hjk
    have hka := hk.at0; have hka1 := hk.at1
    simp only [Option.bind_some]
    have e1 : decide ((a.length : Int) < 0) = false := by simp
    have eg : getI u.2 (a.length : Int) = some j := by rw [hl2]; exact get_mid a b j
    rw [e1, eg]
    simp only [cond_false, Option.bind_some]
    by_cases hla : j.Left > s.Clock.Ahead
    · rw [decide_eq_true hla, if_pos (.inl hla)]
      rfl
    · rw [decide_eq_false hla]
      simp only [cond_false]
      rw [w64_of (n := j.Left * s.Clock.Period) (by omega) (by omega), rup_eq _ _ (by omega) (by omega) (by have := hk.s0; omega) (by have := hk.s1; omega)]
      simp only [Option.bind_some]
      rw [w64_of (n := s.Clock.At + upV (j.Left * s.Clock.Period) s.Clock.Space) (by omega) (by omega), w64_of (n := s.Timer.Now + 1) (by omega) (by omega)]
      have hat : maxI (s.Clock.At + upV (j.Left * s.Clock.Period) s.Clock.Space) (s.Timer.Now + 1) = armAt s.Timer.Now s.Clock j := rfl
      rw [hat]
      by_cases hmx : armAt s.Timer.Now s.Clock j > 1099511627776
      · rw [decide_eq_false (by omega), if_pos (.inr hmx)]; rfl
      · rw [decide_eq_true (by omega), if_neg (by omega)]
        simp only [cond_true]
        have eo : q67 j.Event.Kind = some (onK j.Event.Kind) := rfl
        rw [eo, getI_get _ _ hcl, List.getElem?_eq_getElem hcl, hl2, set_mid]
        simp only [Option.bind_some]
        rw [set_mid]
        simp only [Option.bind_some]
        rw [setM_nat _ _ _ hcl]
        rfl
theorem q522 {n : Nat} {s : SScheduler} {u : List SChannel × List SJob} (hu : Rows n s.Timer.Now u) (hk : ClkOk s.Clock) (h0 : 0 ≤ s.Timer.Now) (h1 : s.Timer.Now ≤ 1099511627776) (hn8 : n ≤ 8) (hl : u.2.length ≤ 1000000) :
    loopM (q68 s) (0, u.1, u.2) = some (.inl (((2 * n : Nat) : Int), armN s.Timer.Now s.Clock (2 * n) u)) := by
  obtain ⟨t, k1, k2⟩ := loopM_inv (mb := q68 s) (fun c t => t = ((c : Int), armN s.Timer.Now s.Clock c u)) (fun t => t = .inl (((2 * n : Nat) : Int), armN s.Timer.Now s.Clock (2 * n) u)) (2 * n) 0 (0, u.1, u.2) rfl (fun c _ hc t ht => by
    subst ht
    have := q498 (s := s) (q271 (k := s.Clock) hu c) hk h0 h1 hn8 (by rw [q236]; exact hl) c (by omega)
    exact ⟨_, this, rfl⟩) (fun t ht => by
    subst ht
    have hlen := (q271 (k := s.Clock) hu (0 + 2 * n)).len
    unfold q68
    have e0 : decide (((0 + 2 * n : Nat) : Int) < ((armN s.Timer.Now s.Clock (0 + 2 * n) u).1.length : Int)) = false := by rw [hlen]; simp
    simp only [e0, cond_false]
    exact ⟨_, rfl, by rw [Nat.zero_add]⟩)
  rw [k1, k2]
theorem rarm_eq {n : Nat} {s : SScheduler} (hu : Rows n s.Timer.Now (s.Timer.Channels, s.Jobs)) (hk : (s.Clock.Valid = false ∧ s.Jobs = []) ∨ (s.Clock.Valid = true ∧ ClkOk s.Clock)) (h0 : 0 ≤ s.Timer.Now) (h1 : s.Timer.Now ≤ 1099511627776) (hn8 : n ≤ 8) (hl : s.Jobs.length ≤ 1000000) :
    q228 s = some (armV s) := by
  unfold q228 armV
  have hlen := hu.len
  simp only at hlen
  cases hcut : s.Cut
  · simp only [Bool.false_or, Bool.false_eq_true, if_false]
    rcases hk with ⟨hv, hk⟩ | ⟨hv, hk⟩
    · have e : armN s.Timer.Now s.Clock s.Timer.Channels.length (s.Timer.Channels, s.Jobs) = (s.Timer.Channels, s.Jobs) := by rw [hk, q326]
      rw [hv, e]
      rfl
    · rw [hv, hlen]
      have := q522 (s := s) hu hk h0 h1 hn8 hl
      simp only at this
      simp only [Bool.not_true, cond_false]
      rw [this]
      unfold put
      simp only [Option.bind_some, hcut]
  · rfl
end Go.Pv.Sc
set_option linter.unusedSimpArgs false
namespace Go.Pv.Sc
open Go Go.Pv Go.Pv.Ev
theorem q332 {α : Type} (f : α → Option Bool) (p : α → Bool) : ∀ (l : List α) (i : Nat), (∀ y ∈ l, f y = some (p y)) → stepsL (fun (i : Int) x (_ : Unit) => Option.bind (f x) fun v => bif v then (some (Fl.ret i)) else (some (Fl.next ()))) l (i : Int) () =
    some (match l.findIdx? p with | some k => .inr ((i + k : Nat) : Int) | none => .inl ())
  | [], i, _ => rfl
  | y :: l, i, h => by
    simp only [stepsL, h y (List.mem_cons_self ..), Option.bind_some, List.findIdx?_cons]
    cases p y
    · have := q332 f p l (i + 1) (fun y hy => h y (List.mem_cons_of_mem _ hy))
      rw [show ((i : Int) + 1) = ((i + 1 : Nat) : Int) by omega]
      simp only [cond_false, Option.bind_some, Bool.false_eq_true, if_false]
      rw [this]
      cases l.findIdx? p with
      | none => rfl
      | some k => simp; omega
    · simp
theorem find_eq (l : List SJob) (hl : l.length ≤ 1000000) (f : SJob → Option Bool) (p : SJob → Bool) (h : ∀ y ∈ l, f y = some (p y)) : q21 l f = some (match l.findIdx? p with | some k => (k : Int) | none => -1) := by
  unfold q21 q87
  rw [rangeN_list l (by omega) (fun (i : Int) x (_ : Unit) => Option.bind (f x) fun v => bif v then (some (Fl.ret i)) else (some (Fl.next ())))]
  have := q332 f p l 0 h
  rw [show ((0 : Nat) : Int) = 0 from rfl] at this
  rw [this]
  cases l.findIdx? p with
  | none => rfl
  | some k => simp
theorem q433 {α : Type} {p : α → Bool} : ∀ {l : List α} {k : Nat}, l.findIdx? p = some k → k < l.length ∧ (l.take (k + 1)).filter (fun y => !p y) = l.take k
  | [], k, h => by simp at h
  | y :: l, k, h => by
    rw [List.findIdx?_cons] at h
    cases hp : p y
    · rw [hp] at h
      simp only [Bool.false_eq_true, if_false] at h
      cases hf : l.findIdx? p with
      | none => rw [hf] at h; simp at h
      | some m =>
        rw [hf] at h
        simp only [Option.map_some, Option.some.injEq] at h
        subst h
        obtain ⟨h1, h2⟩ := q433 hf
        exact ⟨by simpa using h1, by simp only [List.take_succ_cons, List.filter_cons, hp, Bool.not_false, if_true]; rw [h2]⟩
    · rw [hp] at h
      simp only [if_true, Option.some.injEq] at h
      subst h
      exact ⟨by simp, by simp [hp]⟩
theorem q495 {α : Type} {p : α → Bool} {l : List α} (h : l.findIdx? p = none) : l.filter (fun y => !p y) = l := by
  rw [List.findIdx?_eq_none_iff] at h
  rw [List.filter_eq_self]
  intro y hy
  simp [h y hy]
theorem q475 {α : Type} (s : List α) (i : Nat) (z : α) (hi : i ≤ s.length) : sliceM (clearVM s (i : Int) (s.length : Int) z) 0 (i : Int) = some (s.take i) := by
  have e : clearVM s (i : Int) (s.length : Int) z = s.take i ++ List.replicate (s.length - i) z := by
    unfold clearVM copyAt
    simp only [Int.toNat_natCast, List.length_replicate]
    rw [List.drop_eq_nil_of_le (by omega), List.append_nil]
  have hl : (s.take i ++ List.replicate (s.length - i) z).length = s.length := by
    rw [List.length_append, List.length_take, List.length_replicate]; omega
  rw [e]
  unfold sliceM
  rw [if_pos ⟨by omega, by omega, by rw [hl]; omega⟩]
  simp only [Int.toNat_natCast, Int.toNat_zero, List.drop_zero, Nat.sub_zero]
  rw [List.take_append_of_le_length (by rw [List.length_take]; omega), List.take_take, Nat.min_self]
theorem del_eq (l : List SJob) (hl : l.length ≤ 1000000) (f : SJob → Option Bool) (p : SJob → Bool) (h : ∀ y ∈ l, f y = some (p y)) : q70 l f = some (l.filter fun y => !p y) := by
  unfold q70
  rw [find_eq l hl f p h]
  cases hf : l.findIdx? p with
  | none => simp only [Option.bind_some]; rw [q495 hf]; rfl
  | some v =>
    obtain ⟨hv, htk⟩ := q433 hf
    simp only [Option.bind_some]
    have e0 : ((v : Int) == -1) = false := beq_eq_false_iff_ne.2 (by omega)
    rw [e0, w64_of (n := (v : Int) + 1) (by omega) (by omega)]
    simp only [cond_false]
    obtain ⟨t, k1, k2⟩ := loopM_inv (mb := q79 f)
      (fun j st => ∃ i : Nat, st.1 = (i : Int) ∧ st.2.1 = ((v + 1 + j : Nat) : Int) ∧ i < v + 1 + j ∧ i = ((l.take (v + 1 + j)).filter fun y => !p y).length ∧ st.2.2.length = l.length ∧ st.2.2.take i = ((l.take (v + 1 + j)).filter fun y => !p y) ∧ st.2.2.drop (v + 1 + j) = l.drop (v + 1 + j))
      (fun t => ∃ (s : List SJob) (i : Nat), t = .inl ((i : Int), (l.length : Int), s) ∧ s.length = l.length ∧ i ≤ l.length ∧ s.take i = l.filter fun y => !p y) (l.length - (v + 1)) 0 ((v : Int), (v : Int) + 1, l)
      ⟨v, rfl, by push_cast; omega, by omega, by rw [Nat.add_zero, htk, List.length_take]; omega, rfl, by rw [Nat.add_zero, htk], rfl⟩
      (fun j _ hj st ⟨i, h1, h2, h3, h4, h5, h6, h7⟩ => by
        have hjl : v + 1 + j < l.length := by omega
        have hget : getI st.2.2 st.2.1 = some l[v + 1 + j] := by
          rw [h2, getI_nat, ← List.head?_drop, h7, List.head?_drop, List.getElem?_eq_getElem hjl]
        have hlt : decide (st.2.1 < (st.2.2.length : Int)) = true := by rw [h2, h5]; simp; omega
        have htk2 : l.take (v + 1 + (j + 1)) = l.take (v + 1 + j) ++ [l[v + 1 + j]] := by rw [← Nat.add_assoc]; exact List.take_succ_eq_append_getElem hjl
        have hdr : ∀ s : List SJob, s.drop (v + 1 + j) = l.drop (v + 1 + j) → s.drop (v + 1 + (j + 1)) = l.drop (v + 1 + (j + 1)) := fun s hs => by
          rw [← Nat.add_assoc, ← List.drop_drop, hs, List.drop_drop]
        unfold q79
        rw [hlt, hget]
        simp only [cond_true, Option.bind_some, h _ (List.getElem_mem hjl)]
        rw [h2, w64_of (n := ((v + 1 + j : Nat) : Int) + 1) (by omega) (by omega)]
        cases hp : p l[v + 1 + j]
        · have hi : i < st.2.2.length := by omega
          simp only [Bool.not_false, cond_true]
          rw [h1, getI_get _ _ hi]
          simp only [Option.bind_some]
          rw [setM_nat _ _ _ hi, w64_of (n := (i : Int) + 1) (by omega) (by omega)]
          have hfl : ((l.take (v + 1 + (j + 1))).filter fun y => !p y) = ((l.take (v + 1 + j)).filter fun y => !p y) ++ [l[v + 1 + j]] := by
            rw [htk2, List.filter_append]; simp [hp]
          refine ⟨_, rfl, i + 1, by push_cast; rfl, by push_cast; omega, by omega, ?_, by simp [h5], ?_, ?_⟩
          · rw [hfl, List.length_append, ← h4]; rfl
          · rw [hfl, ← h6]
            rw [List.take_succ_eq_append_getElem (by simpa using hi), List.take_set_of_le (Nat.le_refl _), List.getElem_set_self]
          · refine hdr _ ?_
            rw [List.drop_set_of_lt (by omega)]; exact h7
        · simp only [Bool.not_true, cond_false]
          have hfl : ((l.take (v + 1 + (j + 1))).filter fun y => !p y) = ((l.take (v + 1 + j)).filter fun y => !p y) := by
            rw [htk2, List.filter_append]; simp [hp]
          exact ⟨_, rfl, i, h1, by push_cast; omega, by omega, by rw [hfl]; exact h4, h5, by rw [hfl]; exact h6, hdr _ h7⟩)
      (fun st ⟨i, h1, h2, h3, h4, h5, h6, h7⟩ => by
        have hn : v + 1 + (0 + (l.length - (v + 1))) = l.length := by omega
        rw [hn] at h2 h3 h4 h6
        have hlt : decide (st.2.1 < (st.2.2.length : Int)) = false := by rw [h2, h5]; simp
        unfold q79
        rw [hlt]
        simp only [cond_false]
        refine ⟨_, rfl, st.2.2, i, ?_, h5, by omega, by rw [h6, List.take_length]⟩
        rw [h1, h2])
    obtain ⟨s, i, rfl, hs, hi, ht⟩ := k2
    rw [k1]
    simp only [Option.bind_some]
    have hc : chkM (i : Int) (s.length : Int) s.length = some () := by unfold chkM; rw [if_pos ⟨by omega, by omega, by omega⟩]
    rw [hc]
    simp only [Option.bind_some]
    have hsl : sliceM (clearVM s (i : Int) (s.length : Int) (⟨(⟨0, 0, 0, 0⟩ : SEvent), 0, false, 0⟩ : SJob)) 0 (i : Int) = some (s.take i) := q475 s i _ (by omega)
    rw [hsl, ht]
    rfl
def dueJ (at_ : Int) (j : SJob) : Bool := j.Armed && (j.At == at_)
theorem q550 (l : List SJob) (hl : l.length ≤ 1000000) (at_ : Int) : q70 l (fun x0 => q175 x0 at_) = some (l.filter fun j => !dueJ at_ j) :=
  del_eq l hl _ (dueJ at_) (fun _ _ => rfl)
theorem go_del (out : List SSwitch) (s : SScheduler) (at_ : Int) (b : Bool) (hl : s.Jobs.length ≤ 1000000) : loopM (q76 (out, s) (at_, b)) (([] : List SJob), 0) = some (.inl (s.Jobs.filter (fun j => !dueJ at_ j), (s.Jobs.length : Int))) := by
  have key : ∀ (r : List SJob) (i : Nat) (o : List SJob), s.Jobs.drop i = r → i ≤ s.Jobs.length → o.length ≤ i → loopM (q76 (out, s) (at_, b)) (o, (i : Int)) = some (.inl (o ++ r.filter (fun j => !dueJ at_ j), (s.Jobs.length : Int))) := by
    intro r
    induction r with
    | nil =>
      intro i o hd hi ho
      have : i = s.Jobs.length := by have := List.drop_eq_nil_iff.1 hd; omega
      subst this
      rw [loopM_out (b := .inl (o, (s.Jobs.length : Int)))]
      · simp
      · unfold q76; simp
    | cons y r ih =>
      intro i o hd hi ho
      have hy : s.Jobs[i]? = some y := by rw [← List.head?_drop, hd]; rfl
      have hlt := (List.getElem?_eq_some_iff.1 hy).1
      have hd' : s.Jobs.drop (i + 1) = r := by rw [← List.drop_drop, hd]; rfl
      have e1 : decide ((i : Int) < (s.Jobs.length : Int)) = true := by simp; omega
      have ew : w64 ((i : Int) + 1) = ((i + 1 : Nat) : Int) := by rw [w64_of (by omega) (by omega)]; omega
      have hb : q76 (out, s) (at_, b) (o, (i : Int)) = some (bif !dueJ at_ y then .inl (o ++ [y], ((i + 1 : Nat) : Int)) else .inl (o, ((i + 1 : Nat) : Int))) := by
        unfold q76
        simp only [e1, cond_true, getI_nat, hy, Option.bind_some, ew]
        rw [appendM_ok _ _ (by simp; omega)]
        unfold dueJ
        cases y.Armed
        · rfl
        · cases hat : y.At == at_
          · have : (y.At != at_) = true := by simp only [bne, hat]; rfl
            simp [this]
          · have : (y.At != at_) = false := by simp only [bne, hat]; rfl
            simp [this]
      cases hd2 : dueJ at_ y
      · rw [hd2] at hb
        rw [loopM_next hb, ih (i + 1) (o ++ [y]) hd' (by omega) (by simp; omega)]
        simp [hd2]
      · rw [hd2] at hb
        rw [loopM_next hb, ih (i + 1) o hd' (by omega) (by omega)]
        simp [hd2]
  have := key s.Jobs 0 [] rfl (by omega) (by simp)
  rw [show ((0 : Nat) : Int) = 0 from rfl] at this
  rw [this]
  rfl
def advU (at_ : Int) (u : List SChannel × List SJob) : List SChannel × List SJob := (u.1.map (Tm.advC at_), u.2.filter fun j => !dueJ at_ j)
theorem q379 : ∀ {l : List SJob} {lv : Bool}, alt l lv = true → ∀ k ∈ l, k.Armed = false
  | [], lv, _, k, hk => by simp at hk
  | j :: r, lv, h, k, hk => by
    simp only [alt, Bool.and_eq_true, Bool.not_eq_true'] at h
    rcases List.mem_cons.1 hk with rfl | hk
    · exact h.1.2
    · exact q379 h.2 k hk
theorem alt_row {l : List SJob} {lv : Bool} (h : alt l lv = true) : rowB l ⟨false, 0, false, lv⟩ = true := by
  cases l with
  | nil => simpa [rowB, alt] using h
  | cons j r =>
    simp only [alt, Bool.and_eq_true, Bool.not_eq_true'] at h
    simp [rowB, h.1.1, h.1.2, h.2]
theorem q415 {l : List SJob} (at_ : Int) (h : ∀ k ∈ l, k.Armed = false) : (l.filter fun j => !dueJ at_ j) = l := by
  rw [List.filter_eq_self]
  intro k hk
  simp [dueJ, h k hk]
theorem q383 (l : List SJob) (c at_ : Int) : mine (l.filter fun j => !dueJ at_ j) c = (mine l c).filter fun j => !dueJ at_ j := by
  unfold mine
  rw [List.filter_filter, List.filter_filter]
  congr 1
  funext j
  exact Bool.and_comm _ _
theorem row_adv {l : List SJob} {x : SChannel} {at_ : Int} (h : rowB l x = true) (hmin : x.Armed = true → at_ ≤ x.At) : rowB (l.filter fun j => !dueJ at_ j) (Tm.advC at_ x) = true := by
  cases l with
  | nil =>
    simp only [rowB, Bool.and_eq_true, Bool.not_eq_true'] at h
    have : Tm.advC at_ x = x := by unfold Tm.advC Tm.due; rw [h.2]; rfl
    rw [this]
    simp [rowB, h.1, h.2]
  | cons j r =>
    have h' := h
    simp only [rowB, Bool.and_eq_true, Bool.not_eq_true', Bool.or_eq_true, beq_iff_eq] at h
    obtain ⟨⟨⟨h1, h2⟩, h3⟩, h4⟩ := h
    have hr := q415 at_ (q379 h4)
    cases hx : x.Armed
    · have hj : j.Armed = false := by rw [h2]; exact hx
      have e1 : Tm.advC at_ x = x := by unfold Tm.advC Tm.due; rw [hx]; rfl
      have e2 : dueJ at_ j = false := by unfold dueJ; rw [hj]; rfl
      rw [e1, List.filter_cons, e2]
      simp only [Bool.not_false, if_true]
      rw [hr]; exact h'
    · have hj : j.Armed = true := by rw [h2]; exact hx
      have h3' : j.At = x.At ∧ x.Next = !x.Level := by
        rcases h3 with h3 | h3
        · rw [hj] at h3; cases h3
        · exact h3
      have hm := hmin hx
      by_cases ha : x.At = at_
      · have e1 : Tm.advC at_ x = ⟨false, 0, false, !x.Level⟩ := by
          unfold Tm.advC Tm.due
          have : decide (x.At > at_) = false := by simp; omega
          rw [hx, this, h3'.2]; rfl
        have e2 : dueJ at_ j = true := by unfold dueJ; rw [hj, h3'.1, ha]; simp
        rw [e1, List.filter_cons, e2]
        simp only [Bool.not_true, Bool.false_eq_true, if_false]
        rw [hr]; exact alt_row h4
      · have e1 : Tm.advC at_ x = x := by
          unfold Tm.advC Tm.due
          have : decide (x.At > at_) = true := by simp; omega
          rw [hx, this]; rfl
        have e2 : dueJ at_ j = false := by unfold dueJ; rw [hj, h3'.1]; simp [ha]
        rw [e1, List.filter_cons, e2]
        simp only [Bool.not_false, if_true]
        rw [hr]; exact h'
theorem q513 {n : Nat} {now at_ : Int} {u : List SChannel × List SJob} (h : Rows n now u) (h0 : 0 ≤ now) (h1 : now < at_) (h2 : at_ ≤ 1099511627776) (hn : 1 ≤ n) (hn8 : n ≤ 8) (hmin : ∀ x ∈ u.1, x.Armed = true → at_ ≤ x.At) : Rows n at_ (advU at_ u) := by
  have ht := timB_of h h0 (by omega) hn hn8
  have ht2 := Tm.q526 (v_to := at_) ht (by simp only; omega) (by omega)
  refine ⟨by simp [advU, h.len], ?_, fun j hj => h.job j (List.mem_filter.1 hj).1, fun c hc => ?_⟩
  · unfold Tm.timB at ht2
    simp only [Bool.and_eq_true, List.all_eq_true] at ht2
    exact ht2.2
  · have hc' : c < u.1.length := by simpa [advU] using hc
    simp only [advU, List.getElem_map]
    rw [q383]
    exact row_adv (h.row c hc') (hmin _ (List.getElem_mem hc'))
theorem cut_adv {now at_ : Int} {l : List SJob} (h : cutB now l = true) (hle : now ≤ at_) : cutB at_ (l.filter fun j => !dueJ at_ j) = true := by
  match l, h with
  | [], _ => rfl
  | [j], h =>
    rw [List.filter_cons]
    cases dueJ at_ j
    · simp only [Bool.not_false, if_true, List.filter_nil]
      simp only [cutB, Bool.and_eq_true, decide_eq_true_eq] at h ⊢
      exact ⟨h.1, by omega⟩
    · rfl
  | i :: j :: r, h => simp [cutB] at h
theorem q455 {n : Nat} {now at_ : Int} {u : List SChannel × List SJob} (h : Rows n now u) {x : SChannel} (hx : x ∈ u.1) (ha : x.Armed = true) (hat : x.At = at_) : (advU at_ u).2.length < u.2.length := by
  obtain ⟨c, hc, rfl⟩ := List.mem_iff_getElem.1 hx
  have hr := h.row c hc
  cases hm : mine u.2 (c : Int) with
  | nil => rw [hm] at hr; simp [rowB, ha] at hr
  | cons j r =>
    rw [hm] at hr
    simp only [rowB, Bool.and_eq_true, Bool.not_eq_true', Bool.or_eq_true, beq_iff_eq] at hr
    obtain ⟨⟨⟨_, h2⟩, h3⟩, _⟩ := hr
    have hj : j.Armed = true := by rw [h2]; exact ha
    have h3' : j.At = u.1[c].At := by
      rcases h3 with h3 | h3
      · rw [hj] at h3; cases h3
      · exact h3.1
    have hjm : j ∈ u.2 := by
      have : j ∈ mine u.2 (c : Int) := by rw [hm]; exact List.mem_cons_self ..
      exact (List.mem_filter.1 this).1
    have hd : dueJ at_ j = true := by unfold dueJ; rw [hj, h3', hat]; simp
    unfold advU
    exact List.length_filter_lt_length_iff_exists.2 ⟨j, hjm, by simp [hd]⟩
structure Live (n : Nat) (s : SScheduler) : Prop where
  eng : n = s.Engine.Order.length
  n1 : 1 ≤ n
  n8 : n ≤ 8
  rows : Rows n s.Timer.Now (s.Timer.Channels, s.Jobs)
  cut : s.Cut = true → ∀ c, c < s.Timer.Channels.length → cutB s.Timer.Now (mine s.Jobs (c : Int)) = true
  now0 : 0 ≤ s.Timer.Now
  now1 : s.Timer.Now ≤ 1099511627776
  clk : (s.Clock.Valid = false ∧ s.Jobs = []) ∨ (s.Clock.Valid = true ∧ ClkOk s.Clock)
  most : s.Jobs.length ≤ 1000
theorem Live.tim {n : Nat} {s : SScheduler} (h : Live n s) : Tm.timB s.Timer = true := timB_of h.rows h.now0 h.now1 h.n1 h.n8
theorem Live.len {n : Nat} {s : SScheduler} (h : Live n s) : s.Timer.Channels.length = 2 * n := h.rows.len
theorem Live.of {s : SScheduler} (h : SchOk s) : Live s.Engine.Order.length s := by
  have ht := Tm.q196 h.tim
  refine ⟨rfl, h.eng.1, h.eng.2.1, ⟨h.chs, ?_, h.job, fun c hc => ?_⟩, fun hcut c hc => ?_, ht.2.2.1, ht.2.2.2, ?_, Nat.le_trans h.most (by decide)⟩
  · have := h.tim
    unfold Tm.timB at this
    simp only [Bool.and_eq_true, List.all_eq_true] at this
    exact this.2
  · have := h.line c hc
    unfold lineB at this
    simp only [Bool.and_eq_true] at this
    exact this.1
  · have := h.line c hc
    unfold lineB at this
    rw [hcut] at this
    simp only [Bool.not_true, Bool.false_or, Bool.and_eq_true] at this
    exact this.2
  · cases hv : s.Clock.Valid
    · exact .inl ⟨rfl, h.none hv⟩
    · exact .inr ⟨rfl, clkOk h.clk hv⟩
def stepG (at_ : Int) (s : SScheduler) : SScheduler := armV (put s at_ (advU at_ (s.Timer.Channels, s.Jobs)))
def goV (to : Int) : Nat → List SSwitch × SScheduler → List SSwitch × SScheduler
  | 0, u => u
  | f + 1, u => if (Tm.nxV u.2.Timer.Channels).2 = true ∧ (Tm.nxV u.2.Timer.Channels).1 ≤ to then goV to f (u.1 ++ Tm.advS (Tm.nxV u.2.Timer.Channels).1 u.2.Timer.Channels, stepG (Tm.nxV u.2.Timer.Channels).1 u.2) else u
structure Alike (s t : SScheduler) : Prop where
  eng : t.Engine = s.Engine
  clk : t.Clock = s.Clock
  next : t.Next = s.Next
  cut : t.Cut = s.Cut
theorem Alike.refl (s : SScheduler) : Alike s s := ⟨rfl, rfl, rfl, rfl⟩
theorem Alike.trans {s t u : SScheduler} (h : Alike s t) (k : Alike t u) : Alike s u := ⟨k.eng.trans h.eng, k.clk.trans h.clk, k.next.trans h.next, k.cut.trans h.cut⟩
theorem q366 (s : SScheduler) (now : Int) (u : List SChannel × List SJob) : Alike s (put s now u) := ⟨rfl, rfl, rfl, rfl⟩
theorem q431 (s : SScheduler) : Alike s (armV s) := by unfold armV; split; exact .refl s; exact q366 ..
theorem q464 (at_ : Int) (s : SScheduler) : Alike s (stepG at_ s) := (q366 ..).trans (q431 _)
theorem q440 {n : Nat} {s : SScheduler} (h : Live n s) : Live n (armV s) := by
  unfold armV
  cases hcut : s.Cut
  · simp only [Bool.false_eq_true, if_false]
    have hr := q271 (k := s.Clock) h.rows s.Timer.Channels.length
    refine ⟨h.eng, h.n1, h.n8, hr, fun hc => ?_, h.now0, h.now1, ?_, ?_⟩
    · have : s.Cut = true := hc
      rw [hcut] at this; cases this
    · rcases h.clk with ⟨a, b⟩ | h2
      · left
        refine ⟨a, ?_⟩
        show (armN s.Timer.Now s.Clock s.Timer.Channels.length (s.Timer.Channels, s.Jobs)).2 = []
        rw [b, q326]
      · exact .inr h2
    · show (armN s.Timer.Now s.Clock s.Timer.Channels.length (s.Timer.Channels, s.Jobs)).2.length ≤ 1000
      rw [q236]; exact h.most
  · simp only [if_true]; exact h
theorem q444 {n : Nat} {s : SScheduler} (h : Live n s) {at_ : Int} (h1 : s.Timer.Now < at_) (h2 : at_ ≤ 1099511627776) (hmin : ∀ x ∈ s.Timer.Channels, x.Armed = true → at_ ≤ x.At) : Live n (put s at_ (advU at_ (s.Timer.Channels, s.Jobs))) := by
  have hr := q513 h.rows h.now0 h1 h2 h.n1 h.n8 hmin
  refine ⟨h.eng, h.n1, h.n8, hr, fun hc c hcl => ?_, by have := h.now0; show 0 ≤ at_; omega, h2, ?_, ?_⟩
  · show cutB at_ (mine (s.Jobs.filter fun j => !dueJ at_ j) (c : Int)) = true
    rw [q383]
    exact cut_adv (h.cut hc c (by simpa [put, advU] using hcl)) (by omega)
  · rcases h.clk with ⟨a, b⟩ | h2
    · left
      refine ⟨a, ?_⟩
      show (s.Jobs.filter fun j => !dueJ at_ j) = []
      rw [b]; rfl
    · exact .inr h2
  · exact Nat.le_trans (List.length_filter_le ..) h.most
theorem nx_now {n : Nat} {s : SScheduler} (h : Live n s) (hn : (Tm.nxV s.Timer.Channels).2 = true) : s.Timer.Now < (Tm.nxV s.Timer.Channels).1 ∧ (Tm.nxV s.Timer.Channels).1 ≤ 1099511627776 ∧ (∀ x ∈ s.Timer.Channels, x.Armed = true → (Tm.nxV s.Timer.Channels).1 ≤ x.At) := by
  obtain ⟨x, hx, ha, hat⟩ := Tm.q286 hn
  have := Tm.q365 (h.rows.ch x hx) ha
  exact ⟨by omega, by omega, fun y hy hya => (Tm.q265 hy hya).2⟩
theorem q429 {n : Nat} {s : SScheduler} (h : Live n s) (hn : (Tm.nxV s.Timer.Channels).2 = true) : Live n (stepG (Tm.nxV s.Timer.Channels).1 s) := by
  obtain ⟨h1, h2, h3⟩ := nx_now h hn
  exact q440 (q444 h h1 h2 h3)
theorem q512 (at_ : Int) (s : SScheduler) : (stepG at_ s).Timer.Now = at_ := by unfold stepG armV; split <;> rfl
theorem q486 (at_ : Int) (s : SScheduler) : (stepG at_ s).Jobs.length = (advU at_ (s.Timer.Channels, s.Jobs)).2.length := by
  unfold stepG armV
  split
  · rfl
  · show (armN _ _ _ _).2.length = _
    rw [q236]; rfl
theorem go_step {n : Nat} {s : SScheduler} (h : Live n s) (to : Int) (out : List SSwitch) (ho : out.length ≤ 100000) (hn : (Tm.nxV s.Timer.Channels).2 = true) (hto : (Tm.nxV s.Timer.Channels).1 ≤ to) :
    q89 to (out, s) = some (.inl (out ++ Tm.advS (Tm.nxV s.Timer.Channels).1 s.Timer.Channels, stepG (Tm.nxV s.Timer.Channels).1 s)) ∧
    q108 to (out, s) = some (.inl (out ++ Tm.advS (Tm.nxV s.Timer.Channels).1 s.Timer.Channels, stepG (Tm.nxV s.Timer.Channels).1 s)) := by
  obtain ⟨h1, h2, h3⟩ := nx_now h hn
  have hput := q444 h h1 h2 h3
  have hlen := h.len
  have hn8 := h.n8
  have hal : (Tm.advS (Tm.nxV s.Timer.Channels).1 s.Timer.Channels).length ≤ 16 := by have := Tm.q447 (Tm.nxV s.Timer.Channels).1 s.Timer.Channels; omega
  have et : (⟨s.Timer.Now, s.Timer.Channels⟩ : STimer) = s.Timer := rfl
  have hg : decide ((Tm.nxV s.Timer.Channels).1 > to) = false := by simp; omega
  have ha1 : decide ((Tm.nxV s.Timer.Channels).1 < s.Timer.Now) = false := by simp; omega
  have ha2 : decide ((Tm.nxV s.Timer.Channels).1 > Tm.MAXT) = false := by unfold Tm.MAXT; simp; omega
  have hj := h.most
  constructor
  · unfold q89
    simp only [et]
    rw [Tm.next_eq, h.tim]
    simp only [cond_true, Option.bind_some, hn, hg, Bool.not_true, Bool.or_self, cond_false]
    rw [Tm.adv_eq, h.tim, ha1, ha2]
    simp only [Bool.not_true, cond_false, Option.bind_some]
    rw [appendM_ok _ _ (by omega), q550 _ (by omega)]
    simp only [Option.bind_some]
    have := sarm_eq (s := put s (Tm.nxV s.Timer.Channels).1 (advU (Tm.nxV s.Timer.Channels).1 (s.Timer.Channels, s.Jobs))) hput.rows (by rcases hput.clk with ⟨_, b⟩ | ⟨_, b⟩; exact .inl b; exact .inr b) hput.now0 hput.now1 h.n1 h.n8 (by have := hput.most; omega)
    unfold put advU at this
    simp only at this
    rw [this]
    rfl
  · unfold q108
    simp only [et]
    rw [Tm.q337 _ (by omega)]
    simp only [Option.bind_some, hn, hg, Bool.not_true, Bool.or_self, cond_false]
    rw [radv_eq _ _ h.tim]
    simp only [Option.bind_some]
    rw [appendM_ok _ _ (by omega)]
    have hd := go_del out s (Tm.nxV s.Timer.Channels).1 (Tm.nxV s.Timer.Channels).2 (by omega)
    have ep : ((Tm.nxV s.Timer.Channels).1, (Tm.nxV s.Timer.Channels).2) = Tm.nxV s.Timer.Channels := rfl
    rw [ep] at hd
    simp only [Option.bind_some]
    rw [hd]
    simp only [Option.bind_some]
    have := rarm_eq (s := put s (Tm.nxV s.Timer.Channels).1 (advU (Tm.nxV s.Timer.Channels).1 (s.Timer.Channels, s.Jobs))) hput.rows hput.clk hput.now0 hput.now1 h.n8 (by have := hput.most; omega)
    unfold put advU at this
    simp only at this
    rw [this]
    rfl
theorem go_end {n : Nat} {s : SScheduler} (h : Live n s) (to : Int) (out : List SSwitch) (hno : ¬ ((Tm.nxV s.Timer.Channels).2 = true ∧ (Tm.nxV s.Timer.Channels).1 ≤ to)) :
    q89 to (out, s) = some (.inr (.inl (out, s))) ∧ q108 to (out, s) = some (.inr (.inl (out, s))) := by
  have et : (⟨s.Timer.Now, s.Timer.Channels⟩ : STimer) = s.Timer := rfl
  have hlen := h.len
  have hn8 := h.n8
  have hb : (!(Tm.nxV s.Timer.Channels).2 || decide ((Tm.nxV s.Timer.Channels).1 > to)) = true := by
    cases hn : (Tm.nxV s.Timer.Channels).2
    · rfl
    · simp only [Bool.not_true, Bool.false_or, decide_eq_true_eq]
      by_cases h5 : (Tm.nxV s.Timer.Channels).1 ≤ to
      · exact absurd ⟨hn, h5⟩ hno
      · omega
  constructor
  · unfold q89
    simp only [et]
    rw [Tm.next_eq, h.tim]
    simp only [cond_true, Option.bind_some, hb]
  · unfold q108
    simp only [et]
    rw [Tm.q337 _ (by omega)]
    simp only [cond_true, Option.bind_some, hb]
theorem go_run (to : Int) {n : Nat} : ∀ (f : Nat) (s : SScheduler) (out : List SSwitch), Live n s → s.Jobs.length ≤ f → out.length + 16 * f ≤ 100000 → s.Timer.Now ≤ to →
    loopM (q89 to) (out, s) = some (.inl (goV to f (out, s))) ∧ loopM (q108 to) (out, s) = some (.inl (goV to f (out, s))) ∧ Live n (goV to f (out, s)).2 ∧ Alike s (goV to f (out, s)).2 ∧ (goV to f (out, s)).2.Timer.Now ≤ to ∧
      (∀ x ∈ (goV to f (out, s)).2.Timer.Channels, x.Armed = true → to < x.At) ∧ (goV to f (out, s)).1.length ≤ out.length + 16 * f ∧ (goV to f (out, s)).2.Jobs.length ≤ s.Jobs.length := by
  intro f
  induction f with
  | zero =>
    intro s out h hj ho ht
    have hno : ¬ ((Tm.nxV s.Timer.Channels).2 = true ∧ (Tm.nxV s.Timer.Channels).1 ≤ to) := by
      rintro ⟨h1, _⟩
      obtain ⟨x, hx, ha, hat⟩ := Tm.q286 h1
      have := q455 h.rows hx ha hat
      simp only at this
      omega
    obtain ⟨e1, e2⟩ := go_end h to out hno
    refine ⟨loopM_out e1, loopM_out e2, h, .refl s, ht, fun x hx ha => ?_, by simp [goV], Nat.le_refl _⟩
    obtain ⟨a, b⟩ := Tm.q265 hx ha
    by_cases h5 : to < x.At
    · exact h5
    · have b' : (Tm.nxV s.Timer.Channels).1 ≤ x.At := b
      exact absurd ⟨a, by omega⟩ hno
  | succ f ih =>
    intro s out h hj ho ht
    by_cases hy : (Tm.nxV s.Timer.Channels).2 = true ∧ (Tm.nxV s.Timer.Channels).1 ≤ to
    · obtain ⟨e1, e2⟩ := go_step h to out (by omega) hy.1 hy.2
      have hlen := h.len
      have hn8 := h.n8
      have hal : (Tm.advS (Tm.nxV s.Timer.Channels).1 s.Timer.Channels).length ≤ 16 := by have := Tm.q447 (Tm.nxV s.Timer.Channels).1 s.Timer.Channels; omega
      obtain ⟨x, hx, ha, hat⟩ := Tm.q286 hy.1
      have hless := q455 h.rows hx ha hat
      simp only at hless
      have hsj := q486 (Tm.nxV s.Timer.Channels).1 s
      obtain ⟨r1, r2, r3, r4, r5, r6, r7, r8⟩ := ih (stepG (Tm.nxV s.Timer.Channels).1 s) (out ++ Tm.advS (Tm.nxV s.Timer.Channels).1 s.Timer.Channels) (q429 h hy.1) (by omega) (by rw [List.length_append]; omega) (by rw [q512]; exact hy.2)
      have eg : goV to (f + 1) (out, s) = goV to f (out ++ Tm.advS (Tm.nxV s.Timer.Channels).1 s.Timer.Channels, stepG (Tm.nxV s.Timer.Channels).1 s) := by
        show (if _ then _ else _) = _
        rw [if_pos hy]
      rw [eg, loopM_next e1, loopM_next e2]
      refine ⟨r1, r2, r3, (q464 _ s).trans r4, r5, r6, by rw [List.length_append] at r7; omega, by omega⟩
    · obtain ⟨e1, e2⟩ := go_end h to out hy
      have eg : goV to (f + 1) (out, s) = (out, s) := by
        show (if _ then _ else _) = _
        rw [if_neg hy]
      rw [eg]
      refine ⟨loopM_out e1, loopM_out e2, h, .refl s, ht, fun x hx ha => ?_, by simp only; omega, Nat.le_refl _⟩
      obtain ⟨a, b⟩ := Tm.q265 hx ha
      by_cases h5 : to < x.At
      · exact h5
      · have b' : (Tm.nxV s.Timer.Channels).1 ≤ x.At := b
        exact absurd ⟨a, by omega⟩ hy
def goE (to : Int) (s : SScheduler) : List SSwitch × SScheduler := ((goV to s.Jobs.length ([], s)).1, put (goV to s.Jobs.length ([], s)).2 to ((goV to s.Jobs.length ([], s)).2.Timer.Channels, (goV to s.Jobs.length ([], s)).2.Jobs))
theorem q469 {n : Nat} {s : SScheduler} (h : Live n s) {to : Int} (h1 : s.Timer.Now ≤ to) (h2 : to ≤ 1099511627776) (hno : ∀ x ∈ s.Timer.Channels, x.Armed = true → to < x.At) : Live n (put s to (s.Timer.Channels, s.Jobs)) := by
  refine ⟨h.eng, h.n1, h.n8, ⟨h.rows.len, fun x hx => ?_, h.rows.job, h.rows.row⟩, fun hc c hcl => ?_, by have := h.now0; show 0 ≤ to; omega, h2, h.clk, h.most⟩
  · have := h.rows.ch x hx
    show Tm.chB to x = true
    unfold Tm.chB at this ⊢
    cases ha : x.Armed
    · rw [ha] at this; exact this
    · rw [ha] at this
      have h5 := hno x hx ha
      simp only [cond_true, Bool.not_eq_true', Bool.or_eq_false_iff, decide_eq_false_iff_not] at this ⊢
      omega
  · have := h.cut hc c hcl
    show cutB to (mine s.Jobs (c : Int)) = true
    match hm : mine s.Jobs (c : Int) with
    | [] => rfl
    | [j] =>
      rw [hm] at this
      simp only [cutB, Bool.and_eq_true, decide_eq_true_eq] at this ⊢
      exact ⟨this.1, by omega⟩
    | i :: j :: r => rw [hm] at this; simp [cutB] at this
theorem q468 {to : Int} {l : List SChannel} (h : ∀ x ∈ l, x.Armed = true → to < x.At) : ∀ c ∈ l, Tm.due to c = false := by
  intro c hc
  unfold Tm.due
  cases ha : c.Armed
  · rfl
  · have := h c hc ha
    simp; omega
theorem goOn_eq {n : Nat} {s : SScheduler} (h : Live n s) (to : Int) (h1 : s.Timer.Now ≤ to) (h2 : to ≤ 1099511627776) : q134 s to = some (goE to s) ∧ Live n (goE to s).2 ∧ Alike s (goE to s).2 ∧ (goE to s).2.Timer.Now = to ∧ (goE to s).2.Jobs.length ≤ s.Jobs.length ∧ (∀ x ∈ (goE to s).2.Timer.Channels, x.Armed = true → to < x.At) := by
  have hm := h.most
  obtain ⟨r1, r2, r3, r4, r5, r6, r7, r8⟩ := go_run to s.Jobs.length s [] h (Nat.le_refl _) (by simp; omega) h1
  have hd := Tm.q445 (q468 r6)
  refine ⟨?_, q469 r3 r5 h2 r6, r4.trans (q366 ..), rfl, r8, r6⟩
  unfold q134
  rw [r1]
  simp only [Option.bind_some]
  unfold goE
  generalize goV to s.Jobs.length ([], s) = u at r3 r5 r6 hd r7
  have et : (⟨u.2.Timer.Now, u.2.Timer.Channels⟩ : STimer) = u.2.Timer := rfl
  have ha1 : decide (to < u.2.Timer.Now) = false := by simp; omega
  have ha2 : decide (to > Tm.MAXT) = false := by unfold Tm.MAXT; simp; omega
  rw [et, Tm.adv_eq, r3.tim, ha1, ha2]
  simp only [Bool.not_true, cond_false, Option.bind_some]
  rw [hd.1, hd.2, appendM_ok _ _ (by simp at r7 ⊢; omega)]
  simp only [Option.bind_some, List.append_nil]
  rfl
theorem copy25 (s : SScheduler) (h1 : s.Engine.Order.length ≤ 1000) (h2 : s.Timer.Channels.length ≤ 1000) (h3 : s.Next.length ≤ 1000000) (h4 : s.Jobs.length ≤ 1000000) : q92 s = some s := by
  unfold q92
  rw [appendM_ok _ _ (by simp; omega), Tm.copy_eq _ h2, appendM_ok _ _ (by simp; omega), appendM_ok _ _ (by simp; omega)]
  rfl
theorem q292 (s : SScheduler) (h3 : s.Next.length ≤ 1000000) (h4 : s.Jobs.length ≤ 1000000) : q58 s = some s := by
  unfold q58 q218 q109
  rw [appendM_ok _ _ (by simp; omega), appendM_ok _ _ (by simp; omega)]
  rfl
end Go.Pv.Sc
set_option linter.unusedSimpArgs false
namespace Go.Pv.Sc
open Go Go.Pv Go.Pv.Ev
section
variable {α β : Type}
def posG (gt : α → α → Bool) (x : α) (l : List α) : Nat → Nat
  | 0 => 0
  | k + 1 => match l[k]? with | some y => if gt y x then posG gt x l k else k + 1 | none => k + 1
def insG (gt : α → α → Bool) (l : List α) (x : α) : List α := l.take (posG gt x l l.length) ++ x :: l.drop (posG gt x l l.length)
theorem posG_le (gt : α → α → Bool) (x : α) (l : List α) : ∀ k, posG gt x l k ≤ k
  | 0 => Nat.le_refl _
  | k + 1 => by
    have := posG_le gt x l k
    unfold posG
    split
    · split <;> omega
    · omega
theorem q539 (gt : α → α → Bool) (x : α) (l : List α) {k : Nat} (h : k < l.length) : posG gt x l (k + 1) = if gt l[k] x then posG gt x l k else k + 1 := by
  rw [posG, List.getElem?_eq_getElem h]
theorem q294 (gt : α → α → Bool) (l : List α) (x : α) : (insG gt l x).Perm (x :: l) := by
  unfold insG
  refine List.perm_middle.trans ?_
  rw [List.take_append_drop]
theorem q407 (gt : α → α → Bool) : ∀ (r l : List α), (r.foldl (insG gt) l).Perm (l ++ r)
  | [], l => by simp
  | x :: r, l => by
    refine (q407 gt r (insG gt l x)).trans ?_
    refine ((q294 gt l x).append_right r).trans ?_
    exact List.perm_middle.symm
theorem pos_map (f : α → β) {gt : α → α → Bool} {gt' : β → β → Bool} (x : α) (l : List α) (h : ∀ y ∈ l, gt' (f y) (f x) = gt y x) : ∀ k, posG gt' (f x) (l.map f) k = posG gt x l k
  | 0 => rfl
  | k + 1 => by
    unfold posG
    rw [List.getElem?_map]
    cases hk : l[k]? with
    | none => rfl
    | some y =>
      simp only [Option.map_some]
      rw [h y (List.mem_of_getElem? hk), pos_map f x l h k]
theorem ins_map (f : α → β) {gt : α → α → Bool} {gt' : β → β → Bool} (x : α) (l : List α) (h : ∀ y ∈ l, gt' (f y) (f x) = gt y x) : insG gt' (l.map f) (f x) = (insG gt l x).map f := by
  unfold insG
  rw [List.length_map, pos_map f x l h, List.map_append, List.map_cons, List.map_take, List.map_drop]
theorem q451 (f : α → β) {gt : α → α → Bool} {gt' : β → β → Bool} (Q : α → Prop) (h : ∀ x y, Q x → Q y → gt' (f y) (f x) = gt y x) : ∀ (r l : List α), (∀ x ∈ l, Q x) → (∀ x ∈ r, Q x) → (r.map f).foldl (insG gt') (l.map f) = (r.foldl (insG gt) l).map f
  | [], l, _, _ => rfl
  | x :: r, l, hl, hr => by
    rw [List.map_cons, List.foldl_cons, List.foldl_cons, ins_map f x l (fun y hy => h x y (hr x (List.mem_cons_self ..)) (hl y hy))]
    refine q451 f Q h r _ (fun y hy => ?_) (fun y hy => hr y (List.mem_cons_of_mem _ hy))
    rcases List.mem_cons.1 ((q294 gt l x).mem_iff.1 hy) with rfl | h2
    · exact hr _ (List.mem_cons_self ..)
    · exact hl _ h2
theorem g_mid (a b : List α) (x : α) : getI (a ++ x :: b) (a.length : Int) = some x := by
  rw [getI_nat, List.getElem?_append_right (Nat.le_refl _), Nat.sub_self]; rfl
theorem s_mid (a b : List α) (x z : α) : setM (a ++ x :: b) (a.length : Int) z = some (a ++ z :: b) := by
  rw [setM_nat _ _ _ (by simp)]
  rw [List.set_append_right _ _ (Nat.le_refl _), Nat.sub_self]; rfl
end
section
variable {cmp : Sscheduler_planned → Sscheduler_planned → Option Int} {gt : Sscheduler_planned → Sscheduler_planned → Bool} {Q : Sscheduler_planned → Prop}
theorem q376 (hc : ∀ x y, Q x → Q y → ∃ c, cmp x y = some c ∧ decide (c < 0) = gt y x) (x : Sscheduler_planned) (P R : List Sscheduler_planned) (hP : ∀ y ∈ P, Q y) (hx : Q x) (hl : P.length ≤ 1000000) : ∀ j, j ≤ P.length →
    loopM (q23 0 cmp) ((j : Int), P.take j ++ x :: (P.drop j ++ R)) = some (.inl ((posG gt x P j : Int), P.take (posG gt x P j) ++ x :: (P.drop (posG gt x P j) ++ R)))
  | 0, _ => by
    refine loopM_out ?_
    unfold q23
    rfl
  | j + 1, hj => by
    have hjl : j < P.length := by omega
    have e1 : P.take (j + 1) = P.take j ++ [P[j]] := List.take_succ_eq_append_getElem hjl
    have e2 : P.drop j = P[j] :: P.drop (j + 1) := List.drop_eq_getElem_cons hjl
    have la : (P.take j).length = j := by rw [List.length_take]; omega
    have lb : (P.take j ++ [P[j]]).length = j + 1 := by rw [List.length_append, la]; rfl
    obtain ⟨c, hc1, hc2⟩ := hc x P[j] hx (hP _ (List.getElem_mem hjl))
    have d1 : P.take (j + 1) ++ x :: (P.drop (j + 1) ++ R) = P.take j ++ P[j] :: (x :: (P.drop (j + 1) ++ R)) := by rw [e1, List.append_assoc]; rfl
    have g0 : getI (P.take (j + 1) ++ x :: (P.drop (j + 1) ++ R)) ((j + 1 : Nat) : Int) = some x := by
      have := g_mid (P.take j ++ [P[j]]) (P.drop (j + 1) ++ R) x
      rw [lb] at this
      rw [e1]; exact this
    have g1 : getI (P.take (j + 1) ++ x :: (P.drop (j + 1) ++ R)) (j : Int) = some P[j] := by
      have := g_mid (P.take j) (x :: (P.drop (j + 1) ++ R)) P[j]
      rw [la] at this
      rw [d1]; exact this
    have s0 : setM (P.take (j + 1) ++ x :: (P.drop (j + 1) ++ R)) ((j + 1 : Nat) : Int) P[j] = some (P.take j ++ P[j] :: (P[j] :: (P.drop (j + 1) ++ R))) := by
      have := s_mid (P.take j ++ [P[j]]) (P.drop (j + 1) ++ R) x P[j]
      rw [lb] at this
      rw [e1, this, List.append_assoc]; rfl
    have g2 : getI (P.take j ++ P[j] :: (P[j] :: (P.drop (j + 1) ++ R))) (j : Int) = some P[j] := by
      have := g_mid (P.take j) (P[j] :: (P.drop (j + 1) ++ R)) P[j]
      rw [la] at this; exact this
    have s1 : setM (P.take j ++ P[j] :: (P[j] :: (P.drop (j + 1) ++ R))) (j : Int) x = some (P.take j ++ x :: (P.drop j ++ R)) := by
      have := s_mid (P.take j) (P[j] :: (P.drop (j + 1) ++ R)) P[j] x
      rw [la] at this
      rw [this, e2]; rfl
    have ew : w64 (((j + 1 : Nat) : Int) - 1) = (j : Int) := by rw [w64_of (by omega) (by omega)]; omega
    have e0 : decide (((j + 1 : Nat) : Int) > 0) = true := decide_eq_true (by omega)
    have hb : q23 0 cmp (((j + 1 : Nat) : Int), P.take (j + 1) ++ x :: (P.drop (j + 1) ++ R)) = some (bif gt P[j] x then .inl ((j : Int), P.take j ++ x :: (P.drop j ++ R)) else .inr (.inl (((j + 1 : Nat) : Int), P.take (j + 1) ++ x :: (P.drop (j + 1) ++ R)))) := by
      unfold q23
      simp only [e0, cond_true, ew, g0, g1, Option.bind_some, hc1, hc2]
      cases gt P[j] x
      · rfl
      · simp only [cond_true, s0, g2, s1, Option.bind_some]
    have ep := q539 gt x P hjl
    cases hg : gt P[j] x
    · rw [hg] at hb ep
      simp only [Bool.false_eq_true, if_false] at ep
      rw [loopM_out hb, ep]
    · rw [hg] at hb ep
      simp only [if_true] at ep
      rw [loopM_next hb, ep]
      exact q376 hc x P R hP hx hl j (by omega)
theorem q381 (hc : ∀ x y, Q x → Q y → ∃ c, cmp x y = some c ∧ decide (c < 0) = gt y x) (n : Nat) (hn : n ≤ 1000000) : ∀ (R S : List Sscheduler_planned), S.length + R.length = n → (∀ y ∈ S, Q y) → (∀ y ∈ R, Q y) →
    loopM (q18 0 (n : Int) cmp) ((S.length : Int), S ++ R) = some (.inl ((n : Int), R.foldl (insG gt) S))
  | [], S, hl, hS, _ => by
    have : S.length = n := by simpa using hl
    rw [this]
    refine loopM_out ?_
    unfold q18
    simp
  | x :: R, S, hl, hS, hR => by
    rw [List.length_cons] at hl
    have hin := q376 hc x S R hS (hR x (List.mem_cons_self ..)) (by omega) S.length (Nat.le_refl _)
    rw [List.take_length, List.drop_length] at hin
    have e1 : decide ((S.length : Int) < (n : Int)) = true := by simp; omega
    have ew : w64 ((S.length : Int) + 1) = ((S.length + 1 : Nat) : Int) := by rw [w64_of (by omega) (by omega)]; omega
    have hin2 : insG gt S x ++ R = S.take (posG gt x S S.length) ++ x :: (S.drop (posG gt x S S.length) ++ R) := by
      unfold insG; rw [List.append_assoc]; rfl
    have hb : q18 0 (n : Int) cmp ((S.length : Int), S ++ x :: R) = some (.inl (((S.length + 1 : Nat) : Int), insG gt S x ++ R)) := by
      unfold q18
      simp only [e1, cond_true]
      rw [show (S ++ x :: R) = S ++ x :: ([] ++ R) from rfl, hin]
      simp only [Option.bind_some, ew, hin2]
    rw [loopM_next hb]
    have hlen : (insG gt S x).length = S.length + 1 := by rw [(q294 gt S x).length_eq]; rfl
    have := q381 hc n hn R (insG gt S x) (by omega) (fun y hy => by
      rcases List.mem_cons.1 ((q294 gt S x).mem_iff.1 hy) with rfl | h2
      · exact hR _ (List.mem_cons_self ..)
      · exact hS _ h2) (fun y hy => hR y (List.mem_cons_of_mem _ hy))
    rw [hlen] at this
    exact this
theorem q491 (hc : ∀ x y, Q x → Q y → ∃ c, cmp x y = some c ∧ decide (c < 0) = gt y x) (l : List Sscheduler_planned) (hl : l.length ≤ 19) (hQ : ∀ y ∈ l, Q y) : q26 l cmp = some (l.foldl (insG gt) []) := by
  have hins : q25 l 0 (l.length : Int) cmp = some (l.foldl (insG gt) []) := by
    unfold q25
    cases l with
    | nil =>
      rw [loopM_out (b := .inl (1, []))]
      · rfl
      · unfold q18; rfl
    | cons x R =>
      have := q381 hc (x :: R).length (by omega) R [x] (by simp; omega) (fun y hy => hQ y (by simp at hy; simp [hy])) (fun y hy => hQ y (List.mem_cons_of_mem _ hy))
      rw [show w64 (0 + 1) = (([x].length : Nat) : Int) from rfl]
      rw [show x :: R = [x] ++ R from rfl] at this ⊢
      rw [this]
      rfl
  unfold q26 q53
  rw [loopM_out (b := .inl (0, 20, l)) (by unfold q82; rw [show decide ((20 : Int) ≤ (l.length : Int)) = false by simp; omega]; rfl)]
  simp only [Option.bind_some]
  rw [hins]
  simp only [Option.bind_some]
  rw [loopM_out (b := .inl (20, l.foldl (insG gt) [])) (by unfold q81; rw [show decide ((20 : Int) < (l.length : Int)) = false by simp; omega]; rfl)]
  rfl
end
def gtE (begin : Int) (y x : SEvent) : Bool := decide (dst begin x.Angle < dst begin y.Angle ∨ (dst begin x.Angle = dst begin y.Angle ∧ chn x < chn y))
def ordW (begin : Int) (l : List SEvent) : List SEvent := l.foldl (insG (gtE begin)) []
def plJ (begin : Int) (x : SEvent) : Sscheduler_planned := ⟨x, dst begin x.Angle⟩
theorem q361 (begin : Int) (l : List SEvent) : (ordW begin l).Perm l := by
  have := q407 (gtE begin) l []
  simpa [ordW] using this
theorem ch_eq {x : SEvent} (h : evP x) : q30 x = some (chn x) ∧ q45 x = some (chn x) := by
  have := chan_eq (n := 8) (j := ⟨x, 0, false, 0⟩) ⟨h.2.2.1, h.2.1, h.1, h.2.2.2, by simp only; omega, .inr rfl⟩ (by omega)
  exact this
theorem or2_eq (a b : Int) : q105 [a, b] = some (bif a != 0 then a else b) := by
  unfold q105
  rw [rangeM_steps _ (by simp)]
  simp only [stepsL, q139]
  cases ha : a != 0
  · cases hb : b != 0
    · have : b = 0 := by simpa using hb
      rw [this]; rfl
    · rfl
  · rfl
theorem pcmp_eq (begin : Int) (x y : SEvent) (hx : evP x) (hy : evP y) : ∃ c, q101 (plJ begin x) (plJ begin y) = some c ∧ decide (c < 0) = gtE begin y x := by
  unfold q101 plJ
  simp only [q402, (ch_eq hx).1, (ch_eq hy).1, Option.bind_some, or2_eq]
  refine ⟨_, rfl, ?_⟩
  unfold gtE
  rw [decide_eq_decide]
  rcases q210 (dst begin x.Angle) (dst begin y.Angle) with ⟨a, b⟩ | ⟨a, b⟩ | ⟨a, b⟩
  · rw [b]; simp [a]
  · rw [b]
    rcases q210 (chn x) (chn y) with ⟨c, d⟩ | ⟨c, d⟩ | ⟨c, d⟩ <;> rw [d] <;> simp <;> omega
  · rw [b]; simp; omega
theorem q548 (begin : Int) (l : List SEvent) (hl : l.length ≤ 19) (hQ : ∀ x ∈ l, evP x) : q26 (l.map (plJ begin)) q101 = some ((ordW begin l).map (plJ begin)) := by
  have e : ∀ p : Sscheduler_planned, (∃ x, evP x ∧ p = plJ begin x) → p = plJ begin p.x := by
    rintro p ⟨x, _, rfl⟩; rfl
  rw [q491 (gt := fun q p => gtE begin q.x p.x) (Q := fun p => ∃ x, evP x ∧ p = plJ begin x)
    (fun p q ⟨x, hx, ex⟩ ⟨y, hy, ey⟩ => by subst ex ey; exact pcmp_eq begin x y hx hy) _ (by rw [List.length_map]; exact hl)
    (fun p hp => by obtain ⟨x, hx, rfl⟩ := List.mem_map.1 hp; exact ⟨x, hQ x hx, rfl⟩)]
  have := q451 (plJ begin) (gt := gtE begin) (gt' := fun q p => gtE begin q.x p.x) (fun _ => True) (fun _ _ _ _ => rfl) l [] (fun _ _ => trivial) (fun _ _ => trivial)
  rw [List.map_nil] at this
  rw [this]; rfl
end Go.Pv.Sc
set_option linter.unusedSimpArgs false
namespace Go.Pv.Sc
open Go Go.Pv Go.Pv.Ev
theorem eng_cyl {e : SEngine} (h : engP e) {c : Int} (hc : c ∈ e.Order) : 1 ≤ c ∧ c ≤ (e.Order.length : Int) := h.2.2.2.2.1 c hc
theorem evs_ok {e : SEngine} {f : SFire} {t : Int} (he : engP e) (hf : fireP e f) : ∀ x ∈ evs e t f, evP x ∧ x.Cylinder = f.Cylinder := by
  intro x hx
  unfold evs at hx
  obtain ⟨o, ho, rfl⟩ := List.mem_map.1 hx
  have hc := eng_cyl he hf.1
  have hn := he.2.1
  have hk : (1 ≤ o.2.1 ∧ o.2.1 ≤ 4) ∧ (0 ≤ o.2.2 ∧ o.2.2 ≤ 2) := by
    unfold offs at ho
    simp only [List.mem_append, List.mem_cons, List.not_mem_nil, or_false] at ho
    rcases ho with (ho | ho) | ho
    · rcases ho with rfl | rfl <;> simp
    · cases h : decide (pul f > 0)
      · rw [h] at ho; simp at ho
      · rw [h] at ho
        simp only [cond_true, List.mem_cons, List.not_mem_nil, or_false] at ho
        rcases ho with rfl | rfl <;> simp
    · cases h : decide (pul f > 1)
      · rw [h] at ho; simp at ho
      · rw [h] at ho
        simp only [cond_true, List.mem_cons, List.not_mem_nil, or_false] at ho
        rcases ho with rfl | rfl <;> simp
  refine ⟨⟨?_, hk.1, ?_, hk.2⟩, rfl⟩
  · unfold evF; simp only; omega
  · show 1 ≤ f.Cylinder ∧ f.Cylinder ≤ 8; omega
def kp (x : SEvent) : Int × Int := (x.Kind, x.Pulse)
def coilK (k : Int × Int) : Bool := k.1 == 1 || k.1 == 2
def valveK (k : Int × Int) : Bool := k.1 == 3 || k.1 == 4
def coilL : List (Int × Int) := [(2, 0), (1, 0)]
def valveL (n : Int) : List (Int × Int) := (bif decide (n > 0) then [(4, 1), (3, 1)] else []) ++ (bif decide (n > 1) then [(3, 2), (4, 2)] else [])
theorem evs_kp (e : SEngine) (f : SFire) (t : Int) : (evs e t f).map kp = coilL ++ valveL (pul f) := by
  unfold evs
  rw [List.map_map]
  rcases q205 f with h | h | h <;> (unfold offs; rw [h]; rfl)
def incB (begin : Int) : List SEvent → Int → Bool
  | [], _ => true
  | x :: r, last => decide (last < dst begin x.Angle) && incB begin r (dst begin x.Angle)
def kpP (a b : Int) : List (Int × Int) → Int → Int → Bool
  | [], _, _ => true
  | x :: r, p, k => (x.1 == k) && decide (p ≤ x.2) && kpP a b r x.2 (a + b - k)
def kpR (c : Nat) : List (Int × Int) → Nat → Bool
  | [], _ => true
  | x :: r, i => (onK x.1 == (i % 2 == 0)) && (x.2 == (if c = 0 then 0 else ((i / 2 + 1 : Nat) : Int))) && kpR c r (i + 1)
theorem q319 (begin a b : Int) : ∀ (l : List SEvent) (i last p k : Int), (k = a ∨ k = b) → (0 ≤ a ∧ a ≤ 10) → (0 ≤ b ∧ b ≤ 10) →
    ((incB begin (l.filter fun x => x.Kind == a || x.Kind == b) last && kpP a b ((l.filter fun x => x.Kind == a || x.Kind == b).map kp) p k) = true ∧ ∃ s, stepsL (q63 (a, b)) (l.map (plJ begin)) i (last, p, k) = some (.inl s)) ∨
    ((incB begin (l.filter fun x => x.Kind == a || x.Kind == b) last && kpP a b ((l.filter fun x => x.Kind == a || x.Kind == b).map kp) p k) = false ∧ stepsL (q63 (a, b)) (l.map (plJ begin)) i (last, p, k) = some (.inr ([], false)))
  | [], i, last, p, k, _, _, _ => .inl ⟨rfl, _, rfl⟩
  | x :: l, i, last, p, k, hk, ha, hb => by
    have ih := fun i last p k hk => q319 begin a b l i last p k hk ha hb
    simp only [List.map_cons, stepsL]
    have ew : w64 (w64 (a + b) - k) = a + b - k := by
      rw [w64_of (n := a + b) (by omega) (by omega), w64_of (by omega) (by omega)]
    cases hm : (x.Kind == a || x.Kind == b)
    · rw [List.filter_cons_of_neg (by simp [hm])]
      have h1 : ((x.Kind != a) && (x.Kind != b)) = true := by
        rw [Bool.or_eq_false_iff] at hm; simp only [bne, hm.1, hm.2]; rfl
      have hst : q63 (a, b) i (plJ begin x) (last, p, k) = some (.next (last, p, k)) := by
        unfold q63 plJ
        simp only [h1, cond_true]
      rw [hst]
      exact ih (i + 1) last p k hk
    · rw [List.filter_cons_of_pos (by simp [hm])]
      have h1 : ((x.Kind != a) && (x.Kind != b)) = false := by
        cases e1 : x.Kind == a
        · rw [e1] at hm; simp only [Bool.false_or] at hm; simp [bne, hm]
        · simp [bne, e1]
      have hst : q63 (a, b) i (plJ begin x) (last, p, k) = some (bif (((x.Kind != k) || (decide (dst begin x.Angle ≤ last))) || (decide (x.Pulse < p))) then (.ret ([], false)) else (.next (dst begin x.Angle, x.Pulse, a + b - k))) := by
        unfold q63 plJ
        simp only [h1, cond_false, ew]
        exact bsome ..
      rw [hst]
      have hq : (((x.Kind != k) || (decide (dst begin x.Angle ≤ last))) || (decide (x.Pulse < p))) = !(decide (last < dst begin x.Angle) && ((x.Kind == k) && decide (p ≤ x.Pulse))) := by
        rw [show decide (dst begin x.Angle ≤ last) = !decide (last < dst begin x.Angle) by rw [← decide_not]; exact decide_eq_decide.2 (by omega), show decide (x.Pulse < p) = !decide (p ≤ x.Pulse) by rw [← decide_not]; exact decide_eq_decide.2 (by omega)]
        unfold bne
        cases x.Kind == k <;> cases decide (last < dst begin x.Angle) <;> cases decide (p ≤ x.Pulse) <;> rfl
      rw [hq]
      simp only [incB, List.map_cons, kpP, kp]
      cases hz : (decide (last < dst begin x.Angle) && ((x.Kind == k) && decide (p ≤ x.Pulse)))
      · right
        refine ⟨?_, by simp only [Bool.not_false, cond_true, Option.bind_some]⟩
        cases h3 : decide (last < dst begin x.Angle)
        · rfl
        · rw [h3, Bool.true_and] at hz
          rw [hz]; simp
      · simp only [Bool.not_true, cond_false, Option.bind_some]
        simp only [Bool.and_eq_true] at hz
        rw [hz.1, hz.2.1, hz.2.2]
        exact ih (i + 1) (dst begin x.Angle) x.Pulse (a + b - k) (by omega)
theorem kp_coil : ∀ {l : List (Int × Int)}, l.Perm coilL → kpP 1 2 l 0 1 = kpR 0 l 0 := by
  intro l h
  have hm : ∀ x ∈ l, x ∈ coilL := fun x hx => h.mem_iff.1 hx
  have hl := h.length_eq
  match l, hl with
  | [a, b], _ =>
    have ha := hm a (by simp)
    have hb := hm b (by simp)
    revert h
    have key : ∀ a ∈ coilL, ∀ b ∈ coilL, kpP 1 2 [a, b] 0 1 = kpR 0 [a, b] 0 := by decide
    exact fun _ => key a ha b hb
theorem q540 (n : Int) (hn : n = 0 ∨ n = 1 ∨ n = 2) : ∀ {l : List (Int × Int)}, l.Perm (valveL n) → kpP 3 4 l 0 3 = kpR 1 l 0 := by
  intro l h
  have hm : ∀ x ∈ l, x ∈ valveL n := fun x hx => h.mem_iff.1 hx
  have hl := h.length_eq
  rcases hn with rfl | rfl | rfl
  · have : l = [] := List.eq_nil_of_length_eq_zero (by rw [hl]; rfl)
    subst this; rfl
  · match l, hl with
    | [a, b], _ =>
      have ha := hm a (by simp)
      have hb := hm b (by simp)
      have key : ∀ a ∈ valveL 1, ∀ b ∈ valveL 1, kpP 3 4 [a, b] 0 3 = kpR 1 [a, b] 0 := by decide
      exact key a ha b hb
  · match l, hl with
    | [a, b, c, d], _ =>
      have ha := hm a (by simp)
      have hb := hm b (by simp)
      have hc := hm c (by simp)
      have hd := hm d (by simp)
      have key : ∀ a ∈ valveL 2, ∀ b ∈ valveL 2, ∀ c ∈ valveL 2, ∀ d ∈ valveL 2, [a, b, c, d].isPerm (valveL 2) = true → kpP 3 4 [a, b, c, d] 0 3 = kpR 1 [a, b, c, d] 0 := by decide
      exact key a ha b hb c hc d hd (List.isPerm_iff.2 h)
end Go.Pv.Sc
set_option linter.unusedSimpArgs false
namespace Go.Pv.Sc
open Go Go.Pv Go.Pv.Ev
def beg (e : SEngine) (c : Int) : Int := (cen e c + 5760) % 46080
theorem beg_ang (e : SEngine) (c : Int) : angB (beg e c) = true := by unfold beg; exact q232.2 (by omega)
theorem q537 (e : SEngine) (c : Int) : Int.tmod (w64 (cen e c + 5760)) 46080 = beg e c := by
  have := q432 e c
  rw [w64_of (by omega) (by omega), Int.tmod_eq_emod_of_nonneg (by omega)]; rfl
def isC (x : SEvent) : Bool := x.Kind == 1 || x.Kind == 2
def isV (x : SEvent) : Bool := x.Kind == 3 || x.Kind == 4
def accB (begin : Int) (W : List SEvent) : Bool := (incB begin (W.filter isC) (-1) && kpP 1 2 ((W.filter isC).map kp) 0 1) && (incB begin (W.filter isV) (-1) && kpP 3 4 ((W.filter isV).map kp) 0 3)
def winV (e : SEngine) (f : SFire) (begin t : Int) : List SEvent := bif (planV e [f] t).2 != 0 then [] else bif accB begin (ordW begin (planV e [f] t).1) then ordW begin (planV e [f] t).1 else []
theorem plan_ok {e : SEngine} {f : SFire} {t : Int} (he : engP e) (hf : fireP e f) (h : ((planV e [f] t).2 != 0) = false) : (planV e [f] t).1.Perm (evs e t f) := by
  unfold planV at h ⊢
  rw [decide_eq_true he] at h ⊢
  simp only [Bool.not_true, cond_false] at h ⊢
  cases h1 : badF e [f] <;> rw [h1] at h
  · simp only [cond_false] at h ⊢
    cases h2 : !tickB t <;> rw [h2] at h
    · simp only [cond_false] at h ⊢
      cases h3 : dupB [f] <;> rw [h3] at h
      · simp only [cond_false] at h ⊢
        cases h4 : [f].any (long t) <;> rw [h4] at h
        · simp only [cond_false]
          have := q443 ([f].flatMap (evs e t))
          simpa using this
        · simp at h
      · simp at h
    · simp at h
  · simp at h
theorem q399 (begin : Int) (hb : angB begin = true) : ∀ (l : List SEvent) (i : Int) (out : List Sscheduler_planned), (∀ x ∈ l, evP x) → out.length + l.length ≤ 1000 → stepsL (q162 begin) l i out = some (.inl (out ++ l.map (plJ begin)))
  | [], i, out, _, _ => by simp [stepsL]
  | x :: l, i, out, h, hl => by
    rw [List.length_cons] at hl
    have hx := h x (List.mem_cons_self ..)
    have hst : q162 begin i x out = some (.next (out ++ [plJ begin x])) := by
      unfold q162
      rw [dist_in hb (q232.2 hx.1)]
      simp only [Option.bind_some]
      rw [appendM_ok _ _ (by simp only [List.length_cons, List.length_nil]; omega)]
      rfl
    simp only [stepsL, hst, Option.bind_some]
    rw [q399 begin hb l (i + 1) _ (fun y hy => h y (List.mem_cons_of_mem _ hy)) (by simp only [List.length_append, List.length_cons, List.length_nil]; omega)]
    simp
theorem check2 (begin : Int) (W : List SEvent) (hW : W.length ≤ 1000) : loopM (q51 (W.map (plJ begin))) 0 = some (bif accB begin W then .inl 2 else .inr ([], false)) := by
  have hl : (W.map (plJ begin)).length ≤ 1000 := by rw [List.length_map]; exact hW
  have k0 := q319 begin 1 2 W 0 (-1) 0 1 (.inl rfl) (by omega) (by omega)
  have k1 := q319 begin 3 4 W 0 (-1) 0 3 (.inl rfl) (by omega) (by omega)
  have f0 : (fun x : SEvent => x.Kind == 1 || x.Kind == 2) = isC := rfl
  have f1 : (fun x : SEvent => x.Kind == 3 || x.Kind == 4) = isV := rfl
  rw [f0] at k0
  rw [f1] at k1
  unfold accB
  rcases k0 with ⟨a, s, b⟩ | ⟨a, b⟩
  · rw [a]
    have st0 : q51 (W.map (plJ begin)) 0 = some (.inl 1) := by
      unfold q51
      rw [show getI ([(1, 2), (3, 4)] : List (Int × Int)) 0 = some (1, 2) from rfl]
      simp only [show decide ((0 : Int) < 2) = true from rfl, cond_true, Option.bind_some]
      rw [rangeM_steps _ (by omega), b]
      rfl
    rw [loopM_next st0]
    rcases k1 with ⟨c, s', d⟩ | ⟨c, d⟩
    · rw [c]
      have st1 : q51 (W.map (plJ begin)) 1 = some (.inl 2) := by
        unfold q51
        rw [show getI ([(1, 2), (3, 4)] : List (Int × Int)) 1 = some (3, 4) from rfl]
        simp only [show decide ((1 : Int) < 2) = true from rfl, cond_true, Option.bind_some]
        rw [rangeM_steps _ (by omega), d]
        rfl
      rw [loopM_next st1]
      exact loopM_out rfl
    · rw [c]
      refine loopM_out ?_
      unfold q51
      rw [show getI ([(1, 2), (3, 4)] : List (Int × Int)) 1 = some (3, 4) from rfl]
      simp only [show decide ((1 : Int) < 2) = true from rfl, cond_true, Option.bind_some]
      rw [rangeM_steps _ (by omega), d]
      rfl
  · rw [a]
    refine loopM_out ?_
    unfold q51
    rw [show getI ([(1, 2), (3, 4)] : List (Int × Int)) 0 = some (1, 2) from rfl]
    simp only [show decide ((0 : Int) < 2) = true from rfl, cond_true, Option.bind_some]
    rw [rangeM_steps _ (by omega), b]
    rfl
theorem q536 {e : SEngine} {f : SFire} {begin t : Int} (he : engP e) (hf : fireP e f) (hb : angB begin = true) : ∃ b, q207 e f begin t = some ((winV e f begin t).map (plJ begin), b) ∧ (b = false → winV e f begin t = []) := by
  unfold q207 winV
  rw [plan_eq e [f] t (by simp)]
  simp only [Option.bind_some]
  cases h : (planV e [f] t).2 != 0
  · have hp := plan_ok he hf h
    have hlen := hp.length_eq
    have h6 := evs_len e t f
    have hQ : ∀ x ∈ (planV e [f] t).1, evP x := fun x hx => (evs_ok he hf x (hp.mem_iff.1 hx)).1
    have hwl := (q361 begin (planV e [f] t).1).length_eq
    simp only [cond_false]
    rw [rangeM_steps _ (by omega), q399 begin hb _ 0 [] hQ (by simp only [List.length_nil]; omega)]
    simp only [Option.bind_some, List.nil_append]
    rw [q548 begin _ (by omega) hQ]
    simp only [Option.bind_some]
    rw [check2 begin _ (by omega)]
    cases accB begin (ordW begin (planV e [f] t).1)
    · exact ⟨false, rfl, fun _ => rfl⟩
    · exact ⟨true, rfl, fun h => by cases h⟩
  · exact ⟨false, rfl, fun _ => rfl⟩
theorem q514 {W : List SEvent} {cyl : Int} (h : ∀ x ∈ W, evP x ∧ x.Cylinder = cyl) : (W.filter fun x => chn x == 2 * (cyl - 1)) = W.filter isC ∧ (W.filter fun x => chn x == 2 * (cyl - 1) + 1) = W.filter isV := by
  constructor
  · refine List.filter_congr fun x hx => ?_
    obtain ⟨hk, hc⟩ := h x hx
    unfold chn isC
    rw [hc]
    have := hk.2.1
    by_cases h3 : x.Kind = 3 ∨ x.Kind = 4
    · rw [if_pos h3, Bool.eq_iff_iff]; simp; omega
    · rw [if_neg h3, Bool.eq_iff_iff]; simp; omega
  · refine List.filter_congr fun x hx => ?_
    obtain ⟨hk, hc⟩ := h x hx
    unfold chn isV
    rw [hc]
    have := hk.2.1
    by_cases h3 : x.Kind = 3 ∨ x.Kind = 4
    · rw [if_pos h3, Bool.eq_iff_iff]; simp; omega
    · rw [if_neg h3, Bool.eq_iff_iff]; simp; omega
theorem q496 {e : SEngine} {f : SFire} {t : Int} {W : List SEvent} (hp : W.Perm (evs e t f)) : ((W.filter isC).map kp).Perm coilL ∧ ((W.filter isV).map kp).Perm (valveL (pul f)) := by
  have hm : (W.map kp).Perm (coilL ++ valveL (pul f)) := by rw [← evs_kp e f t]; exact hp.map kp
  have c1 : (W.filter isC).map kp = (W.map kp).filter coilK := by rw [List.filter_map]; rfl
  have c2 : (W.filter isV).map kp = (W.map kp).filter valveK := by rw [List.filter_map]; rfl
  rw [c1, c2]
  constructor
  · refine (hm.filter coilK).trans ?_
    rcases q205 f with h | h | h <;> (rw [h]; exact List.Perm.refl _)
  · refine (hm.filter valveK).trans ?_
    rcases q205 f with h | h | h <;> (rw [h]; exact List.Perm.refl _)
end Go.Pv.Sc
set_option linter.unusedSimpArgs false
namespace Go.Pv
open Go
theorem md_pos (v : Bool) (q q' : Int) (f : Int → Option (Int × Int)) (h : (bif v then some (IntKind.u64.wrap (q + 1)) else some q) = some q') (h0 : 0 ≤ q') (h1 : q' < 9223372036854775808) :
    (Option.bind (some v) fun v4 => Option.bind (bif v4 then (some (IntKind.u64.wrap (q + 1))) else (some q)) fun (q : Int) => bif (false && (decide (q ≤ 9223372036854775808))) then f q else (bif ((!false) && (decide (q < 9223372036854775808))) then (some (w64 q, 0)) else (some (0, 9)))) = some (q', 0) := by
  have e : decide (q' < 9223372036854775808) = true := decide_eq_true h1
  rw [Option.bind_some, h, Option.bind_some, Bool.false_and, cond_false, Bool.not_false, Bool.true_and, e, cond_true, w64_of (by omega) (by omega)]
theorem u64_of {n : Int} (h0 : 0 ≤ n) (h1 : n < 18446744073709551616) : IntKind.u64.wrap n = n := by
  unfold IntKind.wrap
  simp only [IntKind.bits, IntKind.signed]
  simp only [show (2 : Int) ^ 64 = 18446744073709551616 from rfl, Bool.false_and, Bool.false_eq_true, if_false]
  omega
theorem q287 (n : Int) (h0 : -9223372036854775808 ≤ n) (h1 : n ≤ 9223372036854775807) : q117 n = some (n.natAbs : Int) := by
  unfold q117
  by_cases h : n < 0
  · simp only [h, decide_true, cond_true, Option.some.injEq]
    rw [w64_of (n := n + 1) (by omega) (by omega), w64_of (n := 0 - (n + 1)) (by omega) (by omega), u64_of (n := 0 - (n + 1)) (by omega) (by omega), u64_of (by omega) (by omega)]
    omega
  · simp only [h, decide_false, cond_false, Option.some.injEq]
    rw [u64_of (by omega) (by omega)]
    omega
theorem q538 (lo y : Nat) (h0 : lo < 18446744073709551616) (h1 : 0 < y) : q192 0 lo y = some (((lo / y : Nat) : Int), ((lo % y : Nat) : Int)) := by
  unfold q192
  have e1 : ((y : Int) == 0) = false := by
    have : ¬ (y : Int) = 0 := by omega
    simpa using this
  have e2 : decide ((y : Int) ≤ 0) = false := by simp; omega
  have e3 : ¬ (y : Int) = 0 := by omega
  simp only [e1, e2, cond_false, Option.bind_some, quoM, remM, if_neg e3]
  have q1 : (lo : Int).tdiv y = ((lo / y : Nat) : Int) := rfl
  have q2 : (lo : Int).tmod y = ((lo % y : Nat) : Int) := rfl
  have q3 : lo / y ≤ lo := Nat.div_le_self _ _
  rw [q1, q2]
  generalize lo / y = q at q3 ⊢
  rw [u64_of (by omega) (by omega), show ((0 : Int) == 0) = true from rfl, cond_true]
theorem q497 (a c mode : Int) (ha0 : -9223372036854775808 ≤ a) (ha1 : a ≤ 9223372036854775807) (hc0 : 0 < c) (hc1 : c ≤ 9223372036854775807) (hm : mode = 1 ∨ mode = 2) :
    q242 a 1 c mode = some (if mode = 1 then a / c else -((-a) / c), 0) := by
  unfold q242
  have m1 : ((decide (mode < 1)) || (decide (mode > 3))) = false := by
    rcases hm with rfl | rfl <;> rfl
  have c0 : (c == 0) = false := by
    have : ¬ c = 0 := by omega
    simpa using this
  rw [m1, c0, q287 a ha0 ha1, q287 1 (by omega) (by omega), q287 c (by omega) hc1]
  obtain ⟨m, hm'⟩ : ∃ m : Nat, a.natAbs = m := ⟨_, rfl⟩
  obtain ⟨k, rfl⟩ : ∃ k : Nat, c = k := ⟨c.toNat, by omega⟩
  have hk : 0 < k := by omega
  have hml : m ≤ 9223372036854775808 := by omega
  rw [hm']
  simp only [cond_false, Option.bind_some, q246, mul64M]
  rw [if_pos (by omega)]
  simp only [Option.bind_some]
  have e1 : (m : Int) * ((Int.natAbs 1 : Nat) : Int) / 18446744073709551616 = 0 := by
    have : ((Int.natAbs 1 : Nat) : Int) = 1 := rfl
    rw [this]; omega
  have e2 : (m : Int) * ((Int.natAbs 1 : Nat) : Int) % 18446744073709551616 = (m : Int) := by
    have : ((Int.natAbs 1 : Nat) : Int) = 1 := rfl
    rw [this]; omega
  have e3 : (((Int.natAbs (k : Int)) : Nat) : Int) = (k : Int) := by omega
  have e4 : decide ((0 : Int) ≥ (k : Int)) = false := decide_eq_false (by omega)
  rw [e1, e2, e3, e4, show (0 : Int) = 0 from rfl, q538 m k (by omega) hk]
  have q1 : m / k ≤ m := Nat.div_le_self _ _
  have q2 : m % k < k := Nat.mod_lt _ hk
  have q3 : k * (m / k) + m % k = m := Nat.div_add_mod m k
  generalize m / k = q at q1 q3 ⊢
  generalize m % k = r at q2 q3 ⊢
  have q4 : (m : Int) = (q : Int) * (k : Int) + (r : Int) := by rw [← q3, Int.natCast_add, Int.natCast_mul, Int.mul_comm]
  have hqk : r = 0 → 0 < m → 0 < q := fun h0 h1 => by
    rcases Nat.eq_zero_or_pos q with h | h
    · rw [h, h0] at q3; omega
    · exact h
  have hql : 0 < r → q < 9223372036854775808 := fun h0 => by
    rcases Nat.lt_or_ge q 9223372036854775808 with h | h
    · exact h
    · have : k * q ≥ 1 * 9223372036854775808 := Nat.mul_le_mul (by omega) h
      omega
  have hql2 : 0 < r → m ≤ 9223372036854775807 → q < 9223372036854775807 := fun h0 h1 => by
    rcases Nat.lt_or_ge q 9223372036854775807 with h | h
    · exact h
    · have : k * q ≥ 1 * 9223372036854775807 := Nat.mul_le_mul (by omega) h
      omega
  have e5 : decide ((q : Int) > 9223372036854775808) = false := decide_eq_false (by omega)
  simp only [cond_false, Option.bind_some, e5]
  have d1 : decide ((1 : Int) < 0) = false := rfl
  have d2 : decide ((k : Int) < 0) = false := decide_eq_false (by omega)
  rw [d1, d2]
  have fl0 : (m : Int) / (k : Int) = (q : Int) := by
    rw [q4, Int.add_comm, Int.add_mul_ediv_right _ _ (by omega), Int.ediv_eq_zero_of_lt (by omega) (by omega)]; omega
  have fl1 : (-(m : Int)) / (k : Int) = if r = 0 then -(q : Int) else -(q : Int) - 1 := by
    split
    · rename_i h
      have : -(m : Int) = (-(q : Int)) * (k : Int) := by rw [q4, Int.neg_mul, h]; omega
      rw [this, Int.mul_ediv_cancel _ (by omega)]
    · rename_i h
      have e : -(m : Int) = ((k : Int) - (r : Int)) + (-(q : Int) - 1) * (k : Int) := by
        rw [q4, Int.sub_mul, Int.neg_mul]; omega
      rw [e, Int.add_mul_ediv_right _ _ (by omega), Int.ediv_eq_zero_of_lt (by omega) (by omega)]; omega
  clear q3 q4
  by_cases hn : a < 0
  · have ha : a = -(m : Int) := by omega
    have e6 : decide (a < 0) = true := decide_eq_true hn
    have n1 : (!(!true == false) == false) = true := by decide
    rw [e6, n1]
    rcases hm with rfl | rfl
    · -- down, of a negative number
      have r1 : q141 (r : Int) (k : Int) true 1 = some (decide ((r : Int) > 0)) := rfl
      rw [if_pos rfl, ha, fl1, r1]
      by_cases hr : r = 0
      · have r2 : decide ((r : Int) > 0) = false := decide_eq_false (by omega)
        have hpos := hqk hr (by omega)
        have r3 : decide ((q : Int) ≤ 9223372036854775808) = true := decide_eq_true (by omega)
        rw [if_pos hr, r2]
        simp only [Option.bind_some, cond_false, r3]
        rw [u64_of (n := (q : Int) - 1) (by omega) (by omega), w64_of (n := (q : Int) - 1) (by omega) (by omega), w64_of (n := 0 - ((q : Int) - 1)) (by omega) (by omega), w64_of (n := 0 - ((q : Int) - 1) - 1) (by omega) (by omega)]
        simp only [Bool.true_and, Bool.not_false, cond_true, Bool.not_true, Bool.false_and, cond_false]
        rw [show 0 - ((q : Int) - 1) - 1 = -(q : Int) by omega]
      · have r2 : decide ((r : Int) > 0) = true := decide_eq_true (by omega)
        have hlt := hql (by omega)
        have r3 : decide ((q : Int) + 1 ≤ 9223372036854775808) = true := decide_eq_true (by omega)
        rw [if_neg hr, r2]
        simp only [Option.bind_some, cond_true]
        rw [u64_of (n := (q : Int) + 1) (by omega) (by omega), r3, show (q : Int) + 1 - 1 = q by omega]
        rw [u64_of (n := (q : Int)) (by omega) (by omega), w64_of (n := (q : Int)) (by omega) (by omega), w64_of (n := 0 - (q : Int)) (by omega) (by omega), w64_of (n := 0 - (q : Int) - 1) (by omega) (by omega)]
        simp only [Bool.true_and, Bool.not_false, cond_true, Bool.not_true, Bool.false_and, cond_false]
        rw [show 0 - (q : Int) - 1 = -(q : Int) - 1 by omega]
    · -- up, of a negative number
      have r1 : q141 (r : Int) (k : Int) true 2 = some false := rfl
      rw [if_neg (by decide), ha, Int.neg_neg, fl0, r1]
      have r3 : decide ((q : Int) ≤ 9223372036854775808) = true := decide_eq_true (by omega)
      simp only [Option.bind_some, cond_false, r3]
      rcases Nat.eq_zero_or_pos q with hz | hz
      · have w1 : IntKind.u64.wrap (((0 : Nat) : Int) - 1) = 18446744073709551615 := by decide
        have w2 : w64 18446744073709551615 = -1 := by decide
        have w3 : w64 (0 - -1) = 1 := by decide
        have w4 : w64 (1 - 1) = 0 := by decide
        rw [hz, w1, w2, w3, w4]
        rfl
      · rw [u64_of (n := (q : Int) - 1) (by omega) (by omega), w64_of (n := (q : Int) - 1) (by omega) (by omega), w64_of (n := 0 - ((q : Int) - 1)) (by omega) (by omega), w64_of (n := 0 - ((q : Int) - 1) - 1) (by omega) (by omega)]
        simp only [Bool.true_and, Bool.not_false, cond_true, Bool.not_true, Bool.false_and, cond_false]
        rw [show 0 - ((q : Int) - 1) - 1 = -(q : Int) by omega]
  · have ha : a = (m : Int) := by omega
    have e6 : decide (a < 0) = false := decide_eq_false hn
    have n1 : (!(!false == false) == false) = false := by decide
    rw [e6, n1]
    rcases hm with rfl | rfl
    · have r1 : q141 (r : Int) (k : Int) false 1 = some false := rfl
      rw [if_pos rfl, ha, fl0, r1]
      exact md_pos false q q _ rfl (by omega) (by omega)
    · have r1 : q141 (r : Int) (k : Int) false 2 = some (decide ((r : Int) > 0)) := rfl
      rw [if_neg (by decide), ha, fl1, r1]
      by_cases hr : r = 0
      · have r2 : decide ((r : Int) > 0) = false := decide_eq_false (by omega)
        rw [if_pos hr, r2, Int.neg_neg]
        exact md_pos false q q _ rfl (by omega) (by omega)
      · have r2 : decide ((r : Int) > 0) = true := decide_eq_true (by omega)
        have hlt := hql2 (by omega) (by omega)
        rw [if_neg hr, r2, show -(-(q : Int) - 1) = (q : Int) + 1 by omega]
        exact md_pos true q (q + 1) _ (by rw [cond_true, u64_of (by omega) (by omega)]) (by omega) (by omega)
end Go.Pv
set_option linter.unusedSimpArgs false
namespace Go.Pv.Sc
open Go Go.Pv Go.Pv.Ev
def tickV (c : SClock) : Int := upV (23040 * c.Period) c.Space
theorem q534 {c : SClock} (h : ClkOk c) (hv : c.Valid = true) (hb : clkB c = true) : q260 c 23040 = some (tickV c, 0) := by
  have h1 := h.p0; have h2 := h.p1; have h3 := h.s0; have h4 := h.s1
  unfold q260 q303
  rw [clk_eq, hb, hv]
  simp only [Option.bind_some, Bool.not_true, cond_false]
  rw [show ((0 : Int) != 0) = false from rfl, show ((decide ((23040 : Int) < 0)) || (decide ((23040 : Int) > 46080))) = false from rfl]
  simp only [cond_false]
  rw [w64_of (by omega) (by omega)]
  unfold q385 q360
  rw [q497 _ _ 2 (by omega) (by omega) (by omega) (by omega) (.inr rfl)]
  rfl
theorem q266 {e : SEngine} {l : List SFire} (h : wishB e l = true) : ∀ f ∈ l, fireP e f := by
  intro f hf
  obtain ⟨i, hi, rfl⟩ := List.mem_iff_getElem.1 hf
  have := all_range'.1 h i hi
  unfold wishAt at this
  rw [List.getElem?_eq_getElem hi] at this
  simp only [Bool.and_eq_true, decide_eq_true_eq] at this
  exact this.1
theorem q359 {e : SEngine} {l : List SFire} (h : wishB e l = true) : l.Pairwise fun a b => a.Cylinder ≠ b.Cylinder := by
  rw [List.pairwise_iff_getElem]
  intro i j hi hj hij
  have := all_range'.1 h j hj
  unfold wishAt at this
  rw [List.getElem?_eq_getElem hj] at this
  simp only [Bool.and_eq_true, Bool.not_eq_true', List.any_eq_false, beq_iff_eq] at this
  refine this.2 l[i] ?_
  rw [List.mem_take_iff_getElem]
  exact ⟨i, by omega, rfl⟩
theorem q462 {c : Int} : ∀ {l : List SFire}, (∀ y ∈ l, y.Cylinder ≠ c) → (l.filter fun f => f.Cylinder == c) = [] := by
  intro l h
  rw [List.filter_eq_nil_iff]
  intro y hy
  simpa using h y hy
theorem q323 (c : Int) : ∀ {l : List SFire}, (l.Pairwise fun a b => a.Cylinder ≠ b.Cylinder) → (l.findIdx? (fun f => f.Cylinder == c) = none ∧ (l.filter fun f => f.Cylinder == c) = []) ∨ ∃ k f, l.findIdx? (fun f => f.Cylinder == c) = some k ∧ k < l.length ∧ l[k]? = some f ∧ f.Cylinder = c ∧ (l.filter fun f => f.Cylinder == c) = [f]
  | [], _ => .inl ⟨rfl, rfl⟩
  | x :: l, h => by
    rw [List.pairwise_cons] at h
    rw [List.findIdx?_cons]
    cases hx : x.Cylinder == c
    · rw [List.filter_cons_of_neg (by simp [hx])]
      simp only [Bool.false_eq_true, if_false]
      rcases q323 c h.2 with ⟨a, b⟩ | ⟨k, f, a, b, d, e, g⟩
      · exact .inl ⟨by rw [a]; rfl, b⟩
      · exact .inr ⟨k + 1, f, by rw [a]; rfl, by simpa using b, by simpa using d, e, g⟩
    · rw [List.filter_cons_of_pos (by simp [hx])]
      simp only [if_true]
      have hxc : x.Cylinder = c := beq_iff_eq.1 hx
      exact .inr ⟨0, x, rfl, by simp, rfl, hxc, by rw [q462 fun y hy => by rw [← hxc]; exact (h.1 y hy).symm]⟩
theorem q521 (l : List SFire) (hl : l.length ≤ 1000000) (c : Int) : q50 l (fun x0 => q93 x0 c) = some (match l.findIdx? (fun f => f.Cylinder == c) with | some k => (k : Int) | none => -1) := by
  unfold q50 q130
  rw [rangeN_list l (by omega) (fun (i : Int) x (_ : Unit) => Option.bind (q93 x c) fun v => bif v then (some (Fl.ret i)) else (some (Fl.next ())))]
  have := q332 (fun x => q93 x c) (fun f : SFire => f.Cylinder == c) l 0 (fun _ _ => rfl)
  rw [show ((0 : Nat) : Int) = 0 from rfl] at this
  rw [this]
  cases l.findIdx? (fun f => f.Cylinder == c) with
  | none => rfl
  | some k => simp
def shJ (v : Int) (begin : Int) (x : SEvent) : SJob := ⟨x, v + dst begin x.Angle, false, 0⟩
def addF (e : SEngine) (v t : Int) (f : SFire) : List SJob := (winV e f (beg e f.Cylinder) t).map (shJ v (beg e f.Cylinder))
def addV (e : SEngine) (k : SClock) (next : List SFire) (t : Int) (x : Int) : List SJob :=
  bif decide (dst k.Angle (beg e x) ≥ k.Ahead) then [] else (next.filter fun f => f.Cylinder == x).flatMap (addF e (dst k.Angle (beg e x)) t)
theorem q333 {e : SEngine} {f : SFire} {begin t : Int} (he : engP e) (hf : fireP e f) : (winV e f begin t).length ≤ 6 ∧ ∀ x ∈ winV e f begin t, evP x ∧ x.Cylinder = f.Cylinder := by
  unfold winV
  cases h : (planV e [f] t).2 != 0
  · have hp := plan_ok he hf h
    have hop := (q361 begin (planV e [f] t).1).trans hp
    have h6 := evs_len e t f
    simp only [cond_false]
    cases accB begin (ordW begin (planV e [f] t).1)
    · simp
    · refine ⟨by rw [cond_true, hop.length_eq]; exact h6, fun x hx => evs_ok (t := t) he hf x (hop.mem_iff.1 hx)⟩
  · simp
theorem q410 (v begin : Int) (hv : 0 ≤ v ∧ v ≤ 46080) : ∀ (W : List SEvent) (i : Int) (out : List SJob), out.length + W.length ≤ 100000 → stepsL (q144 v) (W.map (plJ begin)) i out = some (.inl (out ++ W.map (shJ v begin)))
  | [], i, out, _ => by simp [stepsL]
  | x :: W, i, out, hl => by
    rw [List.length_cons] at hl
    have hd : 0 ≤ dst begin x.Angle ∧ dst begin x.Angle < 46080 := by unfold dst; omega
    have hst : q144 v i (plJ begin x) out = some (.next (out ++ [shJ v begin x])) := by
      unfold q144 plJ
      simp only
      rw [appendM_ok _ _ (by simp only [List.length_cons, List.length_nil]; omega), w64_of (by omega) (by omega)]
      rfl
    simp only [List.map_cons, stepsL, hst, Option.bind_some]
    rw [q410 v begin hv W (i + 1) _ (by simp only [List.length_append, List.length_cons, List.length_nil]; omega)]
    simp
theorem q478 {s : SScheduler} {r2 : Int × Int} (he : engP s.Engine) (hk : ClkOk s.Clock) (hw : wishB s.Engine s.Next = true) (hn : s.Next.length ≤ 1000000) (i x : Int) (hx : x ∈ s.Engine.Order) (out : List SJob) (ho : out.length ≤ 10000) :
    q151 s r2 i x out = some (.next (out ++ addV s.Engine s.Clock s.Next r2.1 x)) := by
  have ha : angB s.Clock.Angle = true := q232.2 ⟨hk.an0, hk.an1⟩
  unfold q151
  rw [q480, decide_eq_true he, decide_eq_true hx]
  simp only [Bool.not_true, cond_false, Option.bind_some, q537]
  rw [dist_in ha (beg_ang ..), q521 _ hn]
  simp only [Option.bind_some]
  unfold addV
  cases hv : decide (dst s.Clock.Angle (beg s.Engine x) ≥ s.Clock.Ahead)
  · have hd : 0 ≤ dst s.Clock.Angle (beg s.Engine x) ∧ dst s.Clock.Angle (beg s.Engine x) ≤ 46080 := by unfold dst; omega
    rcases q323 x (q359 hw) with ⟨a, b⟩ | ⟨k, f, a, b, d, e, g⟩
    · rw [a, b]
      simp
    · have hf := q266 hw f (List.mem_of_getElem? d)
      obtain ⟨ok, p1, p2⟩ := q536 (t := r2.1) he hf (beg_ang s.Engine x)
      have hwl := q333 (begin := beg s.Engine x) (t := r2.1) he hf
      rw [a, g]
      simp only [Bool.false_or, show decide (((k : Nat) : Int) < 0) = false from decide_eq_false (by omega), cond_false, getI_nat, d, Option.bind_some]
      rw [p1]
      simp only [Option.bind_some, List.flatMap_cons, List.flatMap_nil, List.append_nil]
      unfold addF
      rw [e]
      cases ok
      · rw [p2 rfl]; simp
      · simp only [Bool.not_true, cond_false]
        rw [rangeM_steps _ (by rw [List.length_map]; omega), q410 _ _ hd _ _ _ (by omega)]
        rfl
  · simp
theorem q423 {s : SScheduler} {r2 : Int × Int} (he : engP s.Engine) (hk : ClkOk s.Clock) (hw : wishB s.Engine s.Next = true) (hn : s.Next.length ≤ 1000000) : ∀ (l : List Int) (i : Int) (out : List SJob), (∀ x ∈ l, x ∈ s.Engine.Order) → out.length + 6 * l.length ≤ 10000 →
    stepsL (q151 s r2) l i out = some (.inl (out ++ l.flatMap (addV s.Engine s.Clock s.Next r2.1)))
  | [], i, out, _, _ => by simp [stepsL]
  | x :: l, i, out, h, ho => by
    rw [List.length_cons] at ho
    have hx := h x (List.mem_cons_self ..)
    have hal : (addV s.Engine s.Clock s.Next r2.1 x).length ≤ 6 := by
      unfold addV
      cases decide (dst s.Clock.Angle (beg s.Engine x) ≥ s.Clock.Ahead)
      · rcases q323 x (q359 hw) with ⟨a, b⟩ | ⟨k, f, a, b, d, e, g⟩
        · rw [b]; simp
        · have hf := q266 hw f (List.mem_of_getElem? d)
          rw [g]
          simp only [cond_false, List.flatMap_cons, List.flatMap_nil, List.append_nil]
          unfold addF
          rw [List.length_map]
          exact (q333 he hf).1
      · simp
    simp only [stepsL, q478 he hk hw hn i x hx out (by omega), Option.bind_some]
    rw [q423 he hk hw hn l (i + 1) _ (fun y hy => h y (List.mem_cons_of_mem _ hy)) (by rw [List.length_append]; omega)]
    rw [List.flatMap_cons, List.append_assoc]
theorem q254 {s : SScheduler} (he : engP s.Engine) (hk : ClkOk s.Clock) (hv : s.Clock.Valid = true) (hb : clkB s.Clock = true) (hw : wishB s.Engine s.Next = true) (hn : s.Next.length ≤ 1000000) (hj : s.Jobs.length ≤ 1000) :
    q147 s = some ⟨s.Engine, s.Clock, s.Timer, s.Next, s.Jobs ++ s.Engine.Order.flatMap (addV s.Engine s.Clock s.Next (tickV s.Clock)), s.Cut⟩ := by
  have hn8 := he.2.1
  unfold q147
  rw [q534 hk hv hb]
  simp only [Option.bind_some]
  rw [rangeM_steps _ (by omega), q423 he hk hw hn _ 0 _ (fun _ h => h) (by omega)]
  rfl
end Go.Pv.Sc
set_option linter.unusedSimpArgs false
namespace Go.Pv.Sc
open Go Go.Pv Go.Pv.Ev
theorem q509 {e : SEngine} {k : SClock} {l : List SFire} {t x : Int} (he : engP e) (hw : wishB e l = true) : (addV e k l t x).length ≤ 6 := by
  unfold addV
  cases decide (dst k.Angle (beg e x) ≥ k.Ahead)
  · rcases q323 x (q359 hw) with ⟨a, b⟩ | ⟨k, f, a, b, d, e, g⟩
    · rw [b]; simp
    · have hf := q266 hw f (List.mem_of_getElem? d)
      rw [g]
      simp only [cond_false, List.flatMap_cons, List.flatMap_nil, List.append_nil]
      unfold addF
      rw [List.length_map]
      exact (q333 he hf).1
  · simp
def shiftJ (d : Int) (j : SJob) : SJob := ⟨j.Event, maxI (-1048576) (j.Left - d), j.Armed, j.At⟩
theorem q375 (d : Int) (hd : 0 ≤ d ∧ d ≤ 46080) : ∀ (r p : List SJob), (∀ j ∈ r, -1048576 ≤ j.Left ∧ j.Left ≤ 1048576) →
    stepsN (q114 d) r.length (p.length : Int) (p ++ r) = some (.inl (p ++ r.map (shiftJ d)))
  | [], p, _ => rfl
  | j :: r, p, h => by
    have hj := h j (List.mem_cons_self ..)
    have hst : q114 d (p.length : Int) (p ++ j :: r) = some (.next (p ++ shiftJ d j :: r)) := by
      unfold q114
      rw [g_mid]
      simp only [Option.bind_some]
      rw [w64_of (n := j.Left - d) (by omega) (by omega), s_mid]
      rfl
    simp only [List.length_cons, stepsN, hst, Option.bind_some]
    have := q375 d hd r (p ++ [shiftJ d j]) (fun k hk => h k (List.mem_cons_of_mem _ hk))
    rw [List.append_assoc, List.length_append] at this
    rw [show ((p.length : Int) + 1) = ((p.length + [shiftJ d j].length : Nat) : Int) by simp]
    rw [show p ++ shiftJ d j :: r = p ++ ([shiftJ d j] ++ r) from rfl, this]
    simp
end Go.Pv.Sc
set_option linter.unusedSimpArgs false
namespace Go.Pv.Sc
open Go Go.Pv Go.Pv.Ev
theorem q318 {w : List SJob} (hw : alt w false = true) : ∀ {l : List SJob} {lv : Bool}, alt l lv = true → alt (l ++ w) lv = true
  | [], lv, h => by
    have : lv = false := by simpa [alt] using h
    subst this; exact hw
  | j :: l, lv, h => by
    simp only [alt, Bool.and_eq_true] at h
    simp only [List.cons_append, alt, Bool.and_eq_true]
    exact ⟨h.1, q318 hw h.2⟩
theorem q470 {w l : List SJob} {x : SChannel} (hw : alt w false = true) (h : rowB l x = true) : rowB (l ++ w) x = true := by
  cases l with
  | nil =>
    simp only [rowB, Bool.and_eq_true, Bool.not_eq_true'] at h
    cases w with
    | nil => simp [rowB, h.1, h.2]
    | cons j r =>
      simp only [alt, Bool.and_eq_true, Bool.not_eq_true'] at hw
      simp only [List.nil_append, rowB, h.1, h.2, hw.1.1, hw.1.2, hw.2]
      rfl
  | cons j r =>
    simp only [rowB, Bool.and_eq_true] at h
    simp only [List.cons_append, rowB, Bool.and_eq_true]
    exact ⟨h.1, q318 hw h.2⟩
theorem kpR_alt (c : Nat) (v begin : Int) : ∀ (F : List SEvent) (i : Nat), kpR c (F.map kp) i = true → (i + F.length) % 2 = 0 → alt (F.map (shJ v begin)) (i % 2 == 1) = true
  | [], i, _, h => by
    have : (i % 2 == 1) = false := beq_eq_false_iff_ne.2 (by simp at h; omega)
    rw [this]; rfl
  | x :: F, i, h, hp => by
    simp only [List.map_cons, kpR, Bool.and_eq_true] at h
    simp only [List.length_cons] at hp
    have ih := kpR_alt c v begin F (i + 1) h.2 (by omega)
    have e : (!(i % 2 == 1)) = ((i + 1) % 2 == 1) := by
      rcases Nat.mod_two_eq_zero_or_one i with h2 | h2
      · rw [h2, show (i + 1) % 2 = 1 by omega]; rfl
      · rw [h2, show (i + 1) % 2 = 0 by omega]; rfl
    have h1 := h.1.1
    simp only [List.map_cons, alt]
    rw [e, ih]
    have e2 : (i % 2 == 0) = !(i % 2 == 1) := by
      rcases Nat.mod_two_eq_zero_or_one i with h2 | h2 <;> rw [h2] <;> rfl
    rw [e2] at h1
    have hk : (kp x).1 = x.Kind := rfl
    rw [hk] at h1
    unfold shJ
    simp only
    revert h1
    cases onK x.Kind <;> cases (i % 2 == 1) <;> simp
theorem mine_sh (v begin : Int) (W : List SEvent) (c : Int) : mine (W.map (shJ v begin)) c = (W.filter fun x => chn x == c).map (shJ v begin) := by
  unfold mine
  rw [List.filter_map]
  rfl
theorem q477 {W : List SEvent} {cyl c : Int} (h : ∀ x ∈ W, evP x ∧ x.Cylinder = cyl) (h0 : c ≠ 2 * (cyl - 1)) (h1 : c ≠ 2 * (cyl - 1) + 1) : (W.filter fun x => chn x == c) = [] := by
  rw [List.filter_eq_nil_iff]
  intro x hx
  obtain ⟨_, hc⟩ := h x hx
  unfold chn
  rw [hc]
  split <;> simp <;> omega
theorem q535 {e : SEngine} {f : SFire} {v t : Int} (he : engP e) (hf : fireP e f) (c : Int) : alt (mine (addF e v t f) c) false = true := by
  unfold addF winV
  cases h : (planV e [f] t).2 != 0
  · have hp := plan_ok he hf h
    have hop := (q361 (beg e f.Cylinder) (planV e [f] t).1).trans hp
    simp only [cond_false]
    cases ha : accB (beg e f.Cylinder) (ordW (beg e f.Cylinder) (planV e [f] t).1)
    · rfl
    · simp only [cond_true]
      generalize hW : ordW (beg e f.Cylinder) (planV e [f] t).1 = W at ha hop
      have hE : ∀ x ∈ W, evP x ∧ x.Cylinder = f.Cylinder := fun x hx => evs_ok (t := t) he hf x (hop.mem_iff.1 hx)
      have hk := q496 hop
      have fl := q514 hE
      unfold accB at ha
      rw [kp_coil hk.1, q540 (pul f) (q205 f) hk.2] at ha
      simp only [Bool.and_eq_true] at ha
      rw [mine_sh]
      by_cases h0 : c = 2 * (f.Cylinder - 1)
      · subst h0
        rw [fl.1]
        have l2 := hk.1.length_eq
        rw [List.length_map] at l2
        exact kpR_alt 0 v _ _ 0 ha.1.2 (by rw [l2]; rfl)
      · by_cases h1 : c = 2 * (f.Cylinder - 1) + 1
        · subst h1
          rw [fl.2]
          have l2 := hk.2.length_eq
          rw [List.length_map] at l2
          refine kpR_alt 1 v _ _ 0 ha.2.2 ?_
          rw [l2]
          rcases q205 f with h | h | h <;> (rw [h]; rfl)
        · rw [q477 hE h0 h1]; rfl
  · rfl
theorem q389 {α : Type} (g : α → List SJob) (c : Int) : ∀ (l : List α), (∀ x ∈ l, alt (mine (g x) c) false = true) → alt (mine (l.flatMap g) c) false = true
  | [], _ => rfl
  | x :: l, h => by
    rw [List.flatMap_cons, q152]
    exact q318 (q389 g c l fun y hy => h y (List.mem_cons_of_mem _ hy)) (h x (List.mem_cons_self ..))
theorem q543 {e : SEngine} {k : SClock} {l : List SFire} {t x : Int} (he : engP e) (hw : wishB e l = true) (c : Int) : alt (mine (addV e k l t x) c) false = true := by
  unfold addV
  cases decide (dst k.Angle (beg e x) ≥ k.Ahead)
  · exact q389 _ c _ fun f hf => q535 he (q266 hw f (List.mem_filter.1 hf).1) c
  · rfl
theorem q515 {e : SEngine} {k : SClock} {l : List SFire} {t x : Int} (he : engP e) (hw : wishB e l = true) : ∀ j ∈ addV e k l t x, JobOk e.Order.length j := by
  intro j hj
  unfold addV at hj
  cases hv : decide (dst k.Angle (beg e x) ≥ k.Ahead) <;> rw [hv] at hj
  · simp only [cond_false, List.mem_flatMap] at hj
    obtain ⟨f, hf, hj⟩ := hj
    have hff := q266 hw f (List.mem_filter.1 hf).1
    unfold addF at hj
    obtain ⟨y, hy, rfl⟩ := List.mem_map.1 hj
    obtain ⟨h1, h2⟩ := (q333 he hff).2 y hy
    have hc := eng_cyl he hff.1
    refine ⟨by unfold shJ; simp only; rw [h2]; exact hc, h1.2.1, h1.1, h1.2.2.2, ?_, .inr rfl⟩
    unfold shJ dst; simp only; omega
  · simp at hj
theorem q421 (d : Int) : ∀ (l : List SJob) (lv : Bool), alt (l.map (shiftJ d)) lv = alt l lv
  | [], _ => rfl
  | j :: l, lv => by
    simp only [List.map_cons, alt, q421 d l]
    rfl
theorem q489 (d : Int) (l : List SJob) (x : SChannel) : rowB (l.map (shiftJ d)) x = rowB l x := by
  cases l with
  | nil => rfl
  | cons j r => simp only [List.map_cons, rowB, q421 d r]; rfl
theorem q500 (d now : Int) (l : List SJob) : cutB now (l.map (shiftJ d)) = cutB now l := by
  match l with
  | [] => rfl
  | [j] => rfl
  | i :: j :: r => rfl
theorem q401 (d : Int) (l : List SJob) (c : Int) : mine (l.map (shiftJ d)) c = (mine l c).map (shiftJ d) := by
  unfold mine
  rw [List.filter_map]
  rfl
theorem q485 {n : Nat} {d : Int} {j : SJob} (hd : 0 ≤ d ∧ d ≤ 46080) (h : JobOk n j) : JobOk n (shiftJ d j) := by
  have hl := h.left
  refine ⟨h.cyl, h.kind, h.angle, h.pulse, ?_, h.at0⟩
  unfold shiftJ maxI
  simp only
  split <;> omega
theorem q472 {n : Nat} {now d : Int} {ch : List SChannel} {l : List SJob} (hd : 0 ≤ d ∧ d ≤ 46080) (h : Rows n now (ch, l)) : Rows n now (ch, l.map (shiftJ d)) := by
  refine ⟨h.len, h.ch, fun j hj => ?_, fun c hc => ?_⟩
  · obtain ⟨k, hk, rfl⟩ := List.mem_map.1 hj
    exact q485 hd (h.job k hk)
  · have := h.row c hc
    simp only at this ⊢
    rw [q401, q489]; exact this
theorem q493 {n : Nat} {now : Int} {ch : List SChannel} {l w : List SJob} (h : Rows n now (ch, l)) (hj : ∀ j ∈ w, JobOk n j) (hw : ∀ c, alt (mine w c) false = true) : Rows n now (ch, l ++ w) := by
  refine ⟨h.len, h.ch, fun j hj2 => ?_, fun c hc => ?_⟩
  · rcases List.mem_append.1 hj2 with h2 | h2
    · exact h.job j h2
    · exact hj j h2
  · have := h.row c hc
    simp only at this ⊢
    rw [q152]
    exact q470 (hw _) this
def zeroS : SScheduler := ⟨(⟨([] : List Int), 0⟩ : SEngine), (⟨false, 0, 0, 0, 0, 0⟩ : SClock), (⟨0, ([] : List SChannel)⟩ : STimer), ([] : List SFire), ([] : List SJob), false⟩
def leftJ (s : SScheduler) (c : SClock) (l : List SJob) : List SJob := bif s.Clock.Valid then l.map (shiftJ (dst s.Clock.Angle c.Angle)) else l
def mk (s : SScheduler) (c : SClock) (l : List SJob) : SScheduler := ⟨s.Engine, c, s.Timer, s.Next, l, s.Cut⟩
def newJ (s : SScheduler) (c : SClock) (g : SScheduler) : List SJob := leftJ s c g.Jobs ++ g.Engine.Order.flatMap (addV g.Engine c g.Next (tickV c))
def toothG (s : SScheduler) (c : SClock) (g : List SSwitch × SScheduler) : SScheduler × List SSwitch × Int :=
  bif g.2.Cut then (mk g.2 c (leftJ s c g.2.Jobs), g.1, 0) else bif decide (((newJ s c g.2).length : Int) > 200) then (zeroS, [], 5) else (armV (mk g.2 c (newJ s c g.2)), g.1, 0)
def toothV (s : SScheduler) (c : SClock) : SScheduler × List SSwitch × Int :=
  bif !schB s || !clkB c then (zeroS, [], 1) else bif !c.Valid then (zeroS, [], 6) else bif decide (c.At < s.Timer.Now) then (zeroS, [], 16) else toothG s c (goE c.At s)
theorem clk_ang {s : SScheduler} (h : SchOk s) (hv : s.Clock.Valid = true) : angB s.Clock.Angle = true := q232.2 ⟨(clkOk h.clk hv).an0, (clkOk h.clk hv).an1⟩
theorem q422 {e : SEngine} {k : SClock} {next : List SFire} {t : Int} (he : engP e) (hw : wishB e next = true) : ∀ l : List Int, (l.flatMap (addV e k next t)).length ≤ 6 * l.length
  | [] => by simp
  | x :: l => by
    have := q422 (k := k) (t := t) he hw l
    have := q509 (k := k) (t := t) (x := x) he hw
    rw [List.flatMap_cons, List.length_append, List.length_cons]; omega
theorem q328 (s : SScheduler) (c : SClock) (l : List SJob) : (leftJ s c l).length = l.length := by
  unfold leftJ; cases s.Clock.Valid <;> simp
structure Gone (s : SScheduler) (c : SClock) (g : List SSwitch × SScheduler) : Prop where
  live : Live s.Engine.Order.length g.2
  eng : g.2.Engine = s.Engine
  clk : g.2.Clock = s.Clock
  next : g.2.Next = s.Next
  cut : g.2.Cut = s.Cut
  now : g.2.Timer.Now = c.At
  jobs : g.2.Jobs.length ≤ 200
theorem gone {s : SScheduler} {c : SClock} (h : SchOk s) (hc : ClkOk c) (hle : s.Timer.Now ≤ c.At) : q134 s c.At = some (goE c.At s) ∧ Gone s c (goE c.At s) := by
  obtain ⟨h1, h2, h3, h4, h5, h6⟩ := goOn_eq (.of h) c.At hle hc.at1
  have := h.most
  exact ⟨h1, h2, h3.eng, h3.clk, h3.next, h3.cut, h4, by omega⟩
theorem q430 {s : SScheduler} {c : SClock} {g : List SSwitch × SScheduler} (h : Gone s c g) : Rows s.Engine.Order.length g.2.Timer.Now (g.2.Timer.Channels, leftJ s c g.2.Jobs) := by
  unfold leftJ
  cases s.Clock.Valid
  · exact h.live.rows
  · exact q472 (by unfold dst; omega) h.live.rows
theorem q511 {s : SScheduler} {c : SClock} {g : List SSwitch × SScheduler} (h : Gone s c g) (hc : ClkOk c) (hv : c.Valid = true) (hcut : g.2.Cut = true) : Live s.Engine.Order.length (mk g.2 c (leftJ s c g.2.Jobs)) := by
  refine ⟨h.live.eng, h.live.n1, h.live.n8, q430 h, fun _ ch hch => ?_, h.live.now0, h.live.now1, .inr ⟨hv, hc⟩, ?_⟩
  · show cutB g.2.Timer.Now (mine (leftJ s c g.2.Jobs) (ch : Int)) = true
    have := h.live.cut hcut ch hch
    unfold leftJ
    cases s.Clock.Valid
    · exact this
    · simp only [cond_true]
      rw [q401, q500]; exact this
  · show (leftJ s c g.2.Jobs).length ≤ 1000
    rw [q328]; have := h.jobs; omega
theorem q450 {s : SScheduler} {c : SClock} {g : List SSwitch × SScheduler} (h : Gone s c g) (hs : SchOk s) (hc : ClkOk c) (hv : c.Valid = true) (hcut : g.2.Cut = false) : Live s.Engine.Order.length (mk g.2 c (newJ s c g.2)) := by
  have he : engP g.2.Engine := by rw [h.eng]; exact hs.eng
  have hw : wishB g.2.Engine g.2.Next = true := by rw [h.eng, h.next]; exact hs.wish
  have hn : g.2.Engine.Order.length = s.Engine.Order.length := by rw [h.eng]
  have hn8 := he.2.1
  have h6 := q422 (k := c) (t := tickV c) he hw g.2.Engine.Order
  have hl := q328 s c g.2.Jobs
  have hjb := h.jobs
  refine ⟨h.live.eng, h.live.n1, h.live.n8, ?_, fun hcc => ?_, h.live.now0, h.live.now1, .inr ⟨hv, hc⟩, ?_⟩
  · refine q493 (q430 h) (fun j hj => ?_) fun ch => q389 _ ch _ fun x _ => q543 he hw ch
    obtain ⟨x, _, hx⟩ := List.mem_flatMap.1 hj
    rw [← hn]
    exact q515 he hw j hx
  · have : g.2.Cut = true := hcc
    rw [hcut] at this; cases this
  · show (newJ s c g.2).length ≤ 1000
    unfold newJ
    rw [List.length_append]; omega
theorem q397 {s : SScheduler} (h : Live s.Engine.Order.length s) (he : engP s.Engine) (hb : clkB s.Clock = true) (hv : s.Clock.Valid = true) (hw : wishB s.Engine s.Next = true) (hm : s.Jobs.length ≤ 200) : SchOk s := by
  refine ⟨he, hb, h.tim, h.len, hw, hm, fun h2 => absurd (hv.symm.trans h2) (by decide), h.rows.job, fun c hc => ?_⟩
  have h1 := h.rows.row c hc
  simp only at h1
  unfold lineB
  rw [h1]
  cases hcut : s.Cut
  · rfl
  · rw [h.cut hcut c hc]; rfl
theorem q510 {s : SScheduler} {c : SClock} (h0 : (toothV s c).2.2 = 0) : SchOk (toothV s c).1 := by
  unfold toothV at h0 ⊢
  cases h1 : !schB s || !clkB c <;> rw [h1] at h0
  · simp only [cond_false] at h0 ⊢
    cases h2 : !c.Valid <;> rw [h2] at h0
    · simp only [cond_false] at h0 ⊢
      cases h3 : decide (c.At < s.Timer.Now) <;> rw [h3] at h0
      · simp only [cond_false] at h0 ⊢
        simp only [Bool.or_eq_false_iff, Bool.not_eq_false'] at h1
        have hv : c.Valid = true := by simpa using h2
        have hs := q230.1 h1.1
        have hc := clkOk h1.2 hv
        have hle : s.Timer.Now ≤ c.At := by simpa using h3
        obtain ⟨_, hg⟩ := gone hs hc hle
        unfold toothG at h0 ⊢
        cases hcut : (goE c.At s).2.Cut <;> rw [hcut] at h0
        · simp only [cond_false] at h0 ⊢
          cases h4 : decide (((newJ s c (goE c.At s).2).length : Int) > 200) <;> rw [h4] at h0
          · simp only [cond_false]
            have hl := q440 (q450 hg hs hc hv hcut)
            have ha := q431 (mk (goE c.At s).2 c (newJ s c (goE c.At s).2))
            have e1 : (armV (mk (goE c.At s).2 c (newJ s c (goE c.At s).2))).Engine = s.Engine := ha.eng.trans hg.eng
            have e2 : (armV (mk (goE c.At s).2 c (newJ s c (goE c.At s).2))).Clock = c := ha.clk
            have e3 : (armV (mk (goE c.At s).2 c (newJ s c (goE c.At s).2))).Next = s.Next := ha.next.trans hg.next
            refine q397 (by rw [e1]; exact hl) (by rw [e1]; exact hs.eng) (by rw [e2]; exact h1.2) (by rw [e2]; exact hv) (by rw [e1, e3]; exact hs.wish) ?_
            have hcf : (mk (goE c.At s).2 c (newJ s c (goE c.At s).2)).Cut = false := hcut
            unfold armV
            rw [hcf]
            simp only [Bool.false_eq_true, if_false]
            show (armN _ _ _ _).2.length ≤ 200
            rw [q236]
            have : (newJ s c (goE c.At s).2).length ≤ 200 := by
              have := of_decide_eq_false h4; omega
            exact this
          · simp at h0
        · simp only [cond_true]
          have hl := q511 hg hc hv hcut
          refine q397 (by show Live (goE c.At s).2.Engine.Order.length _; rw [hg.eng]; exact hl) (by show engP (goE c.At s).2.Engine; rw [hg.eng]; exact hs.eng) h1.2 hv (by show wishB (goE c.At s).2.Engine (goE c.At s).2.Next = true; rw [hg.eng, hg.next]; exact hs.wish) ?_
          show (leftJ s c (goE c.At s).2.Jobs).length ≤ 200
          rw [q328]; exact hg.jobs
      · simp at h0
    · simp at h0
  · simp at h0
end Go.Pv.Sc
set_option linter.unusedSimpArgs false
namespace Go.Pv.Sc
open Go Go.Pv Go.Pv.Ev
theorem q474 (s : SScheduler) (c : SClock) (hn : s.Next.length ≤ 1000000) (hj : s.Jobs.length ≤ 1000000) :
    (Option.bind (q35 s) fun v => (bif (!v) then (some true) else (Option.bind (q132 c) fun v2 => some (!v2)))) = some (!schB s || !clkB c) := by
  rw [q296 s hn hj, clk_eq]
  cases schB s <;> rfl
theorem bind2 {α β γ : Type} (x : Option α) (f : α → Option β) (g : β → Option γ) : (Option.bind x fun v => Option.bind (f v) g) = Option.bind (Option.bind x f) g := by cases x <;> rfl
theorem q354 (s : SScheduler) (c : SClock) (hn : s.Next.length ≤ 1000000) (hj : s.Jobs.length ≤ 1000000) : q37 s c = some (toothV s c) := by
  unfold q37 toothV
  rw [bind2, q474 s c hn hj]
  simp only [Option.bind_some]
  cases h1 : !schB s || !clkB c
  · simp only [cond_false]
    cases h2 : !c.Valid
    · simp only [cond_false]
      cases h3 : decide (c.At < s.Timer.Now)
      · simp only [cond_false]
        simp only [Bool.or_eq_false_iff, Bool.not_eq_false'] at h1
        have hv : c.Valid = true := by simpa using h2
        have hs := q230.1 h1.1
        have hc := clkOk h1.2 hv
        have hle : s.Timer.Now ≤ c.At := by simpa using h3
        obtain ⟨hgo, hg⟩ := gone hs hc hle
        rw [q292 s hn hj]
        simp only [Option.bind_some]
        rw [hgo]
        simp only [Option.bind_some]
        unfold toothG
        generalize goE c.At s = g at hg
        have hcb : angB c.Angle = true := q232.2 ⟨hc.an0, hc.an1⟩
        have hleft : (bif s.Clock.Valid then (Option.bind (q65 s.Clock.Angle c.Angle) fun v4 => Option.bind (rangeN (g.2.Jobs.length : Int) (q114 v4) g.2.Jobs) fun (t : (List SJob) ⊕ Empty) => match t with | .inl f3 => (some f3) | .inr r => r.elim) else (some g.2.Jobs)) = some (leftJ s c g.2.Jobs) := by
          unfold leftJ
          cases hsv : s.Clock.Valid
          · rfl
          · have hjb := hg.jobs
            have := q375 (dst s.Clock.Angle c.Angle) (by unfold dst; omega) g.2.Jobs [] (fun j hj => (hg.live.rows.job j hj).left)
            simp only [cond_true]
            rw [dist_in (clk_ang hs hsv) hcb]
            simp only [Option.bind_some]
            rw [rangeN_steps _ (by omega)]
            rw [show ((([] : List SJob).length : Nat) : Int) = 0 from rfl, List.nil_append, List.nil_append] at this
            rw [this]
            rfl
        erw [hleft]
        simp only [Option.bind_some]
        cases hcut : g.2.Cut
        · simp only [Bool.not_false, cond_true, cond_false]
          have hl := q328 s c g.2.Jobs
          have hjb := hg.jobs
          have hb := q254 (s := mk g.2 c (leftJ s c g.2.Jobs)) (by show engP g.2.Engine; rw [hg.eng]; exact hs.eng) hc hv h1.2 (by show wishB g.2.Engine g.2.Next = true; rw [hg.eng, hg.next]; exact hs.wish) (by show g.2.Next.length ≤ 1000000; rw [hg.next]; exact hn) (by show (leftJ s c g.2.Jobs).length ≤ 1000; omega)
          have hb' : q147 (⟨(⟨g.2.Engine.Order, g.2.Engine.First⟩ : SEngine), c, (⟨g.2.Timer.Now, g.2.Timer.Channels⟩ : STimer), g.2.Next, leftJ s c g.2.Jobs, false⟩ : SScheduler) = some (mk g.2 c (newJ s c g.2)) := by
            have e : (⟨(⟨g.2.Engine.Order, g.2.Engine.First⟩ : SEngine), c, (⟨g.2.Timer.Now, g.2.Timer.Channels⟩ : STimer), g.2.Next, leftJ s c g.2.Jobs, false⟩ : SScheduler) = mk g.2 c (leftJ s c g.2.Jobs) := by unfold mk; rw [hcut]
            rw [e, hb]; rfl
          rw [hb']
          simp only [Option.bind_some]
          have hll := q450 hg hs hc hv hcut
          have ha := sarm_eq hll.rows (.inr hc) hll.now0 hll.now1 hll.n1 hll.n8 (by have := hll.most; omega)
          show (bif decide (((newJ s c g.2).length : Int) > 200) then _ else _) = _
          cases decide (((newJ s c g.2).length : Int) > 200)
          · simp only [cond_false]
            rw [ha]; rfl
          · rfl
        · simp only [Bool.not_true, cond_true, cond_false]
          unfold mk
          rw [hcut]
      · rfl
    · rfl
  · rfl
end Go.Pv.Sc
set_option linter.unusedSimpArgs false
namespace Go.Pv.Sc
open Go Go.Pv Go.Pv.Ev
theorem goE_len {n : Nat} {s : SScheduler} (h : Live n s) (to : Int) (h1 : s.Timer.Now ≤ to) : (goE to s).1.length ≤ 16000 := by
  have hm := h.most
  obtain ⟨_, _, _, _, _, _, r7, _⟩ := go_run to s.Jobs.length s [] h (Nat.le_refl _) (by simp; omega) h1
  unfold goE
  simp only [List.length_nil] at r7 ⊢
  omega
def z0 : SChannel := ⟨false, 0, false, false⟩
def k0 : SClock := ⟨false, 0, 0, 0, 0, 0⟩
def newS (e : SEngine) : SScheduler := ⟨e, k0, ⟨0, List.replicate (2 * e.Order.length) z0⟩, [], [], false⟩
theorem snew_eq (e : SEngine) : q120 e = some (bif decide (engP e) then (newS e, 0) else (zeroS, 1)) := by
  unfold q120
  rw [q288]
  cases hd : decide (engP e)
  · rfl
  · have he := of_decide_eq_true hd
    have h1 := he.1; have h2 := he.2.1
    simp only [Option.bind_some, Bool.not_true, cond_false]
    rw [w64_of (n := 2 * (e.Order.length : Int)) (by omega) (by omega), show 2 * (e.Order.length : Int) = ((2 * e.Order.length : Nat) : Int) by omega, Tm.new_eq _ (by omega) (by omega)]
    simp only [Option.bind_some]
    unfold q214 q352
    rw [appendM_ok _ _ (by simp; omega)]
    rfl
def wishS (s : SScheduler) (l : List SFire) : SScheduler := ⟨s.Engine, s.Clock, s.Timer, l, s.Jobs, s.Cut⟩
theorem q533 (s : SScheduler) (l : List SFire) (hn : s.Next.length ≤ 1000000) (hj : s.Jobs.length ≤ 1000000) (hl : l.length ≤ 1000000) : q99 s l = some (bif schB s && wishB s.Engine l then (wishS s l, 0) else (zeroS, 1)) := by
  unfold q99
  rw [q296 s hn hj]
  cases hd : schB s
  · rfl
  · have hs := q230.1 hd
    simp only [Option.bind_some, Bool.not_true, cond_false]
    rw [q427 _ _ hs.eng hl]
    cases wishB s.Engine l
    · rfl
    · simp only [Option.bind_some, Bool.not_true, cond_false]
      rw [q292 s hn hj]
      simp only [Option.bind_some]
      unfold q109
      rw [appendM_ok _ _ (by simp; omega)]
      rfl
def e1 : SEngine := ⟨[1], 0⟩
def f1 : SFire := ⟨1, 640, 2000, 0, 0, 0, 0⟩
def c1 : SClock := ⟨true, 1000, 5760, 1000, 384, 384⟩
def c2 : SClock := ⟨true, 2000, 44544, 1000, 384, 384⟩
def xa : SEvent := ⟨45440, 2, 1, 0⟩
def xb : SEvent := ⟨44672, 1, 1, 0⟩
def s1 : SScheduler := wishS (newS e1) [f1]
theorem srt2 : srt [xa, xb] = [xb, xa] := by
  refine uniqE (srt_asc _) ?_ ((q443 _).trans (List.Perm.swap _ _ _))
  have : ltE xa xb = false := by decide
  first
    | exact List.Pairwise.cons (by intro y hy; simp at hy; subst hy; exact this) (List.Pairwise.cons (by simp) List.Pairwise.nil)
    | simp [Asc, this]
theorem plan1 : planV e1 [f1] 60000 = ([xb, xa], 0) := by
  have h : [f1].flatMap (evs e1 60000) = [xa, xb] := by rfl
  have g1 : decide (engP e1) = true := by decide +kernel
  have g2 : badF e1 [f1] = false := by decide +kernel
  have g3 : tickB 60000 = true := by decide +kernel
  have g4 : dupB [f1] = false := by decide +kernel
  have g5 : [f1].any (long 60000) = false := by decide +kernel
  unfold planV
  rw [g1, g2, g3, g4, g5, h, srt2]
  rfl
theorem win1 : winV e1 f1 5760 60000 = [xb, xa] := by
  unfold winV
  rw [plan1]
  have ho : ordW 5760 [xb, xa] = [xb, xa] := by rfl
  have ha : accB 5760 [xb, xa] = true := by decide +kernel
  show (bif accB 5760 (ordW 5760 [xb, xa]) then ordW 5760 [xb, xa] else []) = _
  rw [ho, ha]
  rfl
theorem tick1 : tickV c1 = 60000 ∧ tickV c2 = 60000 := by decide +kernel
theorem beg1 : beg e1 1 = 5760 := by decide +kernel
theorem add1 (k : SClock) : addV e1 k [f1] 60000 1 = bif decide (dst k.Angle 5760 ≥ k.Ahead) then [] else [shJ (dst k.Angle 5760) 5760 xb, shJ (dst k.Angle 5760) 5760 xa] := by
  unfold addV
  rw [beg1, show ([f1].filter fun f => f.Cylinder == 1) = [f1] from rfl]
  simp only [List.flatMap_cons, List.flatMap_nil, List.append_nil]
  unfold addF
  rw [show f1.Cylinder = 1 from rfl, beg1, win1]
  rfl
theorem newJ1 (s : SScheduler) (c : SClock) (g : SScheduler) (hE : g.Engine = e1) (hN : g.Next = [f1]) (ht : tickV c = 60000) : newJ s c g = leftJ s c g.Jobs ++ (bif decide (dst c.Angle 5760 ≥ c.Ahead) then [] else [shJ (dst c.Angle 5760) 5760 xb, shJ (dst c.Angle 5760) 5760 xa]) := by
  unfold newJ
  rw [hE, hN, ht, ← add1]
  show _ ++ List.flatMap (addV e1 c [f1] 60000) [1] = _
  rw [List.flatMap_cons, List.flatMap_nil, List.append_nil]
def g1 : SScheduler := put s1 1000 (s1.Timer.Channels, [])
def s2 : SScheduler := armV (mk g1 c1 [shJ 0 5760 xb, shJ 0 5760 xa])
theorem go1 : goE 1000 s1 = ([], g1) := by rfl
theorem tooth1 : toothV s1 c1 = (s2, [], 0) := by
  have a1 : (!schB s1 || !clkB c1) = false := by decide +kernel
  have a2 : (!c1.Valid) = false := rfl
  have a3 : decide (c1.At < s1.Timer.Now) = false := by decide +kernel
  have a4 : newJ s1 c1 g1 = [shJ 0 5760 xb, shJ 0 5760 xa] := by
    rw [newJ1 s1 c1 g1 rfl rfl tick1.1]
    rfl
  unfold toothV
  rw [a1, a2, a3, show c1.At = 1000 from rfl, go1]
  simp only [cond_false]
  unfold toothG
  simp only
  rw [a4]
  rfl
def g2 : SScheduler := put s2 2000 (s2.Timer.Channels, s2.Jobs)
theorem go2 : goE 2000 s2 = ([], g2) := by rfl
def s3 : SScheduler := armV (mk g2 c2 [shiftJ 38784 (shJ 0 5760 xb), shiftJ 38784 (shJ 0 5760 xa)])
theorem tooth2 : toothV s2 c2 = (s3, [], 0) := by
  have a1 : (!schB s2 || !clkB c2) = false := by decide +kernel
  have a2 : (!c2.Valid) = false := rfl
  have a3 : decide (c2.At < s2.Timer.Now) = false := by decide +kernel
  have a4 : newJ s2 c2 g2 = [shiftJ 38784 (shJ 0 5760 xb), shiftJ 38784 (shJ 0 5760 xa)] := by
    rw [newJ1 s2 c2 g2 rfl rfl tick1.2]
    rfl
  unfold toothV
  rw [a1, a2, a3, show c2.At = 2000 from rfl, go2]
  simp only [cond_false]
  unfold toothG
  simp only
  rw [a4]
  rfl
theorem q541 : q111 = some true := by
  have n1 : q120 e1 = some (newS e1, 0) := by
    rw [snew_eq, show decide (engP e1) = true by decide +kernel]; rfl
  have w1 : q99 (newS e1) [f1] = some (s1, 0) := by
    rw [q533 _ _ (by decide) (by decide) (by decide), show (schB (newS e1) && wishB (newS e1).Engine [f1]) = true by decide +kernel]; rfl
  have t1 : q37 s1 c1 = some (s2, [], 0) := by
    rw [q354 _ _ (by decide) (by decide), tooth1]
  have t2 : q37 s2 c2 = some (s3, [], 0) := by
    rw [q354 _ _ (by decide +kernel) (by decide +kernel), tooth2]
  unfold q111 q229
  simp only [Option.bind_some]
  show Option.bind (q120 e1) _ = _
  rw [n1]
  simp only [Option.bind_some]
  show Option.bind (q99 (newS e1) [f1]) _ = _
  rw [w1]
  simp only [Option.bind_some]
  show Option.bind (q37 s1 c1) _ = _
  rw [t1]
  simp only [Option.bind_some]
  rw [show (((((0 : Int) != 0) || ((0 : Int) != 0)) || ((0 : Int) != 0)) || ((s2.Jobs.length : Int) != 2)) = false by decide +kernel]
  simp only [cond_false]
  show Option.bind (q37 s2 c2) _ = _
  rw [t2]
  simp only [Option.bind_some]
  rfl
end Go.Pv.Sc
set_option linter.unusedSimpArgs false
namespace Go.Pv.Sc
open Go Go.Pv Go.Pv.Ev
theorem q494 (l : List SChannel) (hl : l.length ≤ 1000000) (f : SChannel → Option Bool) (hf : ∀ x, f x = some x.Level) : q24 l f = some (l.any fun x => x.Level) := by
  unfold q24 q131 q165
  exact index_any l (by omega) f (fun x => x.Level) (fun y _ => hf y)
end Go.Pv.Sc
set_option linter.unusedSimpArgs false
namespace Go.Pv.Sc
open Go Go.Pv Go.Pv.Ev
theorem cut_row {n : Nat} {s : SScheduler} (h : Live n s) (hcut : s.Cut = true) {c : Nat} (hc : c < s.Timer.Channels.length) :
    (mine s.Jobs (c : Int) = [] ∧ s.Timer.Channels[c].Level = false ∧ s.Timer.Channels[c].Armed = false) ∨
    (∃ j, mine s.Jobs (c : Int) = [j] ∧ j.Event.Kind = 2 ∧ j.Armed = true ∧ s.Timer.Channels[c].Armed = true ∧ s.Timer.Channels[c].Level = true ∧ s.Timer.Channels[c].Next = false ∧ s.Timer.Channels[c].At = j.At ∧ j.At ≤ s.Timer.Now + 5000) := by
  have hr := h.rows.row c hc
  have hk := h.cut hcut c hc
  simp only at hr
  match hm : mine s.Jobs (c : Int) with
  | [] =>
    rw [hm] at hr
    simp only [rowB, Bool.and_eq_true, Bool.not_eq_true'] at hr
    exact .inl ⟨rfl, hr.1, hr.2⟩
  | [j] =>
    rw [hm] at hr hk
    simp only [cutB, Bool.and_eq_true, beq_iff_eq, decide_eq_true_eq] at hk
    simp only [rowB, Bool.and_eq_true, Bool.not_eq_true', Bool.or_eq_true, beq_iff_eq] at hr
    obtain ⟨⟨⟨h1, h2⟩, h3⟩, _⟩ := hr
    obtain ⟨⟨k1, k2⟩, k3⟩ := hk
    have hl : s.Timer.Channels[c].Level = true := by
      have ho : onK j.Event.Kind = false := by rw [k1]; rfl
      rw [ho] at h1
      cases hx : s.Timer.Channels[c].Level
      · rw [hx] at h1; simp at h1
      · rfl
    have h3' : j.At = s.Timer.Channels[c].At ∧ s.Timer.Channels[c].Next = !s.Timer.Channels[c].Level := by
      rcases h3 with h3 | h3
      · rw [k2] at h3; cases h3
      · exact h3
    exact .inr ⟨j, rfl, k1, k2, by rw [← h2]; exact k2, hl, by rw [h3'.2, hl]; rfl, h3'.1.symm, k3⟩
  | i :: j :: r => rw [hm] at hk; simp [cutB] at hk
theorem q434 {n : Nat} {s : SScheduler} (h : Live n s) (hcut : s.Cut = true) : ∀ x ∈ s.Timer.Channels, (x.Armed = true → x.Next = false ∧ x.Level = true) ∧ (x.Armed = false → x.Level = false) := by
  intro x hx
  obtain ⟨c, hc, rfl⟩ := List.mem_iff_getElem.1 hx
  rcases cut_row h hcut hc with ⟨_, a, b⟩ | ⟨j, _, _, _, b, d, e, _⟩
  · exact ⟨fun h2 => absurd (b.symm.trans h2) (by decide), fun _ => a⟩
  · exact ⟨fun _ => ⟨e, d⟩, fun h2 => absurd (b.symm.trans h2) (by decide)⟩
theorem q507 {n : Nat} {s : SScheduler} (h : Live n s) (hcut : s.Cut = true) (hn : ∀ x ∈ s.Timer.Channels, x.Armed = false) : s.Jobs = [] ∧ ∀ x ∈ s.Timer.Channels, x.Level = false := by
  refine ⟨?_, fun x hx => (q434 h hcut x hx).2 (hn x hx)⟩
  apply List.eq_nil_iff_forall_not_mem.2
  intro j hj
  have hr := q424 (h.rows.job j hj)
  have hlen := h.len
  have hc : (chn j.Event).toNat < s.Timer.Channels.length := by omega
  have hm : j ∈ mine s.Jobs ((chn j.Event).toNat : Int) := by
    unfold mine
    rw [List.mem_filter]
    exact ⟨hj, by simp; omega⟩
  rcases cut_row h hcut hc with ⟨a, _, _⟩ | ⟨k, _, _, _, b, _⟩
  · rw [a] at hm; simp at hm
  · rw [hn _ (List.getElem_mem hc)] at b; cases b
theorem sws_off (to : Int) : ∀ (l : List SChannel) (i : Nat), (∀ x ∈ l, x.Armed = true → x.Next = false) → ∀ w ∈ Tm.swsF to i l, w.Level = false
  | [], _, _, w, hw => by simp [Tm.swsF] at hw
  | c :: l, i, h, w, hw => by
    simp only [Tm.swsF, List.mem_append] at hw
    rcases hw with hw | hw
    · unfold Tm.swC at hw
      cases hd : Tm.due to c && !(c.Next == c.Level) <;> rw [hd] at hw
      · simp at hw
      · simp only [cond_true, List.mem_cons, List.not_mem_nil, or_false] at hw
        subst hw
        refine h c (List.mem_cons_self ..) ?_
        rw [Bool.and_eq_true] at hd
        have := hd.1
        unfold Tm.due at this
        cases hx : c.Armed
        · rw [hx] at this; simp at this
        · rfl
    · exact sws_off to l (i + 1) (fun x hx => h x (List.mem_cons_of_mem _ hx)) w hw
theorem q531 (to : Int) (l : List SChannel) (h : ∀ x ∈ l, x.Armed = true → x.Next = false) : ∀ w ∈ Tm.advS to l, w.Level = false := by
  intro w hw
  unfold Tm.advS at hw
  exact sws_off to l 0 h w ((List.mergeSort_perm _ _).mem_iff.1 hw)
theorem q446 (at_ : Int) {s : SScheduler} (hcut : s.Cut = true) : stepG at_ s = put s at_ (advU at_ (s.Timer.Channels, s.Jobs)) := by
  unfold stepG armV
  rw [show (put s at_ (advU at_ (s.Timer.Channels, s.Jobs))).Cut = true from hcut]
  rfl
theorem goV_cut (to B : Int) {n : Nat} : ∀ (f : Nat) (s : SScheduler) (out : List SSwitch), Live n s → s.Cut = true → (∀ w ∈ out, w.Level = false) → (∀ x ∈ s.Timer.Channels, x.Armed = true → x.At ≤ B) →
    (∀ w ∈ (goV to f (out, s)).1, w.Level = false) ∧ (∀ x ∈ (goV to f (out, s)).2.Timer.Channels, x.Armed = true → x.At ≤ B)
  | 0, s, out, _, _, ho, hb => ⟨ho, hb⟩
  | f + 1, s, out, h, hcut, ho, hb => by
    by_cases hy : (Tm.nxV s.Timer.Channels).2 = true ∧ (Tm.nxV s.Timer.Channels).1 ≤ to
    · have eg : goV to (f + 1) (out, s) = goV to f (out ++ Tm.advS (Tm.nxV s.Timer.Channels).1 s.Timer.Channels, stepG (Tm.nxV s.Timer.Channels).1 s) := by
        show (if _ then _ else _) = _
        rw [if_pos hy]
      rw [eg]
      refine goV_cut to B f _ _ (q429 h hy.1) (by rw [q446 _ hcut]; exact hcut) (fun w hw => ?_) (fun x hx ha => ?_)
      · rcases List.mem_append.1 hw with h2 | h2
        · exact ho w h2
        · exact q531 _ _ (fun x hx ha => ((q434 h hcut x hx).1 ha).1) w h2
      · rw [q446 _ hcut] at hx
        obtain ⟨y, hy2, rfl⟩ := List.mem_map.1 hx
        unfold Tm.advC at ha ⊢
        cases hd : Tm.due (Tm.nxV s.Timer.Channels).1 y <;> rw [hd] at ha
        · exact hb y hy2 ha
        · cases ha
    · have eg : goV to (f + 1) (out, s) = (out, s) := by
        show (if _ then _ else _) = _
        rw [if_neg hy]
      rw [eg]
      exact ⟨ho, hb⟩
theorem goE_cut {n : Nat} {s : SScheduler} (h : Live n s) (hcut : s.Cut = true) (to B : Int) (hb : ∀ x ∈ s.Timer.Channels, x.Armed = true → x.At ≤ B) : (∀ w ∈ (goE to s).1, w.Level = false) ∧ (∀ x ∈ (goE to s).2.Timer.Channels, x.Armed = true → x.At ≤ B) :=
  goV_cut to B s.Jobs.length s [] h hcut (by simp) hb
theorem q519 {n : Nat} {s : SScheduler} (h : Live n s) (hcut : s.Cut = true) (to : Int) (h1 : s.Timer.Now ≤ to) (h2 : to ≤ 1099511627776) (hb : ∀ x ∈ s.Timer.Channels, x.Armed = true → x.At ≤ to) :
    (∀ w ∈ (goE to s).1, w.Level = false) ∧ (goE to s).2.Jobs = [] ∧ ∀ x ∈ (goE to s).2.Timer.Channels, x.Level = false := by
  obtain ⟨_, g2, g3, _, _, g6⟩ := goOn_eq h to h1 h2
  obtain ⟨c1, c2⟩ := goE_cut h hcut to to hb
  have hn : ∀ x ∈ (goE to s).2.Timer.Channels, x.Armed = false := by
    intro x hx
    cases ha : x.Armed
    · rfl
    · have := c2 x hx ha
      have := g6 x hx ha
      omega
  have hd := q507 g2 (by rw [g3.cut]; exact hcut) hn
  exact ⟨c1, hd.1, hd.2⟩
end Go.Pv.Sc
set_option linter.unusedSimpArgs false
namespace Go.Pv.Sc
open Go Go.Pv Go.Pv.Ev
structure CutI (s : SScheduler) (n i : Nat) (u : List SSwitch × STimer × List SJob) : Prop where
  now : u.2.1.Now = s.Timer.Now
  len : u.2.1.Channels.length = 2 * n
  off : ∀ w ∈ u.1, w.Level = false
  few : u.1.length ≤ i ∧ u.2.2.length ≤ i
  rest : ∀ c, i ≤ c → u.2.1.Channels[c]? = s.Timer.Channels[c]?
  ch : ∀ x ∈ u.2.1.Channels, Tm.chB s.Timer.Now x = true
  job : ∀ j ∈ u.2.2, JobOk n j ∧ chn j.Event < (i : Int)
  row : ∀ c x, c < i → u.2.1.Channels[c]? = some x → rowB (mine u.2.2 (c : Int)) x = true ∧ cutB s.Timer.Now (mine u.2.2 (c : Int)) = true ∧ (c % 2 = 1 → x.Level = false)
theorem q449 {s : SScheduler} {n i : Nat} {u : List SSwitch × STimer × List SJob} (hs : Live n s) (h : CutI s n i u) : Tm.timB u.2.1 = true := by
  have h1 := hs.n1; have h2 := hs.n8; have h3 := hs.now0; have h4 := hs.now1
  have hl := h.len
  have hn := h.now
  have := timB_of (n := n) (now := s.Timer.Now) (u := (u.2.1.Channels, ([] : List SJob))) 
  unfold Tm.timB
  rw [Bool.and_eq_true, List.all_eq_true]
  have ht := hs.tim
  unfold Tm.timB at ht
  rw [Bool.and_eq_true] at ht
  refine ⟨?_, fun x hx => by rw [hn]; exact h.ch x hx⟩
  have e : Tm.headB u.2.1 = Tm.headB s.Timer := by
    unfold Tm.headB
    rw [hn, hl, ← hs.len]
  rw [e]; exact ht.1
theorem set_row {s : SScheduler} {n i : Nat} {u : List SSwitch × STimer × List SJob} (h : CutI s n i u) (hi : i < 2 * n) (out : List SSwitch) (y : SChannel) (more : List SJob)
    (ho : ∀ w ∈ out, w.Level = false) (ho1 : out.length ≤ 1) (hm1 : more.length ≤ 1) (hy : Tm.chB s.Timer.Now y = true) (hj : ∀ j ∈ more, JobOk n j ∧ chn j.Event = (i : Int)) (hr : rowB more y = true ∧ cutB s.Timer.Now more = true ∧ (i % 2 = 1 → y.Level = false)) :
    CutI s n (i + 1) (u.1 ++ out, ⟨s.Timer.Now, u.2.1.Channels.set i y⟩, u.2.2 ++ more) := by
  have hf := h.few
  have hl := h.len
  have hni : ∀ c : Nat, c < i → mine more (c : Int) = [] := fun c hc => q247 fun j hj2 => by have := (hj j hj2).2; omega
  have hmi : mine u.2.2 (i : Int) = [] := q247 fun j hj2 => by have := (h.job j hj2).2; omega
  have hmm : mine more (i : Int) = more := by
    unfold mine
    rw [List.filter_eq_self]
    intro j hj2
    simp [(hj j hj2).2]
  refine ⟨rfl, by simp [hl], fun w hw => ?_, ?_, fun c hc => ?_, fun x hx => ?_, fun j hj2 => ?_, fun c x hc hx => ?_⟩
  · rcases List.mem_append.1 hw with h2 | h2
    · exact h.off w h2
    · exact ho w h2
  · simp only [List.length_append]; omega
  · simp only
    rw [List.getElem?_set_ne (by omega)]
    exact h.rest c (by omega)
  · simp only at hx
    rcases List.mem_or_eq_of_mem_set hx with h2 | h2
    · exact h.ch x h2
    · rw [h2]; exact hy
  · rcases List.mem_append.1 hj2 with h2 | h2
    · have := h.job j h2; exact ⟨this.1, by omega⟩
    · have := hj j h2; exact ⟨this.1, by omega⟩
  · simp only at hx ⊢
    rw [q152]
    by_cases hci : c = i
    · subst hci
      rw [List.getElem?_set_self (by omega)] at hx
      have : y = x := Option.some.inj hx
      subst this
      rw [hmi, hmm]; exact hr
    · rw [List.getElem?_set_ne (by omega)] at hx
      rw [hni c (by omega), List.append_nil]
      exact h.row c x (by omega) hx
theorem chB_low (now : Int) (l : Bool) : Tm.chB now ⟨false, 0, false, l⟩ = true := by
  unfold Tm.chB; rfl
theorem q544 {s : SScheduler} {n : Nat} (hs : Live n s) (hm : s.Jobs.length ≤ 1000) (i : Nat) (hi : i < 2 * n) (u : List SSwitch × STimer × List SJob) (h : CutI s n i u) : ∃ u', q100 s (i : Int) u = some (.next u') ∧ CutI s n (i + 1) u' := by
  have hl := hs.len
  have hn8 := hs.n8
  have h0 := hs.now0
  have h1 := hs.now1
  have hi2 : i < s.Timer.Channels.length := by omega
  have hi3 : i < u.2.1.Channels.length := by rw [h.len]; exact hi
  have htb := q449 hs h
  have hxe : u.2.1.Channels[i] = s.Timer.Channels[i] := by
    have := h.rest i (Nat.le_refl _)
    rw [List.getElem?_eq_getElem hi2, List.getElem?_eq_getElem hi3] at this
    exact Option.some.inj this
  have hf := h.few
  have hrow := hs.rows.row i hi2
  simp only at hrow
  have hmd : ((i : Int).tmod 2 == 0) = (i % 2 == 0) := by
    rw [Int.tmod_eq_emod_of_nonneg (by omega), Bool.eq_iff_iff, beq_iff_eq, beq_iff_eq]; omega
  have hnow := h.now
  unfold q100
  rw [getI_get _ _ hi2]
  simp only [Option.bind_some, hmd]
  generalize hx : s.Timer.Channels[i] = x at hrow hxe
  have hcond : (bif x.Level then (some ((!(i % 2 == 0)) || (s.Timer.Now == 1099511627776))) else (some false)) = some (x.Level && ((!(i % 2 == 0)) || (s.Timer.Now == 1099511627776))) := by cases x.Level <;> rfl
  rw [hcond]
  simp only [Option.bind_some]
  cases hb : x.Level && ((!(i % 2 == 0)) || (s.Timer.Now == 1099511627776))
  · simp only [cond_false]
    rw [Tm.q436 u.2.1 (i : Int) i rfl hi3 htb]
    simp only [Option.bind_some]
    rw [hxe, hnow]
    cases hlv : x.Level
    · simp only [Bool.not_false, cond_true]
      refine ⟨_, rfl, ?_⟩
      have := set_row h hi [] ⟨false, 0, false, false⟩ [] (by simp) (by simp) (by simp) (chB_low _ _) (by simp) ⟨rfl, rfl, fun _ => rfl⟩
      rw [List.append_nil, List.append_nil] at this
      exact this
    · simp only [Bool.not_true, cond_false]
      rw [hlv, Bool.true_and, Bool.or_eq_false_iff] at hb
      have hev : i % 2 = 0 := by simpa using hb.1
      have hnm : s.Timer.Now ≠ 1099511627776 := by simpa using hb.2
      cases hsp : split (i : Int) s.Jobs with
      | none =>
        rw [q504 hsp] at hrow
        simp [rowB, hlv] at hrow
      | some t =>
        obtain ⟨a, j, b⟩ := t
        obtain ⟨ej, ec, _⟩ := q173 hsp
        have hjo := hs.rows.job j (by rw [ej]; simp)
        rw [q409 hsp] at hrow
        simp only [rowB, Bool.and_eq_true, Bool.not_eq_true', Bool.or_eq_true, beq_iff_eq] at hrow
        obtain ⟨⟨⟨r1, r2⟩, r3⟩, _⟩ := hrow
        have hk2 : j.Event.Kind = 2 := by
          have hk := hjo.kind
          have hce := q393 hjo
          rw [ec, Int.tmod_eq_emod_of_nonneg (by omega)] at hce
          have hno : ¬ (j.Event.Kind = 3 ∨ j.Event.Kind = 4) := by
            intro h3; rw [if_pos h3] at hce; omega
          rw [hlv] at r1
          have : onK j.Event.Kind = false := by
            cases ho : onK j.Event.Kind
            · rfl
            · rw [ho] at r1; simp at r1
          unfold onK at this
          simp only [Bool.or_eq_false_iff, beq_eq_false_iff_ne] at this
          omega
        have hfi : q21 s.Jobs (fun x0 => q189 x0 (i : Int)) = some (firstI (i : Int) s.Jobs) := q289 (i : Int) n hn8 s.Jobs (by omega) (fun y hy => hs.rows.job y hy)
        rw [hfi]
        have hfv : firstI (i : Int) s.Jobs = (a.length : Int) := by unfold firstI; rw [hsp]
        have hgm : getI s.Jobs (a.length : Int) = some j := by rw [ej]; exact get_mid a b j
        rw [hfv]
        simp only [Option.bind_some]
        rw [hgm]
        simp only [Option.bind_some]
        rw [w64_of (n := s.Timer.Now + 5000) (by omega) (by omega)]
        have hxa : j.Armed = true → s.Timer.Now < j.At ∧ j.At ≤ 1099511627776 := by
          intro hja
          have hxm : x ∈ s.Timer.Channels := by rw [← hx]; exact List.getElem_mem hi2
          have := Tm.q365 (hs.rows.ch x hxm) (by rw [← r2]; exact hja)
          rcases r3 with r3 | r3
          · rw [hja] at r3; cases r3
          · rw [r3.1]; exact this
        obtain ⟨at2, hat, ha1, ha2, ha3⟩ : ∃ at2, (bif ((!j.Armed) || (decide (j.At > s.Timer.Now + 5000))) then (some (minI (s.Timer.Now + 5000) 1099511627776)) else (some j.At)) = some at2 ∧ s.Timer.Now < at2 ∧ at2 ≤ 1099511627776 ∧ at2 ≤ s.Timer.Now + 5000 := by
          cases hc : (!j.Armed) || (decide (j.At > s.Timer.Now + 5000))
          · rw [Bool.or_eq_false_iff] at hc
            have hja : j.Armed = true := by simpa using hc.1
            have := hxa hja
            have h5 : ¬ j.At > s.Timer.Now + 5000 := of_decide_eq_false hc.2
            exact ⟨j.At, rfl, by omega, by omega, by omega⟩
          · refine ⟨_, rfl, ?_, ?_, ?_⟩ <;> unfold minI <;> split <;> omega
        rw [hat]
        simp only [Option.bind_some]
        have htb2 : Tm.timB ⟨s.Timer.Now, u.2.1.Channels.set i ⟨false, 0, false, true⟩⟩ = true := by
          unfold Tm.timB at htb ⊢
          simp only [Bool.and_eq_true, List.all_eq_true] at htb ⊢
          refine ⟨?_, fun y hy => ?_⟩
          · have e : Tm.headB ⟨s.Timer.Now, u.2.1.Channels.set i ⟨false, 0, false, true⟩⟩ = Tm.headB u.2.1 := by
              unfold Tm.headB
              simp only [List.length_set, hnow]
            rw [e]; exact htb.1
          · rcases List.mem_or_eq_of_mem_set hy with h2 | h2
            · exact h.ch y h2
            · rw [h2]; exact chB_low _ _
        rw [Tm.arm_eq _ (i : Int) at2 false i rfl (by simpa using hi3) htb2]
        have d1 : decide (at2 ≤ s.Timer.Now) = false := decide_eq_false (by omega)
        have d2 : decide (at2 > Tm.MAXT) = false := by unfold Tm.MAXT; exact decide_eq_false (by omega)
        simp only [d1, d2, cond_false, Option.bind_some]
        rw [appendM_ok _ _ (by simp only [List.length_cons, List.length_nil]; omega)]
        simp only [Option.bind_some, List.getElem_set_self, List.set_set]
        refine ⟨_, rfl, ?_⟩
        have := set_row h hi [] ⟨true, at2, false, true⟩ [⟨j.Event, j.Left, true, at2⟩] (by simp) (by simp) (by simp) (chB_set ha1 ha2)
          (fun k hk => by
            have : k = ⟨j.Event, j.Left, true, at2⟩ := by simpa using hk
            subst this
            exact ⟨⟨hjo.cyl, hjo.kind, hjo.angle, hjo.pulse, hjo.left, .inl rfl⟩, ec⟩)
          ⟨by simp [rowB, hlv, hk2, alt, onK], by simp [cutB, hk2, ha3], fun h3 => by omega⟩
        rw [List.append_nil] at this
        exact this
  · simp only [cond_true]
    rw [Bool.and_eq_true] at hb
    rw [Tm.q506 u.2.1 (i : Int) false i rfl hi3 htb]
    simp only [Option.bind_some]
    rw [appendM_ok _ _ (by cases (u.2.1.Channels[i].Level == false) <;> simp <;> omega)]
    simp only [Option.bind_some]
    refine ⟨_, rfl, ?_⟩
    rw [hnow]
    have := set_row h hi (bif u.2.1.Channels[i].Level == false then [] else [⟨s.Timer.Now, (i : Int), false⟩]) ⟨false, 0, false, false⟩ [] (fun w hw => by
      cases hc : u.2.1.Channels[i].Level == false <;> rw [hc] at hw
      · have : w = ⟨s.Timer.Now, (i : Int), false⟩ := by simpa using hw
        rw [this]
      · simp at hw) (by cases u.2.1.Channels[i].Level == false <;> simp) (by simp) (chB_low _ _) (by simp) ⟨rfl, rfl, fun _ => rfl⟩
    rw [List.append_nil] at this
    exact this
end Go.Pv.Sc
set_option linter.unusedSimpArgs false
namespace Go.Pv.Sc
open Go Go.Pv Go.Pv.Ev
theorem q508 {s : SScheduler} {n i : Nat} {u u' : List SSwitch × STimer × List SJob} (hs : Live n s) (hj : s.Jobs = []) (h : CutI s n i u) (hu : u.2.2 = []) (hi : i < 2 * n) (e : q100 s (i : Int) u = some (.next u')) : ∀ j, j ∉ u'.2.2 := by
  have hi2 : i < s.Timer.Channels.length := by have := hs.len; omega
  have hi3 : i < u.2.1.Channels.length := by rw [h.len]; exact hi
  have hrow := hs.rows.row i hi2
  simp only at hrow
  rw [hj] at hrow
  have hlv : s.Timer.Channels[i].Level = false := by
    simp only [mine, List.filter_nil, rowB, Bool.and_eq_true, Bool.not_eq_true'] at hrow
    exact hrow.1
  unfold q100 at e
  rw [getI_get _ _ hi2] at e
  simp only [Option.bind_some, hlv, cond_false] at e
  rw [Tm.q436 u.2.1 (i : Int) i rfl hi3 (q449 hs h)] at e
  simp only [Option.bind_some, Bool.not_false, cond_true, Option.some.injEq, Fl.next.injEq] at e
  subst e
  simp [hu]
structure CutOk (s t : SScheduler) (out : List SSwitch) : Prop where
  ok : SchOk t
  cut : t.Cut = true
  now : t.Timer.Now = s.Timer.Now
  off : ∀ w ∈ out, w.Level = false
  few : out.length ≤ 100
  odd : ∀ c x, t.Timer.Channels[c]? = some x → c % 2 = 1 → x.Level = false
  soon : ∀ x ∈ t.Timer.Channels, x.Armed = true → x.At ≤ s.Timer.Now + 5000
  next : t.Next = s.Next
theorem soon_of {n : Nat} {t : SScheduler} (h : Live n t) (hcut : t.Cut = true) : ∀ x ∈ t.Timer.Channels, x.Armed = true → x.At ≤ t.Timer.Now + 5000 := by
  intro x hx ha
  obtain ⟨c, hc, rfl⟩ := List.mem_iff_getElem.1 hx
  rcases cut_row h hcut hc with ⟨_, _, b⟩ | ⟨j, _, _, _, _, _, _, e, f⟩
  · rw [ha] at b; cases b
  · omega
theorem odd_of {n : Nat} {t : SScheduler} (h : Live n t) (hcut : t.Cut = true) : ∀ c x, t.Timer.Channels[c]? = some x → c % 2 = 1 → x.Level = false := by
  intro c x hx ho
  obtain ⟨hc, rfl⟩ := List.getElem?_eq_some_iff.1 hx
  rcases cut_row h hcut hc with ⟨_, a, _⟩ | ⟨j, a, b, _⟩
  · exact a
  · exfalso
    have hm : j ∈ mine t.Jobs (c : Int) := by rw [a]; simp
    obtain ⟨hj, hce⟩ := q425 h.rows.job hm
    have := q393 hj
    rw [hce, Int.tmod_eq_emod_of_nonneg (by omega), if_neg (by omega)] at this
    omega
theorem q448 {s t : SScheduler} {out : List SSwitch} (hs : SchOk s) (h : Live s.Engine.Order.length t) (hcut : t.Cut = true) (he : t.Engine = s.Engine) (hk : t.Clock = s.Clock) (hnx : t.Next = s.Next) (hnow : t.Timer.Now = s.Timer.Now) (hoff : ∀ w ∈ out, w.Level = false) (hfew : out.length ≤ 100) (hm : t.Jobs.length ≤ 200) (hnone : s.Clock.Valid = false → t.Jobs = []) : CutOk s t out := by
  refine ⟨⟨by rw [he]; exact hs.eng, by rw [hk]; exact hs.clk, h.tim, by rw [he]; exact h.len, by rw [he, hnx]; exact hs.wish, hm, fun h2 => hnone (by rw [← hk]; exact h2), by rw [he]; exact h.rows.job, fun c hc => ?_⟩, hcut, hnow, hoff, hfew, odd_of h hcut, by rw [← hnow]; exact soon_of h hcut, hnx⟩
  have hr := h.rows.row c hc
  simp only at hr
  unfold lineB
  rw [hr, h.cut hcut c hc]
  simp
theorem scut_eq {s : SScheduler} (hs : SchOk s) (hn : s.Next.length ≤ 1000000) : ∃ t out, q225 s = some (t, out, 0) ∧ CutOk s t out := by
  have hl := Live.of hs
  have hm := hs.most
  have hlen := hl.len
  have hn8 := hl.n8
  have h0 := hl.now0
  have h1 := hl.now1
  unfold q225
  rw [q296 s hn (by omega), q230.2 hs]
  simp only [Option.bind_some, Bool.not_true, cond_false]
  rw [q292 s hn (by omega)]
  simp only [Option.bind_some]
  cases hcut : s.Cut
  · simp only [cond_false]
    obtain ⟨u, e, hu⟩ := rangeN_inv s.Timer.Channels.length (by omega) (q100 s) (fun i u => CutI s s.Engine.Order.length i u ∧ (s.Jobs = [] → u.2.2 = [])) ([], s.Timer, [])
      ⟨⟨rfl, hlen, by simp, by simp, fun _ _ => rfl, hl.rows.ch, by simp, fun c x hc => by omega⟩, fun _ => rfl⟩
      (fun i hi u hu => by
        obtain ⟨u', e1, e2⟩ := q544 hl (by omega) i (by omega) u hu.1
        refine ⟨u', e1, e2, fun hj => ?_⟩
        apply List.eq_nil_iff_forall_not_mem.2
        intro j hj2
        exact q508 hl hj hu.1 (hu.2 hj) (by omega) e1 j hj2)
    rw [e]
    refine ⟨_, _, rfl, ?_⟩
    have hf := hu.1.few
    have hnow := hu.1.now
    have hlu := hu.1.len
    have hlv : Live s.Engine.Order.length ⟨s.Engine, s.Clock, u.2.1, s.Next, u.2.2, true⟩ := by
      refine ⟨rfl, hl.n1, hl.n8, ⟨hlu, fun x hx => by show Tm.chB u.2.1.Now x = true; rw [hnow]; exact hu.1.ch x hx, fun j hj => (hu.1.job j hj).1, fun c hc => ?_⟩, fun _ c hc => ?_, by show 0 ≤ u.2.1.Now; omega, by show u.2.1.Now ≤ _; omega, ?_, by show u.2.2.length ≤ 1000; omega⟩
      · have hc2 : c < u.2.1.Channels.length := hc
        exact (hu.1.row c _ (by omega) (List.getElem?_eq_getElem hc2)).1
      · have hc2 : c < u.2.1.Channels.length := hc
        show cutB u.2.1.Now _ = true
        rw [hnow]
        exact (hu.1.row c _ (by omega) (List.getElem?_eq_getElem hc2)).2.1
      · rcases hl.clk with ⟨a, b⟩ | a
        · exact .inl ⟨a, hu.2 b⟩
        · exact .inr a
    exact q448 hs hlv rfl rfl rfl rfl hnow hu.1.off (by omega) (by show u.2.2.length ≤ 200; omega) (fun hv => hu.2 (hs.none hv))
  · simp only [cond_true]
    refine ⟨s, [], ?_, q448 hs hl hcut rfl rfl rfl rfl (by simp) (by simp) hm hs.none⟩
    cases s; rfl
end Go.Pv.Sc
set_option linter.unusedSimpArgs false
namespace Go.Pv.Sc
open Go Go.Pv Go.Pv.Ev
theorem sadv_eq {s : SScheduler} (hs : SchOk s) (hn : s.Next.length ≤ 1000000) (to : Int) (h1 : s.Timer.Now ≤ to) (h2 : to ≤ 1099511627776) : q124 s to = some ((goE to s).2, (goE to s).1, 0) := by
  have hm := hs.most
  unfold q124
  rw [q296 s hn (by omega), q230.2 hs]
  simp only [Option.bind_some, Bool.not_true, cond_false]
  rw [decide_eq_false (show ¬ to < s.Timer.Now by omega), decide_eq_false (show ¬ to > 1099511627776 by omega)]
  simp only [cond_false]
  rw [q292 s hn (by omega)]
  simp only [Option.bind_some]
  rw [(goOn_eq (.of hs) to h1 h2).1]
  rfl
theorem any_sw (l : List SSwitch) (hl : l.length ≤ 1000000) (h : ∀ w ∈ l, w.Level = false) : q33 l q28 = some false := by
  have e : q33 l q28 = some (l.any fun x => x.Level) := by
    unfold q33 q135 q171
    exact index_any l (by omega) q28 (fun x => x.Level) (fun y _ => rfl)
  have : (l.any fun x => x.Level) = false := by
    rw [List.any_eq_false]
    intro w hw
    simp [h w hw]
  rw [e, this]
theorem q461 {t : SScheduler} {out : List SSwitch} {now T : Int} (ht : SchOk t) (hcut : t.Cut = true) (hn : t.Next.length ≤ 1000000) (hT : t.Timer.Now ≤ T) (hT2 : T ≤ 1099511627776) (hb : ∀ x ∈ t.Timer.Channels, x.Armed = true → x.At ≤ T) (ho : ∀ w ∈ out, w.Level = false) (hol : out.length ≤ 20000) :
    (Option.bind (q124 t T) fun r4 => Option.bind (bif (r4.2.2 != 0) then (some true) else (some (((r4.1.Jobs.length : Int) != 0) && (decide (now ≤ 1099511627776))))) fun b3 => bif b3 then (some false) else (Option.bind (appendM out r4.2.1) fun l2 => Option.bind (q33 l2 q28) fun v5 => bif v5 then (some false) else (Option.bind (q24 r4.1.Timer.Channels q41) fun v6 => some (!v6)))) = some true := by
  have hl := Live.of ht
  rw [sadv_eq ht hn T hT hT2]
  simp only [Option.bind_some]
  obtain ⟨d1, d2, d3⟩ := q519 hl hcut T hT hT2 hb
  have hgl := goE_len hl T hT
  obtain ⟨_, g2, _⟩ := goOn_eq hl T hT hT2
  have hcl := g2.len
  have hn8 := g2.n8
  rw [d2]
  simp only [List.length_nil]
  rw [show (((0 : Int) != 0) = false) from rfl, show ((((0 : Nat) : Int) != 0) = false) from rfl]
  simp only [cond_false, Bool.false_and, Option.bind_some]
  rw [appendM_ok _ _ (by omega)]
  simp only [Option.bind_some]
  rw [any_sw _ (by rw [List.length_append]; omega) (fun w hw => by
    rcases List.mem_append.1 hw with h | h
    · exact ho w h
    · exact d1 w h)]
  simp only [Option.bind_some, cond_false]
  rw [q494 _ (by omega) q41 (fun _ => rfl)]
  have : ((goE T t).2.Timer.Channels.any fun x => x.Level) = false := by
    rw [List.any_eq_false]
    intro x hx
    simp [d3 x hx]
  rw [this]
  rfl
theorem q482 (r2 : SScheduler × List SSwitch × Int) (hl : r2.1.Timer.Channels.length ≤ 1000) (h : ∀ c x, r2.1.Timer.Channels[c]? = some x → c % 2 = 1 → x.Level = false) : rangeN (r2.1.Timer.Channels.length : Int) (q57 r2) () = some (.inl ()) := by
  obtain ⟨u, e, _⟩ := rangeN_inv r2.1.Timer.Channels.length (by omega) (q57 r2) (fun _ _ => True) () trivial (fun j hj u _ => by
    refine ⟨(), ?_, trivial⟩
    unfold q57
    rw [getI_get _ _ hj]
    simp only [Option.bind_some]
    rw [Int.tmod_eq_emod_of_nonneg (by omega)]
    cases hc : ((j : Int) % 2 == 1) && (r2.1.Timer.Channels[j]).Level
    · rfl
    · rw [Bool.and_eq_true, beq_iff_eq] at hc
      rw [h j _ (List.getElem?_eq_getElem hj) (by omega)] at hc
      cases hc.2)
  exact e
theorem q490 {t : SScheduler} {c : SClock} (ht : SchOk t) (hcut : t.Cut = true) (hc : clkB c = true) (hv : c.Valid = true) (hle : t.Timer.Now ≤ c.At) :
    toothV t c = (mk (goE c.At t).2 c (leftJ t c (goE c.At t).2.Jobs), (goE c.At t).1, 0) := by
  obtain ⟨_, hg⟩ := gone ht (clkOk hc hv) hle
  unfold toothV
  rw [q230.2 ht, hc, hv, decide_eq_false (show ¬ c.At < t.Timer.Now by omega)]
  simp only [Bool.not_true, Bool.or_self, cond_false]
  unfold toothG
  rw [hg.cut, hcut]
  rfl
theorem q528 {s t : SScheduler} {out : List SSwitch} (k : CutOk s t out) {T : Int} (hT : T = s.Timer.Now + 5000 ∨ s.Timer.Now + 5000 ≤ T ∨ T = 1099511627776) : ∀ x ∈ t.Timer.Channels, x.Armed = true → x.At ≤ T := by
  intro x hx ha
  have h1 := k.soon x hx ha
  have h2 := Tm.q365 ((Live.of k.ok).rows.ch x hx) ha
  omega
theorem safe_eq (s : SScheduler) (c : SClock) (wait : Int) : q72 s c wait = some true := by
  unfold q72
  rw [q541]
  simp only [Option.bind_some, Bool.not_true, cond_false]
  unfold q150
  simp only [Option.bind_some]
  cases hg : (((decide ((s.Jobs.length : Int) > 40)) || (decide ((s.Next.length : Int) > 20))) || (decide ((s.Timer.Channels.length : Int) > 40))) || (decide ((s.Engine.Order.length : Int) > 20))
  · simp only [Bool.or_eq_false_iff, decide_eq_false_iff_not] at hg
    simp only [cond_false]
    rw [q355 s (by omega) (by omega)]
    simp only [Option.bind_some]
    cases hs : schB s
    · rfl
    · have hso := q230.1 hs
      simp only [Bool.not_true, Bool.false_or]
      cases hw : decide (wait < 0) || decide (wait > 1048576)
      · simp only [Bool.or_eq_false_iff, decide_eq_false_iff_not] at hw
        simp only [cond_false]
        obtain ⟨t, out, e, k⟩ := scut_eq hso (by omega)
        have hl := Live.of k.ok
        have hlen := hl.len
        have hn8 := hl.n8
        have h0 := (Live.of hso).now0
        have h1 := (Live.of hso).now1
        have hfew := k.few
        have hnl : t.Next.length ≤ 20 := by rw [k.next]; omega
        rw [e]
        simp only [Option.bind_some]
        have hc : ((((0 : Int) != 0) || (!t.Cut)) || (t.Timer.Now != s.Timer.Now)) = false := by rw [k.cut, k.now]; simp
        rw [hc]
        simp only [cond_false]
        rw [q482 (t, out, 0) (by show t.Timer.Channels.length ≤ 1000; omega) k.odd]
        simp only [Option.bind_some]
        rw [clk_eq]
        simp only [Option.bind_some]
        have hmx : maxI 5000 wait = max 5000 wait := by unfold maxI; omega
        have hmn : minI (s.Timer.Now + max 5000 wait) 1099511627776 = min (s.Timer.Now + max 5000 wait) 1099511627776 := by unfold minI; omega
        rw [hmx, w64_of (n := s.Timer.Now + max 5000 wait) (by omega) (by omega), hmn, w64_of (n := s.Timer.Now + 5000) (by omega) (by omega)]
        generalize hT : min (s.Timer.Now + max 5000 wait) 1099511627776 = T
        have hT1 : s.Timer.Now ≤ T := by omega
        have hT2 : T ≤ 1099511627776 := by omega
        have hsoon := q528 k (T := T) (by omega)
        cases hb : ((clkB c && c.Valid) && (decide (c.At ≥ s.Timer.Now))) && (decide (c.At ≤ T))
        · simp only [cond_false, Option.bind_some]
          exact q461 (t := t) (out := out) (now := s.Timer.Now + 5000) (T := T) k.ok k.cut (by omega) (by rw [k.now]; omega) hT2 hsoon k.off (by omega)
        · simp only [Bool.and_eq_true, decide_eq_true_eq] at hb
          obtain ⟨⟨⟨b1, b2⟩, b3⟩, b4⟩ := hb
          have hle : t.Timer.Now ≤ c.At := by rw [k.now]; omega
          obtain ⟨_, g⟩ := gone k.ok (clkOk b1 b2) hle
          have gl := goE_len hl c.At hle
          obtain ⟨c1, c2⟩ := goE_cut hl k.cut c.At T hsoon
          have htv := q490 k.ok k.cut b1 b2 hle
          have hok := q510 (s := t) (c := c) (by rw [htv])
          rw [htv] at hok
          simp only [cond_true]
          show Option.bind (Option.bind (q37 t c) _) _ = _
          have hm := k.ok.most
          rw [q354 t c (by omega) (by omega), htv]
          simp only [Option.bind_some]
          rw [show (((0 : Int) != 0) = false) from rfl]
          simp only [cond_false]
          rw [appendM_ok _ _ (by omega)]
          simp only [Option.bind_some]
          refine q461 (t := mk (goE c.At t).2 c (leftJ t c (goE c.At t).2.Jobs)) (out := out ++ (goE c.At t).1) (now := s.Timer.Now + 5000) (T := T) hok (g.cut.trans k.cut) ?_ ?_ hT2 c2 ?_ ?_
          · show (goE c.At t).2.Next.length ≤ _; rw [g.next]; omega
          · show (goE c.At t).2.Timer.Now ≤ T; rw [g.now]; exact b4
          · intro w hw
            rcases List.mem_append.1 hw with h | h
            · exact k.off w h
            · exact c1 w h
          · rw [List.length_append]; omega
      · rfl
  · rfl
end Go.Pv.Sc
namespace Go.Pv
open Go
theorem q345 (x0 : SScheduler) (x1 : SClock) (x2 : Int) (g0 : wf_SScheduler x0) (g1 : wf_SClock x1) (g2 : (fun n => (Lit.int .i64 n).wf = true) x2)  : q72 x0 x1 x2 = some true :=
  have _ := g0
  have _ := g1
  have _ := g2
  Sc.safe_eq x0 x1 x2
end Go.Pv

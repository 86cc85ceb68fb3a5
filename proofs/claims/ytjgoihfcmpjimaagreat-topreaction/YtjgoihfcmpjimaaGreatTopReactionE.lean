/- This file joins: Part Xi: what library functions compute, plain. Types and models, printed by gen.py: plain Lean; nothing of the loaded program stands here. -/
import Derived.Test.YtjgoihfcmpjimaaGreatTopReactionD
import Derived.Lib.BitFns
set_option linter.unusedSimpArgs false
set_option linter.unusedVariables false
namespace Go.Pv
def bitAnd (k : IntKind) (x y : Int) : Int := k.wrap (BitVec.ofInt k.bits x &&& BitVec.ofInt k.bits y).toNat
def bitOr (k : IntKind) (x y : Int) : Int := k.wrap (BitVec.ofInt k.bits x ||| BitVec.ofInt k.bits y).toNat
def bitShl (k : IntKind) (x y : Int) : Int := k.wrap (x * 2 ^ (min y.toNat k.bits))
def bitShr (k : IntKind) (x y : Int) : Int := x.fdiv (2 ^ (min y.toNat k.bits))
/-- parts of rows: in bounds? -/
def chkM (lo hi : Int) (n : Nat) : Option Unit := if 0 ≤ lo ∧ lo ≤ hi ∧ hi ≤ n then some () else none
/-- A list with other elements from a place on. -/
def copyAt {α : Type} (l : List α) (lo : Nat) (r : List α) : List α := l.take lo ++ r ++ l.drop (lo + r.length)
abbrev copyVM {α : Type} (l : List α) (lo hi lo2 hi2 : Int) : List α := copyAt l lo.toNat (((l.drop lo2.toNat).take (hi2.toNat - lo2.toNat)).take (hi.toNat - lo.toNat))
abbrev clearVM {α : Type} (l : List α) (lo hi : Int) (z : α) : List α := copyAt l lo.toNat (List.replicate (hi.toNat - lo.toNat) z)
/-- shifts by what may be negative; math/bits -/
def shlM (k : IntKind) (x y : Int) : Option Int := if y < 0 then none else some (bitShl k x y)
def shrM (k : IntKind) (x y : Int) : Option Int := if y < 0 then none else some (bitShr k x y)
def len64M (x : Int) : Option Int := if 0 ≤ x ∧ x ≤ 18446744073709551615 then some (Lib.bitLen x.toNat : Int) else none
def mul64M (x y : Int) : Option (Int × Int) := if (0 ≤ x ∧ x ≤ 18446744073709551615) ∧ (0 ≤ y ∧ y ≤ 18446744073709551615) then some (x * y / 18446744073709551616, x * y % 18446744073709551616) else none
/-- int(uint(x) >> 1) -/
theorem half_eq {x : Int} (h0 : 0 ≤ x) (h1 : x ≤ 4611686018427387904) : w64 (bitShr .u64 (IntKind.u64.wrap (w64 x)) 1) = x / 2 := by
  rw [w64_of (n := x) (by omega) (by omega)]
  have e : IntKind.u64.wrap x = x := by
    unfold IntKind.wrap
    simp only [IntKind.bits, IntKind.signed]
    simp only [show (2 : Int) ^ 64 = 18446744073709551616 from rfl, Bool.false_and, Bool.false_eq_true, if_false]
    omega
  rw [e]
  have e2 : bitShr .u64 x 1 = x / 2 := by
    unfold bitShr
    show x.fdiv 2 = x / 2
    exact Int.fdiv_eq_ediv_of_nonneg x (by decide)
  rw [e2]
  exact w64_of (by omega) (by omega)
/-- slices.Sort at int: what l holds then. -/
noncomputable def sortIM (l : List Int) : Option (List Int) := if l.length < 4611686018427387904 then some (l.mergeSort fun x y => decide (x ≤ y)) else none
/-- A list without what equals the one ahead of it; p: the one ahead. -/
def compG (p : Int) : List Int → List Int
  | [] => []
  | y :: l => bif y == p then compG y l else y :: compG y l
def compL : List Int → List Int
  | [] => []
  | x :: l => x :: compG x l
/-- slices.Compact at int. -/
def compactM (l : List Int) : Option (List Int) := if l.length ≤ 9223372036854775807 then some (compL l) else none
theorem sortIM_ok {l : List Int} (h : l.length < 4611686018427387904) : sortIM l = some (l.mergeSort fun x y => decide (x ≤ y)) := by
  unfold sortIM; rw [if_pos h]
theorem compactM_ok {l : List Int} (h : l.length ≤ 9223372036854775807) : compactM l = some (compL l) := by
  unfold compactM; rw [if_pos h]
theorem compG_snoc (x : Int) : ∀ (l : List Int) (p : Int), compG p (l ++ [x]) = compG p l ++ (if x = l.getLastD p then [] else [x])
  | [], p => by
    show (bif x == p then [] else [x]) = [] ++ (if x = p then [] else [x])
    by_cases h : x = p
    · rw [if_pos h, show (x == p) = true by simpa using h]; rfl
    · rw [if_neg h, show (x == p) = false by simpa using h]; rfl
  | y :: l, p => by
    simp only [List.cons_append, compG, List.getLastD_cons]
    rw [compG_snoc x l y]
    cases y == p <;> rfl
theorem compL_snoc (x : Int) : ∀ (l : List Int) (h : l ≠ []), compL (l ++ [x]) = compL l ++ (if x = l.getLast h then [] else [x])
  | [], h => (h rfl).elim
  | y :: l, _ => by
    have e : (y :: l).getLast (List.cons_ne_nil y l) = l.getLastD y := by
      cases l with
      | nil => rfl
      | cons z l => rw [List.getLast_cons (List.cons_ne_nil z l)]; rfl
    simp only [List.cons_append, compL]
    rw [compG_snoc, e]
end Go.Pv
namespace Go.Pv
open Go
def enc_i16 (n : Int) : List Tree := [tK .i16 n]
def enc_u16 (n : Int) : List Tree := [tK .u16 n]
def enc_u8 (n : Int) : List Tree := [tK .u8 n]
@[ext] structure SMap where
  X : List Int
  Y : List Int
  Z : List (List Int)
def enc_SMap (x : SMap) : List Tree := [tS Pv.encI x.X, tS Pv.encI x.Y, tS (Pv.encS Pv.encI) x.Z]
abbrev A_SMap (x : SMap) : T := .agg [.t (tS Pv.encI x.X), .t (tS Pv.encI x.Y), .t (tS (Pv.encS Pv.encI) x.Z)]
@[ext] structure SCurve where
  X : List Int
  Y : List Int
def enc_SCurve (x : SCurve) : List Tree := [tS Pv.encI x.X, tS Pv.encI x.Y]
abbrev A_SCurve (x : SCurve) : T := .agg [.t (tS Pv.encI x.X), .t (tS Pv.encI x.Y)]
@[ext] structure SGain where
  P : Int
  I : Int
  Low : Int
  High : Int
def enc_SGain (x : SGain) : List Tree := [tI x.P, tI x.I, tI x.Low, tI x.High]
@[ext] structure STables where
  Air : SMap
  Spark : SMap
  Torque : SMap
  Wish : SMap
  AirTemp : SCurve
  Dwell : SCurve
  Dead : SCurve
  Efficiency : SCurve
  Idle : SGain
def enc_STables (x : STables) : List Tree := [tS Pv.encI x.Air.X, tS Pv.encI x.Air.Y, tS (Pv.encS Pv.encI) x.Air.Z, tS Pv.encI x.Spark.X, tS Pv.encI x.Spark.Y, tS (Pv.encS Pv.encI) x.Spark.Z, tS Pv.encI x.Torque.X, tS Pv.encI x.Torque.Y, tS (Pv.encS Pv.encI) x.Torque.Z, tS Pv.encI x.Wish.X, tS Pv.encI x.Wish.Y, tS (Pv.encS Pv.encI) x.Wish.Z, tS Pv.encI x.AirTemp.X, tS Pv.encI x.AirTemp.Y, tS Pv.encI x.Dwell.X, tS Pv.encI x.Dwell.Y, tS Pv.encI x.Dead.X, tS Pv.encI x.Dead.Y, tS Pv.encI x.Efficiency.X, tS Pv.encI x.Efficiency.Y, tI x.Idle.P, tI x.Idle.I, tI x.Idle.Low, tI x.Idle.High]
abbrev A_STables (x : STables) : T := .agg [.t (tS Pv.encI x.Air.X), .t (tS Pv.encI x.Air.Y), .t (tS (Pv.encS Pv.encI) x.Air.Z), .t (tS Pv.encI x.Spark.X), .t (tS Pv.encI x.Spark.Y), .t (tS (Pv.encS Pv.encI) x.Spark.Z), .t (tS Pv.encI x.Torque.X), .t (tS Pv.encI x.Torque.Y), .t (tS (Pv.encS Pv.encI) x.Torque.Z), .t (tS Pv.encI x.Wish.X), .t (tS Pv.encI x.Wish.Y), .t (tS (Pv.encS Pv.encI) x.Wish.Z), .t (tS Pv.encI x.AirTemp.X), .t (tS Pv.encI x.AirTemp.Y), .t (tS Pv.encI x.Dwell.X), .t (tS Pv.encI x.Dwell.Y), .t (tS Pv.encI x.Dead.X), .t (tS Pv.encI x.Dead.Y), .t (tS Pv.encI x.Efficiency.X), .t (tS Pv.encI x.Efficiency.Y), .t (tI x.Idle.P), .t (tI x.Idle.I), .t (tI x.Idle.Low), .t (tI x.Idle.High)]
abbrev B_STables (x : STables) : List T := [.t (tS Pv.encI x.Air.X), .t (tS Pv.encI x.Air.Y), .t (tS (Pv.encS Pv.encI) x.Air.Z), .t (tS Pv.encI x.Spark.X), .t (tS Pv.encI x.Spark.Y), .t (tS (Pv.encS Pv.encI) x.Spark.Z), .t (tS Pv.encI x.Torque.X), .t (tS Pv.encI x.Torque.Y), .t (tS (Pv.encS Pv.encI) x.Torque.Z), .t (tS Pv.encI x.Wish.X), .t (tS Pv.encI x.Wish.Y), .t (tS (Pv.encS Pv.encI) x.Wish.Z), .t (tS Pv.encI x.AirTemp.X), .t (tS Pv.encI x.AirTemp.Y), .t (tS Pv.encI x.Dwell.X), .t (tS Pv.encI x.Dwell.Y), .t (tS Pv.encI x.Dead.X), .t (tS Pv.encI x.Dead.Y), .t (tS Pv.encI x.Efficiency.X), .t (tS Pv.encI x.Efficiency.Y), .t (tI x.Idle.P), .t (tI x.Idle.I), .t (tI x.Idle.Low), .t (tI x.Idle.High)]
@[ext] structure Smagnetotop_ReactionStep where
  Pedal : Int
  Speed : Int
  Charge : Int
  Late : Int
  Fires : Int
  Limited : Bool
  Limit : Int
def enc_Smagnetotop_ReactionStep (x : Smagnetotop_ReactionStep) : List Tree := [tK .u16 x.Pedal, tK .u16 x.Speed, tK .u16 x.Charge, tK .u16 x.Late, tK .u8 x.Fires, tB x.Limited, tK .i16 x.Limit]
abbrev A_Smagnetotop_ReactionStep (x : Smagnetotop_ReactionStep) : T := .agg [.t (tK .u16 x.Pedal), .t (tK .u16 x.Speed), .t (tK .u16 x.Charge), .t (tK .u16 x.Late), .t (tK .u8 x.Fires), .t (tB x.Limited), .t (tK .i16 x.Limit)]
@[ext] structure SQuiz where
  Question : Int
  Asked : Int
  Errors : Int
  Open : Bool
  Off : Bool
abbrev A_SQuiz (x : SQuiz) : T := .agg [.t (tI x.Question), .t (tI x.Asked), .t (tI x.Errors), .t (tB x.Open), .t (tB x.Off)]
@[ext] structure SStage where
  Enabled : Bool
  Cause : Int
  Since : Int
def enc_SStage (x : SStage) : List Tree := [tB x.Enabled, tI x.Cause, tI x.Since]
abbrev A_SStage (x : SStage) : T := .agg [.t (tB x.Enabled), .t (tI x.Cause), .t (tI x.Since)]
@[ext] structure SGuard where
  Over : Int
  Calm : Int
  Off : Bool
abbrev A_SGuard (x : SGuard) : T := .agg [.t (tI x.Over), .t (tI x.Calm), .t (tB x.Off)]
@[ext] structure Smagnetotop_monitored where
  guard : SGuard
  quiz : SQuiz
  stage : SStage
  now : Int
abbrev B_Smagnetotop_monitored (x : Smagnetotop_monitored) : List T := [.t (tI x.guard.Over), .t (tI x.guard.Calm), .t (tB x.guard.Off), .t (tI x.quiz.Question), .t (tI x.quiz.Asked), .t (tI x.quiz.Errors), .t (tB x.quiz.Open), .t (tB x.quiz.Off), .t (tB x.stage.Enabled), .t (tI x.stage.Cause), .t (tI x.stage.Since), .t (tI x.now)]
@[ext] structure SSwitch where
  At : Int
  Channel : Int
  Level : Bool
def enc_SSwitch (x : SSwitch) : List Tree := [tI x.At, tI x.Channel, tB x.Level]
abbrev A_SSwitch (x : SSwitch) : T := .agg [.t (tI x.At), .t (tI x.Channel), .t (tB x.Level)]
@[ext] structure SGrant where
  Torque : Int
  Source : Int
abbrev A_SGrant (x : SGrant) : T := .agg [.t (tI x.Torque), .t (tI x.Source)]
@[ext] structure SRequest where
  Source : Int
  Kind : Int
  Torque : Int
  Priority : Int
def enc_SRequest (x : SRequest) : List Tree := [tI x.Source, tI x.Kind, tI x.Torque, tI x.Priority]
abbrev A_SRequest (x : SRequest) : T := .agg [.t (tI x.Source), .t (tI x.Kind), .t (tI x.Torque), .t (tI x.Priority)]
@[ext] structure SFire where
  Cylinder : Int
  Spark : Int
  Dwell : Int
  End : Int
  Inject : Int
  Gap : Int
  Extra : Int
def enc_SFire (x : SFire) : List Tree := [tI x.Cylinder, tI x.Spark, tI x.Dwell, tI x.End, tI x.Inject, tI x.Gap, tI x.Extra]
@[ext] structure Sarbiter_span where
  low : Int
  high : Int
  source : Int
abbrev A_Sarbiter_span (x : Sarbiter_span) : T := .agg [.t (tI x.low), .t (tI x.high), .t (tI x.source)]
/-- magneto/quiz.question -/
noncomputable def quiz_question (n2 : Int) : Option Bool :=
  some ((decide (n2 ≥ 1)) && (decide (n2 ≤ 65535)))
/-- magneto/quiz.New -/
noncomputable def quiz_New (seed : Int) : Option (SQuiz × Int) :=
  Option.bind (quiz_question seed) fun v => bif (!v) then (some ((⟨0, 0, 0, false, false⟩ : SQuiz), 2)) else (some ((⟨seed, 0, 0, false, false⟩ : SQuiz), 0))
/-- magneto/stage.New -/
noncomputable def stage_New : Option SStage :=
  some (⟨false, 1, 0⟩ : SStage)
/-- magneto/surface.element -/
noncomputable def surface_element (n2 : Int) : Option Bool :=
  some ((decide (n2 ≥ (-1073741824))) && (decide (n2 ≤ 1073741824)))
/-- magneto/surface.axis -/
noncomputable def surface_axis_b1 (l : List Int) (i : Int) (_ : Unit) : Option (Fl Unit Bool) :=
  Option.bind (getI l i) fun x => Option.bind (surface_element x) fun v => Option.bind (bif (!v) then (some true) else (Option.bind (bif (decide (i > 0)) then (Option.bind (getI l (w64 (i - 1))) fun x2 => some (decide (x ≤ x2))) else (some false)) fun b2 => some b2)) fun b3 => bif b3 then (some (.ret false)) else (some (.next ()))
noncomputable def surface_axis (l : List Int) : Option Bool :=
  bif ((decide ((l.length : Int) < 2)) || (decide ((l.length : Int) > 32))) then (some false) else (Option.bind (rangeN (l.length : Int) (surface_axis_b1 l) ()) fun (t : Unit ⊕ Bool) => match t with | .inl _ => (some true) | .inr r2 => some r2)
/-- slices.IndexFunc[[]int,int] -/
noncomputable def slices_IndexFunc_sint_b1 (s : List Int) (f2 : Int → Option Bool) (i : Int) (_ : Unit) : Option (Fl Unit Int) :=
  Option.bind (getI s i) fun x => Option.bind (f2 x) fun v => bif v then (some (.ret i)) else (some (.next ()))
noncomputable def slices_IndexFunc_sint (s : List Int) (f2 : Int → Option Bool) : Option Int :=
  Option.bind (rangeN (s.length : Int) (slices_IndexFunc_sint_b1 s f2) ()) fun (t : Unit ⊕ Int) => match t with | .inl _ => (some (-1)) | .inr r2 => some r2
/-- slices.ContainsFunc[[]int,int] -/
noncomputable def slices_ContainsFunc_sint (s : List Int) (f2 : Int → Option Bool) : Option Bool :=
  Option.bind (slices_IndexFunc_sint s f2) fun v => some (decide (v ≥ 0))
/-- magneto/surface.Valid$1 -/
noncomputable def surface_Valid_1 (z : Int) : Option Bool :=
  Option.bind (surface_element z) fun v => some (!v)
/-- magneto/surface.Valid -/
noncomputable def surface_Valid_b1 (m2 : SMap) (_ : Int) (x : List Int) (_ : Unit) : Option (Fl Unit Bool) :=
  Option.bind (bif ((x.length : Int) != (m2.Y.length : Int)) then (some true) else (Option.bind (slices_ContainsFunc_sint x surface_Valid_1) fun v3 => some v3)) fun b3 => bif b3 then (some (.ret false)) else (some (.next ()))
noncomputable def surface_Valid (m2 : SMap) : Option Bool :=
  Option.bind (surface_axis m2.X) fun v => Option.bind (bif (!v) then (some true) else (Option.bind (surface_axis m2.Y) fun v2 => some (!v2))) fun b2 => bif (b2 || ((m2.Z.length : Int) != (m2.X.length : Int))) then (some false) else (Option.bind (rangeM m2.Z (surface_Valid_b1 m2) ()) fun (t : Unit ⊕ Bool) => match t with | .inl _ => (some true) | .inr r2 => some r2)
/-- slices.IndexFunc[[]magneto/api.Request,magneto/api.Request] -/
noncomputable def slices_IndexFunc_sRequest_b1 (s : List SRequest) (f2 : SRequest → Option Bool) (i : Int) (_ : Unit) : Option (Fl Unit Int) :=
  Option.bind (getI s i) fun x => Option.bind (f2 x) fun v => bif v then (some (.ret i)) else (some (.next ()))
noncomputable def slices_IndexFunc_sRequest (s : List SRequest) (f2 : SRequest → Option Bool) : Option Int :=
  Option.bind (rangeN (s.length : Int) (slices_IndexFunc_sRequest_b1 s f2) ()) fun (t : Unit ⊕ Int) => match t with | .inl _ => (some (-1)) | .inr r2 => some r2
/-- slices.ContainsFunc[[]magneto/api.Request,magneto/api.Request] -/
noncomputable def slices_ContainsFunc_sRequest (s : List SRequest) (f2 : SRequest → Option Bool) : Option Bool :=
  Option.bind (slices_IndexFunc_sRequest s f2) fun v => some (decide (v ≥ 0))
/-- magneto/arbiter.torque -/
noncomputable def arbiter_torque (t2 : Int) : Option Bool :=
  some ((decide (t2 ≥ (-5000))) && (decide (t2 ≤ 10000)))
/-- magneto/arbiter.Valid -/
noncomputable def arbiter_Valid (r2 : SRequest) : Option Bool :=
  Option.bind (bif ((((decide (r2.Source < 0)) || (decide (r2.Source > 15))) || (decide (r2.Priority < 0))) || (decide (r2.Priority > 15))) then (some true) else (Option.bind (arbiter_torque r2.Torque) fun v => some (!v))) fun b2 => bif b2 then (some false) else (Option.bind (bif (r2.Kind == 1) then (some true) else (Option.bind (bif (decide (r2.Source ≤ 1)) then (some ((r2.Kind == 2) || (r2.Kind == 3))) else (some false)) fun b3 => some b3)) fun b4 => some b4)
/-- magneto/monitor.Permitted$1 -/
noncomputable def monitor_Permitted_1 (r2 : SRequest) : Option Bool :=
  Option.bind (arbiter_Valid r2) fun v => some (!v)
/-- magneto/monitor.within -/
noncomputable def monitor_within (x : Int) (low : Int) (high : Int) : Option Bool :=
  some ((decide (x ≥ low)) && (decide (x ≤ high)))
/-- magneto/monitor.around -/
noncomputable def monitor_around_b1 (axis : List Int) (x : Int) (i : Int) (below : Int) : Option (Fl Int Empty) :=
  Option.bind (getI axis i) fun x2 => bif (decide (x2 ≤ x)) then (some (.next i)) else (some (.next below))
noncomputable def monitor_around_b2 (axis : List Int) (x : Int) (s : Int × Int) : Option ((Int × Int) ⊕ ((Int × Int) ⊕ Empty)) :=
  bif (decide (s.1 ≥ 0)) then (Option.bind (getI axis s.1) fun x3 => bif (decide (x3 ≥ x)) then (some (.inl (w64 (s.1 - 1), s.1))) else (some (.inl (w64 (s.1 - 1), s.2)))) else (some (.inr (.inl (s.1, s.2))))
noncomputable def monitor_around (axis : List Int) (x : Int) : Option (Int × Int) :=
  Option.bind (rangeN (axis.length : Int) (monitor_around_b1 axis x) 0) fun (t : Int ⊕ Empty) => match t with | .inl below2 => (Option.bind (loopM (monitor_around_b2 axis x) (w64 ((axis.length : Int) - 1), w64 ((axis.length : Int) - 1))) fun (t : (Int × Int) ⊕ Empty) => match t with | .inl s2 => (Option.bind (getI axis 0) fun x4 => bif (decide (x < x4)) then (some (below2, 0)) else (some (below2, s2.2))) | .inr r => r.elim) | .inr r => r.elim
/-- magneto/monitor.corner -/
noncomputable def monitor_corner (m2 : SMap) (x : Int) (y : Int) : Option Int :=
  Option.bind (monitor_around m2.X x) fun r2 => Option.bind (monitor_around m2.Y y) fun r3 => Option.bind (getI m2.Z r2.1) fun x2 => Option.bind (getI x2 r3.1) fun x3 => Option.bind (getI x2 r3.2) fun x4 => Option.bind (getI m2.Z r2.2) fun x5 => Option.bind (getI x5 r3.1) fun x6 => Option.bind (getI x5 r3.2) fun x7 => some (maxI (maxI (maxI x3 x4) x6) x7)
/-- magneto/monitor.raises -/
noncomputable def monitor_raises (r2 : SRequest) : Option Bool :=
  some ((r2.Kind == 2) || (r2.Kind == 3))
/-- magneto/monitor.Permitted -/
noncomputable def monitor_Permitted_b1 (_ : Int) (x : SRequest) (s : Int × Int) : Option (Fl (Int × Int) Empty) :=
  Option.bind (monitor_raises x) fun v6 => bif (!v6) then (some (.next (s.1, s.2))) else (bif (x.Source == 1) then (some (.next (maxI s.1 (minI x.Torque 1500), maxI s.2 x.Priority))) else (some (.next (s.1, maxI s.2 x.Priority))))
noncomputable def monitor_Permitted_b2 (s2 : Int × Int) (_ : Int) (x2 : SRequest) (limit : Int) : Option (Fl Int Empty) :=
  bif ((x2.Kind == 1) && (decide (x2.Priority > s2.2))) then (some (.next (minI limit x2.Torque))) else (some (.next limit))
noncomputable def monitor_Permitted (t2 : STables) (pedal : Int) (speed : Int) (l : List SRequest) : Option (Int × Int) :=
  Option.bind (surface_Valid t2.Wish) fun v => Option.bind (bif (!v) then (some true) else (Option.bind (slices_ContainsFunc_sRequest l monitor_Permitted_1) fun v2 => some v2)) fun b2 => bif b2 then (some (0, 1)) else (bif (decide ((l.length : Int) > 32)) then (some (0, 5)) else (Option.bind (monitor_within pedal 0 1000) fun v3 => Option.bind (bif (!v3) then (some true) else (Option.bind (monitor_within speed 0 12000) fun v4 => some (!v4))) fun b3 => bif b3 then (some (0, 2)) else (Option.bind (monitor_corner t2.Wish speed pedal) fun v5 => Option.bind (rangeM l (monitor_Permitted_b1) ((-5000), (-1))) fun (t : (Int × Int) ⊕ Empty) => match t with | .inl s2 => (Option.bind (rangeM l (monitor_Permitted_b2 s2) 10000) fun (t : Int ⊕ Empty) => match t with | .inl limit2 => (some (w64 ((maxI 0 (minI limit2 (maxI (minI (maxI v5 (-5000)) 10000) s2.1))) + 100), 0)) | .inr r => r.elim) | .inr r => r.elim)))
/-- magneto/monitor.Actual -/
noncomputable def monitor_Actual_b1 (_ : Int) (x : SFire) (n2 : Int) : Option (Fl Int Empty) :=
  bif (x.Inject != 0) then (some (.next (w64 (n2 + 1)))) else (some (.next n2))
noncomputable def monitor_Actual (t2 : STables) (speed : Int) (charge : Int) (l : List SFire) : Option (Int × Int) :=
  Option.bind (surface_Valid t2.Torque) fun v => bif (!v) then (some (0, 1)) else (bif (decide ((l.length : Int) > 8)) then (some (0, 5)) else (Option.bind (monitor_within speed 0 12000) fun v2 => Option.bind (bif (!v2) then (some true) else (Option.bind (monitor_within charge 0 1048576) fun v3 => some (!v3))) fun b2 => bif b2 then (some (0, 2)) else (bif ((l.length : Int) == 0) then (some (0, 0)) else (Option.bind (rangeM l (monitor_Actual_b1) 0) fun (t : Int ⊕ Empty) => match t with | .inl n3 => (Option.bind (monitor_corner t2.Torque speed charge) fun v4 => Option.bind (quoM .i64 (w64 ((w64 ((w64 ((minI (maxI v4 0) 10000) * n3)) + (l.length : Int))) - 1)) (l.length : Int)) fun q => some (q, 0)) | .inr r => r.elim))))
/-- magneto/torque.within -/
noncomputable def torque_within (x : Int) (low : Int) (high : Int) : Option Bool :=
  some ((decide (x ≥ low)) && (decide (x ≤ high)))
/-- magneto/curve.far -/
noncomputable def curve_far (n2 : Int) : Option Bool :=
  some ((decide (n2 < (-1073741824))) || (decide (n2 > 1073741824)))
/-- magneto/curve.axis -/
noncomputable def curve_axis_b1 (l : List Int) (i : Int) (_ : Unit) : Option (Fl Unit Bool) :=
  Option.bind (getI l i) fun x => Option.bind (getI l (w64 (i + 1))) fun x2 => bif (decide (x ≥ x2)) then (some (.ret false)) else (some (.next ()))
noncomputable def curve_axis (l : List Int) : Option Bool :=
  Option.bind (bif ((decide ((l.length : Int) < 2)) || (decide ((l.length : Int) > 32))) then (some true) else (Option.bind (slices_ContainsFunc_sint l curve_far) fun v => some v)) fun b2 => bif b2 then (some false) else (Option.bind (rangeN (w64 ((l.length : Int) - 1)) (curve_axis_b1 l) ()) fun (t : Unit ⊕ Bool) => match t with | .inl _ => (some true) | .inr r2 => some r2)
/-- magneto/curve.Valid -/
noncomputable def curve_Valid (c : SCurve) : Option Bool :=
  Option.bind (bif ((c.X.length : Int) == (c.Y.length : Int)) then (Option.bind (curve_axis c.X) fun v => some v) else (some false)) fun b2 => Option.bind (bif b2 then (Option.bind (slices_ContainsFunc_sint c.Y curve_far) fun v2 => some (!v2)) else (some false)) fun b3 => some b3
/-- magneto/torque.outside$1 -/
noncomputable def torque_outside_1 (x : Int) (c : Int) (c2 : Int) : Option Bool :=
  Option.bind (torque_within x c c2) fun v => some (!v)
/-- magneto/torque.outside -/
noncomputable def torque_outside (l : List Int) (low : Int) (high : Int) : Option Bool :=
  Option.bind (slices_ContainsFunc_sint l (fun x0 => torque_outside_1 x0 low high)) fun v => some v
/-- slices.IsSortedFunc[[]int,int] -/
noncomputable def slices_IsSortedFunc_sint_b1 (x : List Int) (cmp : Int → Int → Option Int) (i : Int) : Option (Int ⊕ (Int ⊕ Bool)) :=
  bif (decide (i > 0)) then (Option.bind (getI x i) fun x2 => Option.bind (getI x (w64 (i - 1))) fun x3 => Option.bind (cmp x2 x3) fun v => bif (decide (v < 0)) then (some (.inr (.inr false))) else (some (.inl (w64 (i - 1))))) else (some (.inr (.inl i)))
noncomputable def slices_IsSortedFunc_sint (x : List Int) (cmp : Int → Int → Option Int) : Option Bool :=
  Option.bind (loopM (slices_IsSortedFunc_sint_b1 x cmp) (w64 ((x.length : Int) - 1))) fun (t : Int ⊕ Bool) => match t with | .inl _ => (some true) | .inr r2 => some r2
/-- magneto/torque.Valid$1 -/
noncomputable def torque_Valid_1 (a : Int) (b2 : Int) : Option Int :=
  some (w64 (b2 - a))
/-- slices.IndexFunc[[][]int,[]int] -/
noncomputable def slices_IndexFunc_ssint_b1 (s : List (List Int)) (f2 : (List Int) → Option Bool) (i : Int) (_ : Unit) : Option (Fl Unit Int) :=
  Option.bind (getI s i) fun x => Option.bind (f2 x) fun v => bif v then (some (.ret i)) else (some (.next ()))
noncomputable def slices_IndexFunc_ssint (s : List (List Int)) (f2 : (List Int) → Option Bool) : Option Int :=
  Option.bind (rangeN (s.length : Int) (slices_IndexFunc_ssint_b1 s f2) ()) fun (t : Unit ⊕ Int) => match t with | .inl _ => (some (-1)) | .inr r2 => some r2
/-- slices.ContainsFunc[[][]int,[]int] -/
noncomputable def slices_ContainsFunc_ssint (s : List (List Int)) (f2 : (List Int) → Option Bool) : Option Bool :=
  Option.bind (slices_IndexFunc_ssint s f2) fun v => some (decide (v ≥ 0))
/-- cmp.isNaN[int] -/
noncomputable def cmp_isNaN_int (x : Int) : Option Bool :=
  some (x != x)
/-- cmp.Less[int] -/
noncomputable def cmp_Less_int (x : Int) (y : Int) : Option Bool :=
  Option.bind (cmp_isNaN_int x) fun v => Option.bind (bif v then (Option.bind (cmp_isNaN_int y) fun v2 => some (!v2)) else (some false)) fun b2 => some (b2 || (decide (x < y)))
/-- slices.IsSorted[[]int,int] -/
noncomputable def slices_IsSorted_sint_b1 (x : List Int) (i : Int) : Option (Int ⊕ (Int ⊕ Bool)) :=
  bif (decide (i > 0)) then (Option.bind (getI x i) fun x2 => Option.bind (getI x (w64 (i - 1))) fun x3 => Option.bind (cmp_Less_int x2 x3) fun v => bif v then (some (.inr (.inr false))) else (some (.inl (w64 (i - 1))))) else (some (.inr (.inl i)))
noncomputable def slices_IsSorted_sint (x : List Int) : Option Bool :=
  Option.bind (loopM (slices_IsSorted_sint_b1 x) (w64 ((x.length : Int) - 1))) fun (t : Int ⊕ Bool) => match t with | .inl _ => (some true) | .inr r2 => some r2
/-- magneto/torque.Valid$2 -/
noncomputable def torque_Valid_2 (row : List Int) : Option Bool :=
  Option.bind (torque_outside row 0 10000) fun v => Option.bind (bif v then (some true) else (Option.bind (slices_IsSorted_sint row) fun v2 => some (!v2))) fun b2 => some b2
/-- magneto/torque.Valid -/
noncomputable def torque_Valid (t2 : STables) : Option Bool :=
  Option.bind (surface_Valid t2.Torque) fun v => Option.bind (bif (!v) then (some true) else (Option.bind (curve_Valid t2.Efficiency) fun v2 => some (!v2))) fun b2 => Option.bind (bif b2 then (some true) else (Option.bind (torque_outside t2.Efficiency.Y 0 1000) fun v3 => some v3)) fun b3 => bif b3 then (some false) else (Option.bind (slices_IsSortedFunc_sint t2.Efficiency.Y torque_Valid_1) fun v4 => bif (!v4) then (some false) else (Option.bind (slices_ContainsFunc_ssint t2.Torque.Z torque_Valid_2) fun v5 => some (!v5)))
/-- magneto/arith.Clamp -/
noncomputable def arith_Clamp (x : Int) (low : Int) (high : Int) : Option Int :=
  some (minI (maxI x low) high)
/-- sort.Search -/
noncomputable def sort_Search_b1 (f2 : Int → Option Bool) (s : Int × Int) : Option ((Int × Int) ⊕ ((Int × Int) ⊕ Empty)) :=
  bif (decide (s.1 < s.2)) then (Option.bind (f2 (w64 (bitShr .u64 (IntKind.u64.wrap (w64 (s.1 + s.2))) 1))) fun v => bif (!v) then (some (.inl (w64 ((w64 (bitShr .u64 (IntKind.u64.wrap (w64 (s.1 + s.2))) 1)) + 1), s.2))) else (some (.inl (s.1, w64 (bitShr .u64 (IntKind.u64.wrap (w64 (s.1 + s.2))) 1))))) else (some (.inr (.inl (s.1, s.2))))
noncomputable def sort_Search (n2 : Int) (f2 : Int → Option Bool) : Option Int :=
  Option.bind (loopM (sort_Search_b1 f2) (0, n2)) fun (t : (Int × Int) ⊕ Empty) => match t with | .inl s2 => (some s2.1) | .inr r => r.elim
/-- magneto/surface.segment$1 -/
noncomputable def surface_segment_1 (i : Int) (c : List Int) (c2 : Int) : Option Bool :=
  Option.bind (getI c i) fun x => some (decide (x > c2))
/-- magneto/surface.segment -/
noncomputable def surface_segment (l : List Int) (x : Int) : Option (Int × Int) :=
  Option.bind (getI l 0) fun x2 => Option.bind (getI l (w64 ((l.length : Int) - 1))) fun x3 => Option.bind (arith_Clamp x x2 x3) fun v => Option.bind (sort_Search (l.length : Int) (fun x0 => surface_segment_1 x0 l v)) fun v2 => some (minI (w64 (v2 - 1)) (w64 ((l.length : Int) - 2)), v)
/-- math/bits.Mul64 -/
noncomputable def math_bits_Mul64 (x : Int) (y : Int) : Option (Int × Int) :=
  mul64M x y
/-- magneto/arith.magnitude -/
noncomputable def arith_magnitude (n2 : Int) : Option Int :=
  bif (decide (n2 < 0)) then (some (IntKind.u64.wrap ((IntKind.u64.wrap (w64 (0 - (w64 (n2 + 1))))) + 1))) else (some (IntKind.u64.wrap n2))
/-- math/bits.Len64 -/
noncomputable def math_bits_Len64 (x : Int) : Option Int :=
  len64M x
/-- math/bits.LeadingZeros64 -/
noncomputable def math_bits_LeadingZeros64 (x : Int) : Option Int :=
  Option.bind (math_bits_Len64 x) fun v => some (w64 (64 - v))
/-- math/bits.Div64 -/
noncomputable def math_bits_Div64_b1 (q3 : Int) (q6 : Int) (s3 : Int × Int) : Option ((Int × Int) ⊕ ((Int × Int) ⊕ Empty)) :=
  bif ((decide (s3.1 ≥ 4294967296)) || (decide ((IntKind.u64.wrap (s3.1 * (bitAnd .u64 q3 4294967295))) > (IntKind.u64.wrap ((IntKind.u64.wrap (4294967296 * s3.2)) + (bitShr .u64 q6 32)))))) then (bif (decide ((IntKind.u64.wrap (s3.2 + (bitShr .u64 q3 32))) ≥ 4294967296)) then (some (.inr (.inl (IntKind.u64.wrap (s3.1 - 1), IntKind.u64.wrap (s3.2 + (bitShr .u64 q3 32)))))) else (some (.inl (IntKind.u64.wrap (s3.1 - 1), IntKind.u64.wrap (s3.2 + (bitShr .u64 q3 32)))))) else (some (.inr (.inl (s3.1, s3.2))))
noncomputable def math_bits_Div64_b2 (q3 : Int) (q6 : Int) (s5 : Int × Int) : Option ((Int × Int) ⊕ ((Int × Int) ⊕ Empty)) :=
  bif ((decide (s5.2 ≥ 4294967296)) || (decide ((IntKind.u64.wrap (s5.2 * (bitAnd .u64 q3 4294967295))) > (IntKind.u64.wrap ((IntKind.u64.wrap (4294967296 * s5.1)) + (bitAnd .u64 q6 4294967295)))))) then (bif (decide ((IntKind.u64.wrap (s5.1 + (bitShr .u64 q3 32))) ≥ 4294967296)) then (some (.inr (.inl (IntKind.u64.wrap (s5.1 + (bitShr .u64 q3 32)), IntKind.u64.wrap (s5.2 - 1))))) else (some (.inl (IntKind.u64.wrap (s5.1 + (bitShr .u64 q3 32)), IntKind.u64.wrap (s5.2 - 1))))) else (some (.inr (.inl (s5.1, s5.2))))
noncomputable def math_bits_Div64 (hi : Int) (lo : Int) (y : Int) : Option (Int × Int) :=
  Option.bind (bif (y == 0) then none else (some ())) fun (_ : Unit) => Option.bind (bif (decide (y ≤ hi)) then none else (some ())) fun (_ : Unit) => bif (hi == 0) then (Option.bind (quoM .u64 lo y) fun q => Option.bind (remM lo y) fun q2 => some (q, q2)) else (Option.bind (math_bits_LeadingZeros64 y) fun v => Option.bind (shlM .u64 y (IntKind.u64.wrap v)) fun q3 => Option.bind (shlM .u64 hi (IntKind.u64.wrap v)) fun q4 => Option.bind (shrM .u64 lo (IntKind.u64.wrap (64 - (IntKind.u64.wrap v)))) fun q5 => Option.bind (shlM .u64 lo (IntKind.u64.wrap v)) fun q6 => Option.bind (quoM .u64 (bitOr .u64 q4 q5) (bitShr .u64 q3 32)) fun q7 => Option.bind (loopM (math_bits_Div64_b1 q3 q6) (q7, IntKind.u64.wrap ((bitOr .u64 q4 q5) - (IntKind.u64.wrap (q7 * (bitShr .u64 q3 32)))))) fun (t : (Int × Int) ⊕ Empty) => match t with | .inl s4 => (Option.bind (quoM .u64 (IntKind.u64.wrap ((IntKind.u64.wrap ((IntKind.u64.wrap ((bitOr .u64 q4 q5) * 4294967296)) + (bitShr .u64 q6 32))) - (IntKind.u64.wrap (s4.1 * q3)))) (bitShr .u64 q3 32)) fun q8 => Option.bind (loopM (math_bits_Div64_b2 q3 q6) (IntKind.u64.wrap ((IntKind.u64.wrap ((IntKind.u64.wrap ((IntKind.u64.wrap ((bitOr .u64 q4 q5) * 4294967296)) + (bitShr .u64 q6 32))) - (IntKind.u64.wrap (s4.1 * q3)))) - (IntKind.u64.wrap (q8 * (bitShr .u64 q3 32)))), q8)) fun (t : (Int × Int) ⊕ Empty) => match t with | .inl s6 => (Option.bind (shrM .u64 (IntKind.u64.wrap ((IntKind.u64.wrap ((IntKind.u64.wrap ((IntKind.u64.wrap ((IntKind.u64.wrap ((IntKind.u64.wrap ((bitOr .u64 q4 q5) * 4294967296)) + (bitShr .u64 q6 32))) - (IntKind.u64.wrap (s4.1 * q3)))) * 4294967296)) + (bitAnd .u64 q6 4294967295))) - (IntKind.u64.wrap (s6.2 * q3)))) (IntKind.u64.wrap v)) fun q9 => some (IntKind.u64.wrap ((IntKind.u64.wrap (s4.1 * 4294967296)) + s6.2), q9)) | .inr r => r.elim) | .inr r => r.elim)
/-- magneto/arith.rounded -/
noncomputable def arith_rounded (r2 : Int) (c : Int) (negative : Bool) (mode : Int) : Option Bool :=
  bif (mode == 1) then (some (negative && (decide (r2 > 0)))) else (bif (mode == 2) then (some ((!negative) && (decide (r2 > 0)))) else (bif negative then (some (decide (r2 > (IntKind.u64.wrap (c - r2))))) else (some (decide (r2 ≥ (IntKind.u64.wrap (c - r2)))))))
/-- magneto/arith.MulDiv -/
noncomputable def arith_MulDiv (a : Int) (b2 : Int) (c : Int) (mode : Int) : Option (Int × Int) :=
  bif ((decide (mode < 1)) || (decide (mode > 3))) then (some (0, 1)) else (bif (c == 0) then (some (0, 10)) else (Option.bind (arith_magnitude a) fun v => Option.bind (arith_magnitude b2) fun v2 => Option.bind (math_bits_Mul64 v v2) fun r2 => Option.bind (arith_magnitude c) fun v3 => bif (decide (r2.1 ≥ v3)) then (some (0, 9)) else (Option.bind (math_bits_Div64 r2.1 r2.2 v3) fun r3 => bif (decide (r3.1 > 9223372036854775808)) then (some (0, 9)) else (Option.bind (arith_rounded r3.2 v3 (!((!((decide (a < 0)) == (decide (b2 < 0)))) == (decide (c < 0)))) mode) fun v4 => Option.bind (bif v4 then (some (IntKind.u64.wrap (r3.1 + 1))) else (some r3.1)) fun (q : Int) => bif ((!((!((decide (a < 0)) == (decide (b2 < 0)))) == (decide (c < 0)))) && (decide (q ≤ 9223372036854775808))) then (some (w64 ((w64 (0 - (w64 (IntKind.u64.wrap (q - 1))))) - 1), 0)) else (bif ((!(!((!((decide (a < 0)) == (decide (b2 < 0)))) == (decide (c < 0))))) && (decide (q < 9223372036854775808))) then (some (w64 q, 0)) else (some (0, 9)))))))
/-- magneto/arith.Div -/
noncomputable def arith_Div (a : Int) (b2 : Int) (mode : Int) : Option (Int × Int) :=
  Option.bind (arith_MulDiv a 1 b2 mode) fun r2 => some (r2.1, r2.2)
/-- magneto/arith.Floor -/
noncomputable def arith_Floor (a : Int) (b2 : Int) : Option Int :=
  Option.bind (arith_Div a b2 1) fun r2 => some r2.1
/-- magneto/surface.between -/
noncomputable def surface_between (x0 : Int) (x1 : Int) (y0 : Int) (y1 : Int) (x : Int) : Option Int :=
  Option.bind (arith_Floor (w64 ((w64 (x - x0)) * (w64 (y1 - y0)))) (w64 (x1 - x0))) fun v => some (w64 (y0 + v))
/-- magneto/surface.at$1 -/
noncomputable def surface_at_1 (j : Int) (c : SMap) (c2 : Int) (c3 : Int) : Option Int :=
  Option.bind (getI c.X c2) fun x => Option.bind (getI c.X (w64 (c2 + 1))) fun x2 => Option.bind (getI c.Z c2) fun x3 => Option.bind (getI x3 j) fun x4 => Option.bind (getI c.Z (w64 (c2 + 1))) fun x5 => Option.bind (getI x5 j) fun x6 => Option.bind (surface_between x x2 x4 x6 c3) fun v => some v
/-- magneto/surface.at -/
noncomputable def surface_at (m2 : SMap) (x : Int) (y : Int) : Option Int :=
  Option.bind (surface_segment m2.X x) fun r2 => Option.bind (surface_segment m2.Y y) fun r3 => Option.bind (getI m2.Y r3.1) fun x2 => Option.bind (getI m2.Y (w64 (r3.1 + 1))) fun x3 => Option.bind (surface_at_1 r3.1 m2 r2.1 r2.2) fun v => Option.bind (surface_at_1 (w64 (r3.1 + 1)) m2 r2.1 r2.2) fun v2 => Option.bind (surface_between x2 x3 v v2 r3.2) fun v3 => some v3
/-- magneto/surface.At -/
noncomputable def surface_At (m2 : SMap) (x : Int) (y : Int) : Option Int :=
  Option.bind (surface_Valid m2) fun v => bif (!v) then (some 0) else (Option.bind (surface_at m2 x y) fun v2 => some v2)
/-- magneto/torque.Optimal -/
noncomputable def torque_Optimal (t2 : STables) (speed : Int) (charge : Int) : Option (Int × Int) :=
  Option.bind (torque_Valid t2) fun v => bif (!v) then (some (0, 1)) else (Option.bind (torque_within speed 0 12000) fun v2 => Option.bind (bif (!v2) then (some true) else (Option.bind (torque_within charge 0 1048576) fun v3 => some (!v3))) fun b2 => bif b2 then (some (0, 2)) else (Option.bind (surface_At t2.Torque speed charge) fun v4 => some (v4, 0)))
/-- magneto/curve.segment$1 -/
noncomputable def curve_segment_1 (i : Int) (c : SCurve) (c2 : Int) : Option Bool :=
  Option.bind (getI c.X i) fun x => some (decide (x > c2))
/-- magneto/curve.segment -/
noncomputable def curve_segment (c : SCurve) (x : Int) : Option Int :=
  Option.bind (sort_Search (c.X.length : Int) (fun x0 => curve_segment_1 x0 c x)) fun v => some (w64 (v - 1))
/-- magneto/curve.value -/
noncomputable def curve_value (c : SCurve) (x : Int) : Option Int :=
  Option.bind (getI c.X 0) fun x2 => bif (decide (x ≤ x2)) then (Option.bind (getI c.Y 0) fun x3 => some x3) else (Option.bind (getI c.X (w64 ((c.X.length : Int) - 1))) fun x4 => bif (decide (x ≥ x4)) then (Option.bind (getI c.Y (w64 ((c.X.length : Int) - 1))) fun x5 => some x5) else (Option.bind (curve_segment c x) fun v => Option.bind (getI c.Y v) fun x6 => Option.bind (getI c.X v) fun x7 => Option.bind (getI c.Y (w64 (v + 1))) fun x8 => Option.bind (getI c.X (w64 (v + 1))) fun x9 => Option.bind (arith_Floor (w64 ((w64 (x - x7)) * (w64 (x8 - x6)))) (w64 (x9 - x7))) fun v2 => some (w64 (x6 + v2))))
/-- magneto/curve.At -/
noncomputable def curve_At (c : SCurve) (x : Int) : Option Int :=
  Option.bind (curve_Valid c) fun v => bif (!v) then (some 0) else (Option.bind (curve_value c x) fun v2 => some v2)
/-- magneto/torque.torque -/
noncomputable def torque_torque (t2 : STables) (optimal : Int) (late : Int) (fired : Int) (cylinders : Int) : Option Int :=
  Option.bind (curve_At t2.Efficiency late) fun v => Option.bind (quoM .i64 (w64 ((w64 (optimal * v)) * fired)) (w64 (1000 * cylinders))) fun q => some q
/-- magneto/torque.Torque -/
noncomputable def torque_Torque (t2 : STables) (speed : Int) (charge : Int) (late : Int) (fired : Int) (cylinders : Int) : Option (Int × Int) :=
  Option.bind (torque_Optimal t2 speed charge) fun r2 => bif (r2.2 != 0) then (some (0, r2.2)) else (Option.bind (torque_within late 0 2560) fun v => Option.bind (bif (!v) then (some true) else (Option.bind (torque_within cylinders 1 8) fun v2 => some (!v2))) fun b2 => Option.bind (bif b2 then (some true) else (Option.bind (torque_within fired 0 cylinders) fun v3 => some (!v3))) fun b3 => bif b3 then (some (0, 2)) else (Option.bind (torque_torque t2 r2.1 late fired cylinders) fun v4 => some (v4, 0)))
/-- magneto/monitor.Step$1 -/
noncomputable def monitor_Step_1 (t2 : Int) : Option Bool :=
  Option.bind (monitor_within t2 (-20000) 20000) fun v => some v
/-- magneto/monitor.Valid -/
noncomputable def monitor_Valid (g : SGuard) : Option Bool :=
  Option.bind (monitor_within g.Over 0 5) fun v => Option.bind (bif v then (Option.bind (monitor_within g.Calm 0 1000) fun v2 => some v2) else (some false)) fun b2 => Option.bind (bif b2 then (some ((g.Over == 0) || (g.Calm == 0))) else (some false)) fun b3 => Option.bind (bif b3 then (some (g.Off || (decide (g.Over < 5)))) else (some false)) fun b4 => some b4
/-- magneto/monitor.Step -/
noncomputable def monitor_Step (g : SGuard) (permitted : Int) (actual : Int) : Option (SGuard × Int) :=
  Option.bind (monitor_Valid g) fun v => bif (!v) then (some ((⟨0, 0, false⟩ : SGuard), 1)) else (Option.bind (monitor_Step_1 permitted) fun v2 => Option.bind (bif (!v2) then (some true) else (Option.bind (monitor_Step_1 actual) fun v3 => some (!v3))) fun b2 => bif b2 then (some ((⟨0, 0, false⟩ : SGuard), 2)) else (bif (decide (actual > permitted)) then (some ((⟨minI 5 (w64 (g.Over + 1)), 0, (g.Off || ((minI 5 (w64 (g.Over + 1))) == 5))⟩ : SGuard), 0)) else (some ((⟨0, minI 1000 (w64 (g.Calm + 1)), g.Off⟩ : SGuard), 0))))
/-- magneto/stage.time -/
noncomputable def stage_time (t2 : Int) : Option Bool :=
  some ((decide (t2 ≥ 0)) && (decide (t2 ≤ 1099511627776)))
/-- magneto/stage.Valid -/
noncomputable def stage_Valid (s : SStage) : Option Bool :=
  Option.bind (bif (((decide (s.Cause ≥ 0)) && (decide (s.Cause ≤ 3))) && (s.Enabled == (s.Cause == 0))) then (Option.bind (stage_time s.Since) fun v => some v) else (some false)) fun b2 => some b2
/-- magneto/quiz.instant -/
noncomputable def quiz_instant (t2 : Int) : Option Bool :=
  some ((decide (t2 ≥ 0)) && (decide (t2 ≤ 1099511627776)))
/-- magneto/quiz.Valid -/
noncomputable def quiz_Valid (q : SQuiz) : Option Bool :=
  Option.bind (quiz_question q.Question) fun v => Option.bind (bif v then (Option.bind (quiz_instant q.Asked) fun v2 => some v2) else (some false)) fun b2 => Option.bind (bif b2 then (some (q.Open || (q.Asked == 0))) else (some false)) fun b3 => Option.bind (bif (((b3 && (decide (q.Errors ≥ 0))) && (decide (q.Errors ≤ 7))) && (q.Off == (q.Errors == 7))) then (some (!(q.Open && q.Off))) else (some false)) fun b4 => some b4
/-- magneto/stage.cause -/
noncomputable def stage_cause (key : Bool) (g : SGuard) (q : SQuiz) : Option Int :=
  bif (!key) then (some 1) else (bif g.Off then (some 2) else (bif q.Off then (some 3) else (some 0)))
/-- magneto/stage.Step -/
noncomputable def stage_Step (s : SStage) (key : Bool) (g : SGuard) (q : SQuiz) (now : Int) : Option (SStage × Int) :=
  Option.bind (stage_Valid s) fun v => Option.bind (bif (!v) then (some true) else (Option.bind (monitor_Valid g) fun v2 => some (!v2))) fun b2 => Option.bind (bif b2 then (some true) else (Option.bind (quiz_Valid q) fun v3 => some (!v3))) fun b3 => bif b3 then (some ((⟨false, 0, 0⟩ : SStage), 1)) else (Option.bind (stage_time now) fun v4 => bif (!v4) then (some ((⟨false, 0, 0⟩ : SStage), 2)) else (bif (decide (now < s.Since)) then (some ((⟨false, 0, 0⟩ : SStage), 16)) else (Option.bind (Option.bind (stage_cause key g q) fun v5 => some (v5, s.Since)) fun (s2 : Int × Int) => bif (!((s2.1 == 0) == s.Enabled)) then (some ((⟨(s2.1 == 0), s2.1, now⟩ : SStage), 0)) else (some ((⟨(s2.1 == 0), s2.1, s2.2⟩ : SStage), 0)))))
/-- (*magneto/magnetotop.monitored).step -/
noncomputable def magnetotop_monitored_step_b1 (s : Smagnetotop_ReactionStep) (i : Int) (s2 : Int × List SFire) : Option (Fl (Int × List SFire) Empty) :=
  Option.bind (getI s2.2 i) fun x => Option.bind (setM s2.2 i (⟨w64 (i + 1), x.Spark, x.Dwell, x.End, x.Inject, x.Gap, x.Extra⟩ : SFire)) fun l2 => Option.bind (shrM .u8 s.Fires i) fun q => bif ((bitAnd .u8 q 1) == 1) then (Option.bind (setM l2 i (⟨w64 (i + 1), x.Spark, x.Dwell, x.End, 2000, x.Gap, x.Extra⟩ : SFire)) fun l3 => some (.next (w64 (s2.1 + 1), l3))) else (some (.next (s2.1, l2)))
noncomputable def magnetotop_monitored_step (v : Smagnetotop_monitored) (t2 : STables) (s : Smagnetotop_ReactionStep) : Option (Int × Int × Int × Bool × Smagnetotop_monitored) :=
  Option.bind (bif s.Limited then (some ([(⟨4, 1, maxI (-5000) (minI 10000 (w64 s.Limit)), 9⟩ : SRequest)] : List SRequest)) else (some ([] : List SRequest))) fun (requests : List SRequest) => Option.bind (makeM 4 (⟨0, 0, 0, 0, 0, 0, 0⟩ : SFire)) fun l => Option.bind (rangeN (l.length : Int) (magnetotop_monitored_step_b1 s) (0, l)) fun (t : (Int × List SFire) ⊕ Empty) => match t with | .inl s3 => (Option.bind (monitor_Permitted t2 (Int.tmod (w64 s.Pedal) 1001) (Int.tmod (w64 s.Speed) 12001) requests) fun r2 => Option.bind (monitor_Actual t2 (Int.tmod (w64 s.Speed) 12001) (w64 (8 * (w64 s.Charge))) s3.2) fun r3 => Option.bind (torque_Torque t2 (Int.tmod (w64 s.Speed) 12001) (w64 (8 * (w64 s.Charge))) (Int.tmod (w64 s.Late) 2561) s3.1 4) fun r4 => bif (((r2.2 != 0) || (r3.2 != 0)) || (r4.2 != 0)) then (some (0, 0, 0, false, v)) else (Option.bind (monitor_Step v.guard r2.1 r3.1) fun r5 => Option.bind (Option.bind (stage_Step v.stage true r5.1 v.quiz (w64 (v.now + 10000))) fun r6 => some (r6.2, r6.1)) fun (s4 : Int × SStage) => bif (((r5.2 != 0) || (s4.1 != 0)) || (decide (r4.1 > r3.1))) then (some (0, 0, 0, false, (⟨v.guard, v.quiz, v.stage, w64 (v.now + 10000)⟩ : Smagnetotop_monitored))) else (Option.bind (some (r5.1, s4.2)) fun (s5 : SGuard × SStage) => Option.bind (bif s4.2.Enabled then (some r4.1) else (some 0)) fun (delivered : Int) => some (r2.1, r3.1, delivered, true, (⟨s5.1, v.quiz, s5.2, w64 (v.now + 10000)⟩ : Smagnetotop_monitored))))) | .inr r => r.elim
/-- magneto/stage.list -/
noncomputable def stage_list_b1 (_ : Int) (x : SSwitch) (last : Int) : Option (Fl Int Bool) :=
  Option.bind (stage_time x.At) fun v => bif ((((!v) || (decide (x.At < last))) || (decide (x.Channel < 0))) || (decide (x.Channel ≥ 16))) then (some (.ret false)) else (some (.next x.At))
noncomputable def stage_list (l : List SSwitch) : Option Bool :=
  bif (decide ((l.length : Int) > 1000)) then (some false) else (Option.bind (rangeM l (stage_list_b1) 0) fun (t : Int ⊕ Bool) => match t with | .inl _ => (some true) | .inr r2 => some r2)
/-- slices.IndexFunc[[]magneto/api.Switch,magneto/api.Switch] -/
noncomputable def slices_IndexFunc_sSwitch_b1 (s : List SSwitch) (f2 : SSwitch → Option Bool) (i : Int) (_ : Unit) : Option (Fl Unit Int) :=
  Option.bind (getI s i) fun x => Option.bind (f2 x) fun v => bif v then (some (.ret i)) else (some (.next ()))
noncomputable def slices_IndexFunc_sSwitch (s : List SSwitch) (f2 : SSwitch → Option Bool) : Option Int :=
  Option.bind (rangeN (s.length : Int) (slices_IndexFunc_sSwitch_b1 s f2) ()) fun (t : Unit ⊕ Int) => match t with | .inl _ => (some (-1)) | .inr r2 => some r2
/-- slices.DeleteFunc[[]magneto/api.Switch,magneto/api.Switch] -/
noncomputable def slices_DeleteFunc_sSwitch_b1 (del : SSwitch → Option Bool) (s2 : Int × Int × List SSwitch) : Option ((Int × Int × List SSwitch) ⊕ ((Int × Int × List SSwitch) ⊕ Empty)) :=
  bif (decide (s2.2.1 < (s2.2.2.length : Int))) then (Option.bind (getI s2.2.2 s2.2.1) fun x => Option.bind (del x) fun v2 => bif (!v2) then (Option.bind (getI s2.2.2 s2.1) fun _ => Option.bind (setM s2.2.2 s2.1 x) fun l => some (.inl (w64 (s2.1 + 1), w64 (s2.2.1 + 1), l))) else (some (.inl (s2.1, w64 (s2.2.1 + 1), s2.2.2)))) else (some (.inr (.inl (s2.1, s2.2.1, s2.2.2))))
noncomputable def slices_DeleteFunc_sSwitch (s : List SSwitch) (del : SSwitch → Option Bool) : Option (List SSwitch) :=
  Option.bind (slices_IndexFunc_sSwitch s del) fun v => bif (v == (-1)) then (some s) else (Option.bind (loopM (slices_DeleteFunc_sSwitch_b1 del) (v, w64 (v + 1), s)) fun (t : (Int × Int × List SSwitch) ⊕ Empty) => match t with | .inl s3 => (Option.bind (chkM s3.1 (s3.2.2.length : Int) s3.2.2.length) fun _ => Option.bind (sliceM (clearVM s3.2.2 s3.1 (s3.2.2.length : Int) (⟨0, 0, false⟩ : SSwitch)) 0 s3.1) fun l2 => some l2) | .inr r => r.elim)
/-- slices.Clone[[]magneto/api.Switch,magneto/api.Switch] -/
noncomputable def slices_Clone_sSwitch (s : List SSwitch) : Option (List SSwitch) :=
  Option.bind (appendM ([] : List SSwitch) s) fun l => some l
/-- magneto/stage.Pass$1 -/
noncomputable def stage_Pass_1 (x : SSwitch) (c : SStage) : Option Bool :=
  some (x.Level && (!c.Enabled))
/-- magneto/stage.Pass -/
noncomputable def stage_Pass (s : SStage) (l : List SSwitch) : Option (List SSwitch × Int) :=
  Option.bind (stage_Valid s) fun v => Option.bind (bif (!v) then (some true) else (Option.bind (stage_list l) fun v2 => some (!v2))) fun b2 => bif b2 then (some (([] : List SSwitch), 1)) else (Option.bind (slices_Clone_sSwitch l) fun v3 => Option.bind (slices_DeleteFunc_sSwitch v3 (fun x0 => stage_Pass_1 x0 s)) fun v4 => some (v4, 0))
/-- slices.Equal[[]magneto/api.Switch,magneto/api.Switch] -/
noncomputable def slices_Equal_sSwitch_b1 (s1 : List SSwitch) (s2 : List SSwitch) (i : Int) (_ : Unit) : Option (Fl Unit Bool) :=
  Option.bind (getI s1 i) fun x => Option.bind (getI s2 i) fun x2 => bif (!((x.At == x2.At) && ((x.Channel == x2.Channel) && ((x.Level == x2.Level) && true)))) then (some (.ret false)) else (some (.next ()))
noncomputable def slices_Equal_sSwitch (s1 : List SSwitch) (s2 : List SSwitch) : Option Bool :=
  bif ((s1.length : Int) != (s2.length : Int)) then (some false) else (Option.bind (rangeN (s1.length : Int) (slices_Equal_sSwitch_b1 s1 s2) ()) fun (t : Unit ⊕ Bool) => match t with | .inl _ => (some true) | .inr r2 => some r2)
/-- magneto/arbiter.given$1 -/
noncomputable def arbiter_given_1 (r2 : SRequest) : Option Bool :=
  Option.bind (arbiter_Valid r2) fun v => some (!v)
/-- magneto/arbiter.given -/
noncomputable def arbiter_given (l : List SRequest) (low : Int) (high : Int) : Option Int :=
  Option.bind (slices_ContainsFunc_sRequest l arbiter_given_1) fun v => bif v then (some 1) else (bif (decide ((l.length : Int) > 32)) then (some 5) else (Option.bind (arbiter_torque low) fun v2 => Option.bind (bif (!v2) then (some true) else (Option.bind (arbiter_torque high) fun v3 => some (!v3))) fun b2 => bif (b2 || (decide (low > high))) then (some 2) else (some 0)))
/-- slices.Clone[[]magneto/api.Request,magneto/api.Request] -/
noncomputable def slices_Clone_sRequest (s : List SRequest) : Option (List SRequest) :=
  Option.bind (appendM ([] : List SRequest) s) fun l => some l
/-- slices.insertionSortCmpFunc[magneto/api.Request] -/
noncomputable def slices_insertionSortCmpFunc_Request_b2 (a : Int) (cmp : SRequest → SRequest → Option Int) (s2 : Int × List SRequest) : Option ((Int × List SRequest) ⊕ ((Int × List SRequest) ⊕ Empty)) :=
  Option.bind (bif (decide (s2.1 > a)) then (Option.bind (getI s2.2 s2.1) fun x => Option.bind (getI s2.2 (w64 (s2.1 - 1))) fun x2 => Option.bind (cmp x x2) fun v => some (decide (v < 0))) else (some false)) fun (v2 : Bool) => bif v2 then (Option.bind (Option.bind (getI s2.2 (w64 (s2.1 - 1))) fun x3 => Option.bind (getI s2.2 s2.1) fun x4 => Option.bind (setM s2.2 s2.1 x3) fun l => Option.bind (getI l (w64 (s2.1 - 1))) fun _ => Option.bind (setM l (w64 (s2.1 - 1)) x4) fun l2 => some l2) fun (f2 : List SRequest) => some (.inl (w64 (s2.1 - 1), f2))) else (some (.inr (.inl (s2.1, s2.2))))
noncomputable def slices_insertionSortCmpFunc_Request_b1 (a : Int) (b2 : Int) (cmp : SRequest → SRequest → Option Int) (s : Int × List SRequest) : Option ((Int × List SRequest) ⊕ ((Int × List SRequest) ⊕ Empty)) :=
  bif (decide (s.1 < b2)) then (Option.bind (loopM (slices_insertionSortCmpFunc_Request_b2 a cmp) (s.1, s.2)) fun (t : (Int × List SRequest) ⊕ Empty) => match t with | .inl s3 => (some (.inl (w64 (s.1 + 1), s3.2))) | .inr r => r.elim) else (some (.inr (.inl (s.1, s.2))))
noncomputable def slices_insertionSortCmpFunc_Request (data : List SRequest) (a : Int) (b2 : Int) (cmp : SRequest → SRequest → Option Int) : Option (List SRequest) :=
  Option.bind (loopM (slices_insertionSortCmpFunc_Request_b1 a b2 cmp) (w64 (a + 1), data)) fun (t : (Int × List SRequest) ⊕ Empty) => match t with | .inl s4 => (some s4.2) | .inr r => r.elim
/-- slices.swapRangeCmpFunc[magneto/api.Request] -/
noncomputable def slices_swapRangeCmpFunc_Request_b1 (a : Int) (b2 : Int) (n2 : Int) (s : Int × List SRequest) : Option ((Int × List SRequest) ⊕ ((Int × List SRequest) ⊕ Empty)) :=
  bif (decide (s.1 < n2)) then (Option.bind (Option.bind (getI s.2 (w64 (b2 + s.1))) fun x => Option.bind (getI s.2 (w64 (a + s.1))) fun x2 => Option.bind (setM s.2 (w64 (a + s.1)) x) fun l => Option.bind (getI l (w64 (b2 + s.1))) fun _ => Option.bind (setM l (w64 (b2 + s.1)) x2) fun l2 => some l2) fun (f2 : List SRequest) => some (.inl (w64 (s.1 + 1), f2))) else (some (.inr (.inl (s.1, s.2))))
noncomputable def slices_swapRangeCmpFunc_Request (data : List SRequest) (a : Int) (b2 : Int) (n2 : Int) (_ : SRequest → SRequest → Option Int) : Option (List SRequest) :=
  Option.bind (loopM (slices_swapRangeCmpFunc_Request_b1 a b2 n2) (0, data)) fun (t : (Int × List SRequest) ⊕ Empty) => match t with | .inl s2 => (some s2.2) | .inr r => r.elim
/-- slices.rotateCmpFunc[magneto/api.Request] -/
noncomputable def slices_rotateCmpFunc_Request_b1 (m2 : Int) (cmp : SRequest → SRequest → Option Int) (s : Int × Int × List SRequest) : Option ((Int × Int × List SRequest) ⊕ ((Int × Int × List SRequest) ⊕ Empty)) :=
  bif (s.1 != s.2.1) then (bif (decide (s.1 > s.2.1)) then (Option.bind (slices_swapRangeCmpFunc_Request s.2.2 (w64 (m2 - s.1)) m2 s.2.1 cmp) fun v => some (.inl (w64 (s.1 - s.2.1), s.2.1, v))) else (Option.bind (slices_swapRangeCmpFunc_Request s.2.2 (w64 (m2 - s.1)) (w64 ((w64 (m2 + s.2.1)) - s.1)) s.1 cmp) fun v2 => some (.inl (s.1, w64 (s.2.1 - s.1), v2)))) else (some (.inr (.inl (s.1, s.2.1, s.2.2))))
noncomputable def slices_rotateCmpFunc_Request (data : List SRequest) (a : Int) (m2 : Int) (b2 : Int) (cmp : SRequest → SRequest → Option Int) : Option (List SRequest) :=
  Option.bind (loopM (slices_rotateCmpFunc_Request_b1 m2 cmp) (w64 (m2 - a), w64 (b2 - m2), data)) fun (t : (Int × Int × List SRequest) ⊕ Empty) => match t with | .inl s2 => (Option.bind (slices_swapRangeCmpFunc_Request s2.2.2 (w64 (m2 - s2.1)) m2 s2.1 cmp) fun v3 => some v3) | .inr r => r.elim
/-- slices.symMergeCmpFunc[magneto/api.Request] -/
noncomputable def slices_symMergeCmpFunc_Request_b1 (data : List SRequest) (a : Int) (cmp : SRequest → SRequest → Option Int) (s : Int × Int) : Option ((Int × Int) ⊕ ((Int × Int) ⊕ Empty)) :=
  bif (decide (s.1 < s.2)) then (Option.bind (getI data (w64 (bitShr .u64 (IntKind.u64.wrap (w64 (s.1 + s.2))) 1))) fun x => Option.bind (getI data a) fun x2 => Option.bind (cmp x x2) fun v => bif (decide (v < 0)) then (some (.inl (w64 ((w64 (bitShr .u64 (IntKind.u64.wrap (w64 (s.1 + s.2))) 1)) + 1), s.2))) else (some (.inl (s.1, w64 (bitShr .u64 (IntKind.u64.wrap (w64 (s.1 + s.2))) 1))))) else (some (.inr (.inl (s.1, s.2))))
noncomputable def slices_symMergeCmpFunc_Request_b2 (s2 : Int × Int) (s3 : Int × List SRequest) : Option ((Int × List SRequest) ⊕ ((Int × List SRequest) ⊕ Empty)) :=
  bif (decide (s3.1 < (w64 (s2.1 - 1)))) then (Option.bind (Option.bind (getI s3.2 (w64 (s3.1 + 1))) fun x3 => Option.bind (getI s3.2 s3.1) fun x4 => Option.bind (setM s3.2 s3.1 x3) fun l => Option.bind (getI l (w64 (s3.1 + 1))) fun _ => Option.bind (setM l (w64 (s3.1 + 1)) x4) fun l2 => some l2) fun (f2 : List SRequest) => some (.inl (w64 (s3.1 + 1), f2))) else (some (.inr (.inl (s3.1, s3.2))))
noncomputable def slices_symMergeCmpFunc_Request_b3 (data : List SRequest) (m2 : Int) (cmp : SRequest → SRequest → Option Int) (s5 : Int × Int) : Option ((Int × Int) ⊕ ((Int × Int) ⊕ Empty)) :=
  bif (decide (s5.1 < s5.2)) then (Option.bind (getI data m2) fun x6 => Option.bind (getI data (w64 (bitShr .u64 (IntKind.u64.wrap (w64 (s5.1 + s5.2))) 1))) fun x7 => Option.bind (cmp x6 x7) fun v2 => bif (!(decide (v2 < 0))) then (some (.inl (w64 ((w64 (bitShr .u64 (IntKind.u64.wrap (w64 (s5.1 + s5.2))) 1)) + 1), s5.2))) else (some (.inl (s5.1, w64 (bitShr .u64 (IntKind.u64.wrap (w64 (s5.1 + s5.2))) 1))))) else (some (.inr (.inl (s5.1, s5.2))))
noncomputable def slices_symMergeCmpFunc_Request_b4 (s6 : Int × Int) (s7 : Int × List SRequest) : Option ((Int × List SRequest) ⊕ ((Int × List SRequest) ⊕ Empty)) :=
  bif (decide (s7.1 > s6.1)) then (Option.bind (Option.bind (getI s7.2 (w64 (s7.1 - 1))) fun x8 => Option.bind (getI s7.2 s7.1) fun x9 => Option.bind (setM s7.2 s7.1 x8) fun l3 => Option.bind (getI l3 (w64 (s7.1 - 1))) fun _ => Option.bind (setM l3 (w64 (s7.1 - 1)) x9) fun l4 => some l4) fun (f3 : List SRequest) => some (.inl (w64 (s7.1 - 1), f3))) else (some (.inr (.inl (s7.1, s7.2))))
noncomputable def slices_symMergeCmpFunc_Request_b5 (data : List SRequest) (a : Int) (m2 : Int) (b2 : Int) (cmp : SRequest → SRequest → Option Int) (s10 : Int × Int) : Option ((Int × Int) ⊕ ((Int × Int) ⊕ Empty)) :=
  bif (decide (s10.1 < s10.2)) then (Option.bind (getI data (w64 ((w64 ((w64 ((w64 (bitShr .u64 (IntKind.u64.wrap (w64 (a + b2))) 1)) + m2)) - 1)) - (w64 (bitShr .u64 (IntKind.u64.wrap (w64 (s10.1 + s10.2))) 1))))) fun x11 => Option.bind (getI data (w64 (bitShr .u64 (IntKind.u64.wrap (w64 (s10.1 + s10.2))) 1))) fun x12 => Option.bind (cmp x11 x12) fun v3 => bif (!(decide (v3 < 0))) then (some (.inl (w64 ((w64 (bitShr .u64 (IntKind.u64.wrap (w64 (s10.1 + s10.2))) 1)) + 1), s10.2))) else (some (.inl (s10.1, w64 (bitShr .u64 (IntKind.u64.wrap (w64 (s10.1 + s10.2))) 1))))) else (some (.inr (.inl (s10.1, s10.2))))
noncomputable def slices_symMergeCmpFunc_Request_s (rc : List SRequest → Int → Int → Int → (SRequest → SRequest → Option Int) → Option (List SRequest)) (data : List SRequest) (a : Int) (m2 : Int) (b2 : Int) (cmp : SRequest → SRequest → Option Int) : Option (List SRequest) :=
  bif ((w64 (m2 - a)) == 1) then (Option.bind (loopM (slices_symMergeCmpFunc_Request_b1 data a cmp) (m2, b2)) fun (t : (Int × Int) ⊕ Empty) => match t with | .inl s2 => (Option.bind (loopM (slices_symMergeCmpFunc_Request_b2 s2) (a, data)) fun (t : (Int × List SRequest) ⊕ Empty) => match t with | .inl s4 => (some s4.2) | .inr r => r.elim) | .inr r => r.elim) else (bif ((w64 (b2 - m2)) == 1) then (Option.bind (loopM (slices_symMergeCmpFunc_Request_b3 data m2 cmp) (a, m2)) fun (t : (Int × Int) ⊕ Empty) => match t with | .inl s6 => (Option.bind (loopM (slices_symMergeCmpFunc_Request_b4 s6) (m2, data)) fun (t : (Int × List SRequest) ⊕ Empty) => match t with | .inl s8 => (some s8.2) | .inr r => r.elim) | .inr r => r.elim) else (Option.bind (bif (decide (m2 > (w64 (bitShr .u64 (IntKind.u64.wrap (w64 (a + b2))) 1)))) then (some (w64 ((w64 ((w64 (bitShr .u64 (IntKind.u64.wrap (w64 (a + b2))) 1)) + m2)) - b2), w64 (bitShr .u64 (IntKind.u64.wrap (w64 (a + b2))) 1))) else (some (a, m2))) fun (s9 : Int × Int) => Option.bind (loopM (slices_symMergeCmpFunc_Request_b5 data a m2 b2 cmp) (s9.1, s9.2)) fun (t : (Int × Int) ⊕ Empty) => match t with | .inl s11 => (Option.bind (bif ((decide (s11.1 < m2)) && (decide (m2 < (w64 ((w64 ((w64 (bitShr .u64 (IntKind.u64.wrap (w64 (a + b2))) 1)) + m2)) - s11.1))))) then (Option.bind (slices_rotateCmpFunc_Request data s11.1 m2 (w64 ((w64 ((w64 (bitShr .u64 (IntKind.u64.wrap (w64 (a + b2))) 1)) + m2)) - s11.1)) cmp) fun v4 => some v4) else (some data)) fun (f4 : List SRequest) => Option.bind (bif ((decide (a < s11.1)) && (decide (s11.1 < (w64 (bitShr .u64 (IntKind.u64.wrap (w64 (a + b2))) 1))))) then (Option.bind (rc f4 a s11.1 (w64 (bitShr .u64 (IntKind.u64.wrap (w64 (a + b2))) 1)) cmp) fun v5 => some v5) else (some f4)) fun (f5 : List SRequest) => bif ((decide ((w64 (bitShr .u64 (IntKind.u64.wrap (w64 (a + b2))) 1)) < (w64 ((w64 ((w64 (bitShr .u64 (IntKind.u64.wrap (w64 (a + b2))) 1)) + m2)) - s11.1)))) && (decide ((w64 ((w64 ((w64 (bitShr .u64 (IntKind.u64.wrap (w64 (a + b2))) 1)) + m2)) - s11.1)) < b2))) then (Option.bind (rc f5 (w64 (bitShr .u64 (IntKind.u64.wrap (w64 (a + b2))) 1)) (w64 ((w64 ((w64 (bitShr .u64 (IntKind.u64.wrap (w64 (a + b2))) 1)) + m2)) - s11.1)) b2 cmp) fun v6 => some v6) else (some f5)) | .inr r => r.elim))
noncomputable def slices_symMergeCmpFunc_Request : Nat → List SRequest → Int → Int → Int → (SRequest → SRequest → Option Int) → Option (List SRequest)
  | 0 => fun _ _ _ _ _ => none
  | fu + 1 => slices_symMergeCmpFunc_Request_s (slices_symMergeCmpFunc_Request fu)
/-- slices.stableCmpFunc[magneto/api.Request] -/
noncomputable def slices_stableCmpFunc_Request_b1 (n2 : Int) (cmp : SRequest → SRequest → Option Int) (s : Int × Int × List SRequest) : Option ((Int × Int × List SRequest) ⊕ ((Int × Int × List SRequest) ⊕ Empty)) :=
  bif (decide (s.2.1 ≤ n2)) then (Option.bind (slices_insertionSortCmpFunc_Request s.2.2 s.1 s.2.1 cmp) fun v => some (.inl (s.2.1, w64 (s.2.1 + 20), v))) else (some (.inr (.inl (s.1, s.2.1, s.2.2))))
noncomputable def slices_stableCmpFunc_Request_b3 (n2 : Int) (cmp : SRequest → SRequest → Option Int) (s3 : Int × List SRequest) (s4 : Int × Int × List SRequest) : Option ((Int × Int × List SRequest) ⊕ ((Int × Int × List SRequest) ⊕ Empty)) :=
  bif (decide (s4.2.1 ≤ n2)) then (Option.bind (slices_symMergeCmpFunc_Request 64 s4.2.2 s4.1 (w64 (s4.1 + s3.1)) s4.2.1 cmp) fun v3 => some (.inl (s4.2.1, w64 (s4.2.1 + (w64 (2 * s3.1))), v3))) else (some (.inr (.inl (s4.1, s4.2.1, s4.2.2))))
noncomputable def slices_stableCmpFunc_Request_b2 (n2 : Int) (cmp : SRequest → SRequest → Option Int) (s3 : Int × List SRequest) : Option ((Int × List SRequest) ⊕ ((Int × List SRequest) ⊕ Empty)) :=
  bif (decide (s3.1 < n2)) then (Option.bind (loopM (slices_stableCmpFunc_Request_b3 n2 cmp s3) (0, w64 (2 * s3.1), s3.2)) fun (t : (Int × Int × List SRequest) ⊕ Empty) => match t with | .inl s5 => (bif (decide ((w64 (s5.1 + s3.1)) < n2)) then (Option.bind (slices_symMergeCmpFunc_Request 64 s5.2.2 s5.1 (w64 (s5.1 + s3.1)) n2 cmp) fun v4 => some (.inl (w64 (s3.1 * 2), v4))) else (some (.inl (w64 (s3.1 * 2), s5.2.2)))) | .inr r => r.elim) else (some (.inr (.inl (s3.1, s3.2))))
noncomputable def slices_stableCmpFunc_Request (data : List SRequest) (n2 : Int) (cmp : SRequest → SRequest → Option Int) : Option (List SRequest) :=
  Option.bind (loopM (slices_stableCmpFunc_Request_b1 n2 cmp) (0, 20, data)) fun (t : (Int × Int × List SRequest) ⊕ Empty) => match t with | .inl s2 => (Option.bind (slices_insertionSortCmpFunc_Request s2.2.2 s2.1 n2 cmp) fun v2 => Option.bind (loopM (slices_stableCmpFunc_Request_b2 n2 cmp) (20, v2)) fun (t : (Int × List SRequest) ⊕ Empty) => match t with | .inl s6 => (some s6.2) | .inr r => r.elim) | .inr r => r.elim
/-- slices.SortStableFunc[[]magneto/api.Request,magneto/api.Request] -/
noncomputable def slices_SortStableFunc_sRequest (x : List SRequest) (cmp : SRequest → SRequest → Option Int) : Option (List SRequest) :=
  Option.bind (slices_stableCmpFunc_Request x (x.length : Int) cmp) fun v => some v
/-- magneto/arbiter.decide$1 -/
noncomputable def arbiter_decide_1 (a : SRequest) (b2 : SRequest) : Option Int :=
  some (w64 (b2.Priority - a.Priority))
/-- (*magneto/arbiter.span).atMost -/
noncomputable def arbiter_span_atMost (s : Sarbiter_span) (t2 : Int) : Option Sarbiter_span :=
  some (⟨s.low, maxI s.low (minI s.high t2), s.source⟩ : Sarbiter_span)
/-- (*magneto/arbiter.span).atLeast -/
noncomputable def arbiter_span_atLeast (s : Sarbiter_span) (t2 : Int) : Option Sarbiter_span :=
  some (⟨minI s.high (maxI s.low t2), s.high, s.source⟩ : Sarbiter_span)
/-- (*magneto/arbiter.span).exactly -/
noncomputable def arbiter_span_exactly (s : Sarbiter_span) (t2 : Int) : Option Sarbiter_span :=
  Option.bind (arith_Clamp t2 s.low s.high) fun v => some (⟨v, v, s.source⟩ : Sarbiter_span)
/-- (*magneto/arbiter.span).narrow -/
noncomputable def arbiter_span_narrow (s : Sarbiter_span) (r2 : SRequest) : Option (Bool × Sarbiter_span) :=
  Option.bind (bif (r2.Kind == 1) then (Option.bind (arbiter_span_atMost s r2.Torque) fun v => some v) else (bif (r2.Kind == 2) then (Option.bind (arbiter_span_atLeast s r2.Torque) fun v2 => some v2) else (bif (r2.Kind == 3) then (Option.bind (arbiter_span_exactly s r2.Torque) fun v3 => some v3) else (some s)))) fun (f2 : Sarbiter_span) => Option.bind (bif (f2.low != s.low) then (some r2.Source) else (some f2.source)) fun (f3 : Int) => bif (f2.low != s.low) then (some (true, (⟨f2.low, f2.high, f3⟩ : Sarbiter_span))) else (some ((f2.high != s.high), (⟨f2.low, f2.high, f3⟩ : Sarbiter_span)))
/-- slices.Sort[[]int,int] -/
noncomputable def slices_Sort_sint (s : List Int) : Option (List Int) :=
  sortIM s
/-- slices.Compact[[]int,int] -/
noncomputable def slices_Compact_sint (s : List Int) : Option (List Int) :=
  compactM s
/-- magneto/arbiter.decide -/
noncomputable def arbiter_decide_b1 (_ : Int) (x : SRequest) (s : List Int × Sarbiter_span) : Option (Fl (List Int × Sarbiter_span) Empty) :=
  Option.bind (arbiter_span_narrow s.2 x) fun r2 => bif r2.1 then (Option.bind (appendM s.1 ([x.Source] : List Int)) fun l2 => some (.next (l2, r2.2))) else (some (.next (s.1, r2.2)))
noncomputable def arbiter_decide (l : List SRequest) (low : Int) (high : Int) : Option (Sarbiter_span × List Int) :=
  Option.bind (slices_Clone_sRequest l) fun v => Option.bind (slices_SortStableFunc_sRequest v arbiter_decide_1) fun v2 => Option.bind (rangeM v2 (arbiter_decide_b1) (([] : List Int), (⟨low, high, (-1)⟩ : Sarbiter_span))) fun (t : (List Int × Sarbiter_span) ⊕ Empty) => match t with | .inl s2 => (Option.bind (slices_Sort_sint s2.1) fun v3 => Option.bind (Option.bind (slices_Compact_sint v3) fun v4 => some (v4, s2.2)) fun (s3 : List Int × Sarbiter_span) => some (s3.2, s3.1)) | .inr r => r.elim
/-- magneto/arbiter.Decide -/
noncomputable def arbiter_Decide (l : List SRequest) (low : Int) (high : Int) : Option (SGrant × Int) :=
  Option.bind (arbiter_given l low high) fun v => bif (v != 0) then (some ((⟨0, 0⟩ : SGrant), v)) else (Option.bind (arbiter_decide l low high) fun r2 => some ((⟨r2.1.low, r2.1.source⟩ : SGrant), 0))
/-- magneto/magnetotop.reactionOver -/
noncomputable def magnetotop_reactionOver_b1 (t2 : STables) (_ : Int) (x : Smagnetotop_ReactionStep) (s : Int × Int × Bool × Bool × Smagnetotop_monitored) : Option (Fl (Int × Int × Bool × Bool × Smagnetotop_monitored) (Int × Bool)) :=
  Option.bind (magnetotop_monitored_step (⟨(⟨s.2.2.2.2.guard.Over, s.2.2.2.2.guard.Calm, s.2.2.2.2.guard.Off⟩ : SGuard), (⟨s.2.2.2.2.quiz.Question, s.2.2.2.2.quiz.Asked, s.2.2.2.2.quiz.Errors, s.2.2.2.2.quiz.Open, s.2.2.2.2.quiz.Off⟩ : SQuiz), (⟨s.2.2.2.2.stage.Enabled, s.2.2.2.2.stage.Cause, s.2.2.2.2.stage.Since⟩ : SStage), s.2.2.2.2.now⟩ : Smagnetotop_monitored) t2 x) fun r3 => bif (!r3.2.2.2.1) then (some (.ret (0, false))) else (Option.bind (bif (decide (r3.2.2.1 ≤ r3.1)) then (some 0) else (some (w64 (s.2.1 + 1)))) fun (row : Int) => Option.bind (bif ((s.2.2.1 && (decide (r3.2.1 ≤ r3.1))) && (!r3.2.2.2.2.stage.Enabled)) then (some true) else (some (s.2.2.2.1 && r3.2.2.2.2.stage.Enabled))) fun b2 => bif b2 then (some (.ret (0, false))) else (Option.bind (bif (s.2.2.2.1 || (!r3.2.2.2.2.stage.Enabled)) then (Option.bind (Option.bind (stage_Pass (⟨r3.2.2.2.2.stage.Enabled, r3.2.2.2.2.stage.Cause, r3.2.2.2.2.stage.Since⟩ : SStage) ([(⟨r3.2.2.2.2.now, 0, true⟩ : SSwitch), (⟨r3.2.2.2.2.now, 1, false⟩ : SSwitch)] : List SSwitch)) fun r4 => some (r4.1, r4.2)) fun (s2 : List SSwitch × Int) => Option.bind (bif (s2.2 != 0) then (some true) else (Option.bind (slices_Equal_sSwitch s2.1 ([(⟨r3.2.2.2.2.now, 1, false⟩ : SSwitch)] : List SSwitch)) fun v2 => some (!v2))) fun b3 => bif b3 then (some (Sum.inr (0, false))) else (some (Sum.inl ()))) else (some (Sum.inl ()))) fun (t : Unit ⊕ (Int × Bool)) => match t with | .inl _ => (Option.bind (arbiter_Decide ([] : List SRequest) 0 10000) fun r5 => bif ((r5.2 != 0) || (decide (r5.1.Torque > r3.1))) then (some (.ret (0, false))) else (some (.next (maxI s.1 row, row, (s.2.2.1 && (decide (r3.2.1 ≤ r3.1))), (s.2.2.2.1 || (!r3.2.2.2.2.stage.Enabled)), (⟨(⟨r3.2.2.2.2.guard.Over, r3.2.2.2.2.guard.Calm, r3.2.2.2.2.guard.Off⟩ : SGuard), (⟨r3.2.2.2.2.quiz.Question, r3.2.2.2.2.quiz.Asked, r3.2.2.2.2.quiz.Errors, r3.2.2.2.2.quiz.Open, r3.2.2.2.2.quiz.Off⟩ : SQuiz), (⟨r3.2.2.2.2.stage.Enabled, r3.2.2.2.2.stage.Cause, r3.2.2.2.2.stage.Since⟩ : SStage), r3.2.2.2.2.now⟩ : Smagnetotop_monitored))))) | .inr r6 => some (.ret r6)))
noncomputable def magnetotop_reactionOver (t2 : STables) (l : List Smagnetotop_ReactionStep) : Option (Int × Bool) :=
  Option.bind (quiz_New 1) fun r2 => bif (r2.2 != 0) then (some (0, false)) else (Option.bind (stage_New) fun v => Option.bind (rangeM l (magnetotop_reactionOver_b1 t2) (0, 0, true, false, (⟨(⟨0, 0, false⟩ : SGuard), r2.1, v, 0⟩ : Smagnetotop_monitored))) fun (t : (Int × Int × Bool × Bool × Smagnetotop_monitored) ⊕ (Int × Bool)) => match t with | .inl s4 => (some (s4.1, true)) | .inr r7 => some r7)
/-- math/bits.Mul -/
noncomputable def math_bits_Mul (x : Int) (y : Int) : Option (Int × Int) :=
  Option.bind (math_bits_Mul64 x y) fun r2 => some (r2.1, r2.2)
/-- slices.Repeat[[]magneto/magnetotop.ReactionStep,magneto/magnetotop.ReactionStep] -/
noncomputable def slices_Repeat_smagnetotop_ReactionStep_b1 (s3 : Int × List Smagnetotop_ReactionStep) : Option ((Int × List Smagnetotop_ReactionStep) ⊕ ((Int × List Smagnetotop_ReactionStep) ⊕ Empty)) :=
  bif (decide (s3.1 < (s3.2.length : Int))) then (Option.bind (Option.bind (chkM s3.1 (s3.2.length : Int) s3.2.length) fun _ => Option.bind (chkM 0 s3.1 s3.2.length) fun _ => some (w64 (s3.1 + ((min (Int.toNat s3.1 - Int.toNat 0) (Int.toNat (s3.2.length : Int) - Int.toNat s3.1) : Nat) : Int)), copyVM s3.2 s3.1 (s3.2.length : Int) 0 s3.1)) fun (s4 : Int × List Smagnetotop_ReactionStep) => some (.inl (s4.1, s4.2))) else (some (.inr (.inl (s3.1, s3.2))))
noncomputable def slices_Repeat_smagnetotop_ReactionStep (x : List Smagnetotop_ReactionStep) (count : Int) : Option (List Smagnetotop_ReactionStep) :=
  Option.bind (bif (decide (count < 0)) then none else (some ())) fun (_ : Unit) => Option.bind (math_bits_Mul (IntKind.u64.wrap (x.length : Int)) (IntKind.u64.wrap count)) fun r2 => Option.bind (bif ((decide (r2.1 > 0)) || (decide (r2.2 > 9223372036854775807))) then none else (some ())) fun (_ : Unit) => Option.bind (makeM (w64 r2.2) (⟨0, 0, 0, 0, 0, false, 0⟩ : Smagnetotop_ReactionStep)) fun l => Option.bind (loopM (slices_Repeat_smagnetotop_ReactionStep_b1) ((min (x).length (l).length : Nat), copyL l x)) fun (t : (Int × List Smagnetotop_ReactionStep) ⊕ Empty) => match t with | .inl s5 => (some s5.2) | .inr r => r.elim
/-- magneto/magnetotop.TopReaction -/
noncomputable def magnetotop_TopReaction (t2 : STables) (l : List Smagnetotop_ReactionStep) : Option Bool :=
  Option.bind (Option.bind (slices_Repeat_smagnetotop_ReactionStep ([(⟨0, 0, 0, 0, 15, false, 0⟩ : Smagnetotop_ReactionStep)] : List Smagnetotop_ReactionStep) 6) fun v => Option.bind (magnetotop_reactionOver (⟨(⟨([] : List Int), ([] : List Int), ([] : List (List Int))⟩ : SMap), (⟨([] : List Int), ([] : List Int), ([] : List (List Int))⟩ : SMap), (⟨([0, 1] : List Int), ([0, 1] : List Int), ([([900, 900] : List Int), ([900, 900] : List Int)] : List (List Int))⟩ : SMap), (⟨([0, 1] : List Int), ([0, 1] : List Int), ([([0, 0] : List Int), ([0, 0] : List Int)] : List (List Int))⟩ : SMap), (⟨([] : List Int), ([] : List Int)⟩ : SCurve), (⟨([] : List Int), ([] : List Int)⟩ : SCurve), (⟨([] : List Int), ([] : List Int)⟩ : SCurve), (⟨([0, 1] : List Int), ([1000, 1000] : List Int)⟩ : SCurve), (⟨0, 0, 0, 0⟩ : SGain)⟩ : STables) v) fun r2 => some (r2.1, r2.2)) fun (s : Int × Bool) => bif ((!s.2) || (s.1 != 4)) then (some false) else (Option.bind (bif (decide ((l.length : Int) > 40)) then (some true) else (Option.bind (torque_Valid t2) fun v2 => some (!v2))) fun b2 => bif b2 then (some true) else (Option.bind (monitor_Permitted t2 0 0 ([] : List SRequest)) fun r3 => bif (r3.2 != 0) then (some true) else (Option.bind (magnetotop_reactionOver t2 l) fun r4 => some (r4.2 && (decide (r4.1 ≤ 4))))))
end Go.Pv

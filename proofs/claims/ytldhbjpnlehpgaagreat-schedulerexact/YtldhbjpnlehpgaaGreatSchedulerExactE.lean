/- This file joins: Part Xi: what library functions compute, plain. Types and models, printed by gen.py: plain Lean; nothing of the loaded program stands here. -/
import Derived.Test.YtldhbjpnlehpgaaGreatSchedulerExactD
import Derived.Lib.BitFns
set_option linter.unusedSimpArgs false
set_option linter.unusedVariables false
namespace Go.Pv
def bitAnd (k : IntKind) (x y : Int) : Int := k.wrap (BitVec.ofInt k.bits x &&& BitVec.ofInt k.bits y).toNat
def bitOr (k : IntKind) (x y : Int) : Int := k.wrap (BitVec.ofInt k.bits x ||| BitVec.ofInt k.bits y).toNat
def bitShl (k : IntKind) (x y : Int) : Int := k.wrap (x * 2 ^ (min y.toNat k.bits))
def bitShr (k : IntKind) (x y : Int) : Int := x.fdiv (2 ^ (min y.toNat k.bits))
abbrev lset {α : Type} (l : List α) (m : List (Nat × α)) : List α := m.foldl (fun l p => l.set p.1 p.2) l
def chkM (lo hi : Int) (n : Nat) : Option Unit := if 0 ≤ lo ∧ lo ≤ hi ∧ hi ≤ n then some () else none
def copyAt {α : Type} (l : List α) (lo : Nat) (r : List α) : List α := l.take lo ++ r ++ l.drop (lo + r.length)
abbrev clearVM {α : Type} (l : List α) (lo hi : Int) (z : α) : List α := copyAt l lo.toNat (List.replicate (hi.toNat - lo.toNat) z)
def shlM (k : IntKind) (x y : Int) : Option Int := if y < 0 then none else some (bitShl k x y)
def shrM (k : IntKind) (x y : Int) : Option Int := if y < 0 then none else some (bitShr k x y)
def len64M (x : Int) : Option Int := if 0 ≤ x ∧ x ≤ 18446744073709551615 then some (Lib.bitLen x.toNat : Int) else none
def mul64M (x y : Int) : Option (Int × Int) := if (0 ≤ x ∧ x ≤ 18446744073709551615) ∧ (0 ≤ y ∧ y ≤ 18446744073709551615) then some (x * y / 18446744073709551616, x * y % 18446744073709551616) else none
end Go.Pv
namespace Go.Pv
open Go
def enc_u8 (n : Int) : List Tree := [tK .u8 n]
@[ext] structure SEngine where
  Order : List Int
  First : Int
def q17 (x : SEngine) : List Tree := [tS Pv.encI x.Order, tI x.First]
abbrev q37 (x : SEngine) : T := .agg [.t (tS Pv.encI x.Order), .t (tI x.First)]
@[ext] structure SClock where
  Valid : Bool
  At : Int
  Angle : Int
  Period : Int
  Space : Int
  Ahead : Int
def q36 (x : SClock) : List Tree := [tB x.Valid, tI x.At, tI x.Angle, tI x.Period, tI x.Space, tI x.Ahead]
abbrev q245 (x : SClock) : T := .agg [.t (tB x.Valid), .t (tI x.At), .t (tI x.Angle), .t (tI x.Period), .t (tI x.Space), .t (tI x.Ahead)]
@[ext] structure SChannel where
  Armed : Bool
  At : Int
  Next : Bool
  Level : Bool
def q14 (x : SChannel) : List Tree := [tB x.Armed, tI x.At, tB x.Next, tB x.Level]
abbrev q314 (x : SChannel) : T := .agg [.t (tB x.Armed), .t (tI x.At), .t (tB x.Next), .t (tB x.Level)]
@[ext] structure STimer where
  Now : Int
  Channels : List SChannel
def q183 (x : STimer) : List Tree := [tI x.Now, tS q14 x.Channels]
abbrev q175 (x : STimer) : T := .agg [.t (tI x.Now), .t (tS q14 x.Channels)]
@[ext] structure SFire where
  Cylinder : Int
  Spark : Int
  Dwell : Int
  End : Int
  Inject : Int
  Gap : Int
  Extra : Int
def q12 (x : SFire) : List Tree := [tI x.Cylinder, tI x.Spark, tI x.Dwell, tI x.End, tI x.Inject, tI x.Gap, tI x.Extra]
abbrev A_SFire (x : SFire) : T := .agg [.t (tI x.Cylinder), .t (tI x.Spark), .t (tI x.Dwell), .t (tI x.End), .t (tI x.Inject), .t (tI x.Gap), .t (tI x.Extra)]
@[ext] structure SEvent where
  Angle : Int
  Kind : Int
  Cylinder : Int
  Pulse : Int
def q16 (x : SEvent) : List Tree := [tI x.Angle, tI x.Kind, tI x.Cylinder, tI x.Pulse]
abbrev q242 (x : SEvent) : T := .agg [.t (tI x.Angle), .t (tI x.Kind), .t (tI x.Cylinder), .t (tI x.Pulse)]
@[ext] structure SJob where
  Event : SEvent
  Left : Int
  Armed : Bool
  At : Int
def q15 (x : SJob) : List Tree := [tI x.Event.Angle, tI x.Event.Kind, tI x.Event.Cylinder, tI x.Event.Pulse, tI x.Left, tB x.Armed, tI x.At]
abbrev A_SJob (x : SJob) : T := .agg [.t (tI x.Event.Angle), .t (tI x.Event.Kind), .t (tI x.Event.Cylinder), .t (tI x.Event.Pulse), .t (tI x.Left), .t (tB x.Armed), .t (tI x.At)]
@[ext] structure SScheduler where
  Engine : SEngine
  Clock : SClock
  Timer : STimer
  Next : List SFire
  Jobs : List SJob
  Cut : Bool
def q43 (x : SScheduler) : List Tree := [tS Pv.encI x.Engine.Order, tI x.Engine.First, tB x.Clock.Valid, tI x.Clock.At, tI x.Clock.Angle, tI x.Clock.Period, tI x.Clock.Space, tI x.Clock.Ahead, tI x.Timer.Now, tS q14 x.Timer.Channels, tS q12 x.Next, tS q15 x.Jobs, tB x.Cut]
abbrev q61 (x : SScheduler) : T := .agg [.t (tS Pv.encI x.Engine.Order), .t (tI x.Engine.First), .t (tB x.Clock.Valid), .t (tI x.Clock.At), .t (tI x.Clock.Angle), .t (tI x.Clock.Period), .t (tI x.Clock.Space), .t (tI x.Clock.Ahead), .t (tI x.Timer.Now), .t (tS q14 x.Timer.Channels), .t (tS q12 x.Next), .t (tS q15 x.Jobs), .t (tB x.Cut)]
abbrev q11 (x : SScheduler) : List T := [.t (tS Pv.encI x.Engine.Order), .t (tI x.Engine.First), .t (tB x.Clock.Valid), .t (tI x.Clock.At), .t (tI x.Clock.Angle), .t (tI x.Clock.Period), .t (tI x.Clock.Space), .t (tI x.Clock.Ahead), .t (tI x.Timer.Now), .t (tS q14 x.Timer.Channels), .t (tS q12 x.Next), .t (tS q15 x.Jobs), .t (tB x.Cut)]
@[ext] structure SSwitch where
  At : Int
  Channel : Int
  Level : Bool
def q13 (x : SSwitch) : List Tree := [tI x.At, tI x.Channel, tB x.Level]
abbrev q254 (x : SSwitch) : T := .agg [.t (tI x.At), .t (tI x.Channel), .t (tB x.Level)]
@[ext] structure SWheel where
  Teeth : Int
  Missing : Int
def q457 (x : SWheel) : List Tree := [tI x.Teeth, tI x.Missing]
abbrev q209 (x : SWheel) : T := .agg [.t (tI x.Teeth), .t (tI x.Missing)]
@[ext] structure Sscheduler_planned where
  x : SEvent
  f_at : Int
def q10 (x : Sscheduler_planned) : List Tree := [tI x.x.Angle, tI x.x.Kind, tI x.x.Cylinder, tI x.x.Pulse, tI x.f_at]
abbrev q20 (x : Sscheduler_planned) : T := .agg [.t (tI x.x.Angle), .t (tI x.x.Kind), .t (tI x.x.Cylinder), .t (tI x.x.Pulse), .t (tI x.f_at)]
@[ext] structure Smagnetoref01_Wide where
  High : Int
  Low : Int
noncomputable def q151 (a : Int) : Option Bool :=
  some ((decide (a ≥ 0)) && (decide (a < 46080)))
noncomputable def q230 (s : List Int) (v : Int) (i : Int) (_ : Unit) : Option (Fl Unit Int) :=
  Option.bind (getI s i) fun x => bif (v == x) then (some (.ret i)) else (some (.next ()))
noncomputable def q109 (s : List Int) (v : Int) : Option Int :=
  Option.bind (rangeN (s.length : Int) (q230 s v) ()) fun (t : Unit ⊕ Int) => match t with | .inl _ => (some (-1)) | .inr r2 => some r2
noncomputable def q73 (s : List Int) (v : Int) : Option Bool :=
  Option.bind (q109 s v) fun v2 => some (decide (v2 ≥ 0))
noncomputable def q169 (e2 : SEngine) (i : Int) : Option (Int ⊕ (Int ⊕ Bool)) :=
  bif (decide (i ≤ (e2.Order.length : Int))) then (Option.bind (q73 e2.Order i) fun v2 => bif (!v2) then (some (.inr (.inr false))) else (some (.inl (w64 (i + 1))))) else (some (.inr (.inl i)))
noncomputable def q74 (e2 : SEngine) : Option Bool :=
  Option.bind (bif ((decide ((e2.Order.length : Int) < 1)) || (decide ((e2.Order.length : Int) > 8))) then (some true) else (Option.bind (q151 e2.First) fun v => some (!v))) fun b2 => bif b2 then (some false) else (Option.bind (loopM (q169 e2) 1) fun (t : Int ⊕ Bool) => match t with | .inl _ => (some true) | .inr r2 => some r2)
noncomputable def q269 (t2 : Int) : Option Bool :=
  some ((decide (t2 ≥ 0)) && (decide (t2 ≤ 1099511627776)))
noncomputable def q137 (c : SClock) : Option Bool :=
  bif (!c.Valid) then (some ((c.Valid == false) && ((c.At == 0) && ((c.Angle == 0) && ((c.Period == 0) && ((c.Space == 0) && ((c.Ahead == 0) && true))))))) else (Option.bind (q269 c.At) fun v => bif (((((((!v) || (decide (c.Angle < 0))) || (decide (c.Angle ≥ 46080))) || (decide (c.Period < 1))) || (decide (c.Period > 1073741824))) || (decide (c.Space < 192))) || (decide (c.Space > 1920))) then (some false) else (some (((c.Ahead == c.Space) || (c.Ahead == (w64 (2 * c.Space)))) || (c.Ahead == (w64 (3 * c.Space))))))
noncomputable def q238 (s : List SChannel) (f2 : SChannel → Option Bool) (i : Int) (_ : Unit) : Option (Fl Unit Int) :=
  Option.bind (getI s i) fun x => Option.bind (f2 x) fun v => bif v then (some (.ret i)) else (some (.next ()))
noncomputable def q168 (s : List SChannel) (f2 : SChannel → Option Bool) : Option Int :=
  Option.bind (rangeN (s.length : Int) (q238 s f2) ()) fun (t : Unit ⊕ Int) => match t with | .inl _ => (some (-1)) | .inr r2 => some r2
noncomputable def q92 (s : List SChannel) (f2 : SChannel → Option Bool) : Option Bool :=
  Option.bind (q168 s f2) fun v => some (decide (v ≥ 0))
noncomputable def q128 (c : SChannel) (c2 : STimer) : Option Bool :=
  bif c.Armed then (some ((decide (c.At ≤ c2.Now)) || (decide (c.At > 1099511627776)))) else (some ((c.At != 0) || c.Next))
noncomputable def q165 (t2 : STimer) : Option Bool :=
  bif ((((decide (t2.Now < 0)) || (decide (t2.Now > 1099511627776))) || (decide ((t2.Channels.length : Int) < 1))) || (decide ((t2.Channels.length : Int) > 16))) then (some false) else (Option.bind (q92 t2.Channels (fun x0 => q128 x0 t2)) fun v => some (!v))
noncomputable def q52 (x : Int) (low : Int) (high : Int) : Option Bool :=
  some ((decide (x ≥ low)) && (decide (x ≤ high)))
noncomputable def q117 (e2 : SEngine) (f2 : SFire) : Option Bool :=
  Option.bind (q74 e2) fun v => Option.bind (bif (!v) then (some true) else (Option.bind (q73 e2.Order f2.Cylinder) fun v2 => some (!v2))) fun b2 => Option.bind (bif b2 then (some true) else (Option.bind (q52 f2.Spark (-1280) 3840) fun v3 => some (!v3))) fun b3 => Option.bind (bif b3 then (some true) else (Option.bind (q52 f2.Dwell 500 10000) fun v4 => some (!v4))) fun b4 => Option.bind (bif b4 then (some true) else (Option.bind (q52 f2.End 0 23040) fun v5 => some (!v5))) fun b5 => bif b5 then (some false) else (Option.bind (bif (f2.Inject != 0) then (Option.bind (q52 f2.Inject 200 20000) fun v6 => some (!v6)) else (some false)) fun b6 => bif b6 then (some false) else (Option.bind (bif ((f2.Gap == 0) && (f2.Extra == 0)) then (some true) else (Option.bind (bif (f2.Inject != 0) then (Option.bind (q52 f2.Gap 200 20000) fun v7 => some v7) else (some false)) fun b7 => Option.bind (bif b7 then (Option.bind (q52 f2.Extra 200 20000) fun v8 => some v8) else (some false)) fun b8 => some b8)) fun b9 => some b9))
noncomputable def q69 (s : List SFire) (f2 : SFire → Option Bool) (i : Int) (_ : Unit) : Option (Fl Unit Int) :=
  Option.bind (getI s i) fun x => Option.bind (f2 x) fun v => bif v then (some (.ret i)) else (some (.next ()))
noncomputable def q24 (s : List SFire) (f2 : SFire → Option Bool) : Option Int :=
  Option.bind (rangeN (s.length : Int) (q69 s f2) ()) fun (t : Unit ⊕ Int) => match t with | .inl _ => (some (-1)) | .inr r2 => some r2
noncomputable def q26 (s : List SFire) (f2 : SFire → Option Bool) : Option Bool :=
  Option.bind (q24 s f2) fun v => some (decide (v ≥ 0))
noncomputable def q111 (g : SFire) (c : SFire) : Option Bool :=
  some (g.Cylinder == c.Cylinder)
noncomputable def q173 (e2 : SEngine) (l : List SFire) (i : Int) (_ : Unit) : Option (Fl Unit Bool) :=
  Option.bind (getI l i) fun x => Option.bind (q117 e2 x) fun v => Option.bind (bif (!v) then (some true) else (Option.bind (sliceM l 0 i) fun l2 => Option.bind (q26 l2 (fun x0 => q111 x0 x)) fun v2 => some v2)) fun b2 => bif b2 then (some (.ret false)) else (some (.next ()))
noncomputable def q133 (e2 : SEngine) (l : List SFire) : Option Bool :=
  Option.bind (rangeN (l.length : Int) (q173 e2 l) ()) fun (t : Unit ⊕ Bool) => match t with | .inl _ => (some true) | .inr r2 => some r2
noncomputable def q75 (s : List SJob) (f2 : SJob → Option Bool) (i : Int) (_ : Unit) : Option (Fl Unit Int) :=
  Option.bind (getI s i) fun x => Option.bind (f2 x) fun v => bif v then (some (.ret i)) else (some (.next ()))
noncomputable def q23 (s : List SJob) (f2 : SJob → Option Bool) : Option Int :=
  Option.bind (rangeN (s.length : Int) (q75 s f2) ()) fun (t : Unit ⊕ Int) => match t with | .inl _ => (some (-1)) | .inr r2 => some r2
noncomputable def q78 (s : List SJob) (f2 : SJob → Option Bool) : Option Bool :=
  Option.bind (q23 s f2) fun v => some (decide (v ≥ 0))
noncomputable def q196 (s : SScheduler) (j : SJob) : Option Bool :=
  Option.bind (bif ((((((((((decide (j.Event.Cylinder ≥ 1)) && (decide (j.Event.Cylinder ≤ (s.Engine.Order.length : Int)))) && (decide (j.Event.Kind ≥ 1))) && (decide (j.Event.Kind ≤ 4))) && (decide (j.Event.Angle ≥ 0))) && (decide (j.Event.Angle < 46080))) && (decide (j.Event.Pulse ≥ 0))) && (decide (j.Event.Pulse ≤ 2))) && (decide (j.Left ≥ (-1048576)))) && (decide (j.Left ≤ 1048576))) then (some (j.Armed || (j.At == 0))) else (some false)) fun b2 => some b2
noncomputable def q81 (j : SJob) (c : SScheduler) : Option Bool :=
  Option.bind (q196 c j) fun v => some (!v)
noncomputable def q34 (x : SEvent) : Option Int :=
  bif ((x.Kind == 3) || (x.Kind == 4)) then (some (w64 ((w64 (2 * (w64 (x.Cylinder - 1)))) + 1))) else (some (w64 (2 * (w64 (x.Cylinder - 1)))))
noncomputable def q179 (kind : Int) : Option Bool :=
  some ((kind == 1) || (kind == 3))
noncomputable def q83 (s : SScheduler) (c : Int) (x : SChannel) (_ : Int) (x2 : SJob) (s2 : Bool × Bool) : Option (Fl (Bool × Bool) Bool) :=
  Option.bind (q34 x2.Event) fun v => bif (v != c) then (some (.next (s2.1, s2.2))) else (Option.bind (q179 x2.Event.Kind) fun v2 => bif (v2 == s2.1) then (some (.ret false)) else (Option.bind (bif s2.2 then (Option.bind (bif (!(x2.Armed == x.Armed)) then (some true) else (Option.bind (bif x2.Armed then (some ((x2.At != x.At) || (!(x.Next == (!s2.1))))) else (some false)) fun b2 => some b2)) fun b3 => bif b3 then (some (Sum.inr false)) else (some (Sum.inl ()))) else (bif (x2.Armed || s.Cut) then (some (Sum.inr false)) else (some (Sum.inl ())))) fun (t : Unit ⊕ Bool) => match t with | .inl _ => (Option.bind (bif s.Cut then (some (((x2.Event.Kind != 2) || (!x2.Armed)) || (decide (x2.At > (w64 (s.Timer.Now + 5000)))))) else (some false)) fun b4 => bif b4 then (some (.ret false)) else (some (.next ((!s2.1), false)))) | .inr r2 => some (.ret r2)))
noncomputable def q185 (s : SScheduler) (c : Int) : Option Bool :=
  Option.bind (getI s.Timer.Channels c) fun x => Option.bind (rangeM s.Jobs (q83 s c x) (x.Level, true)) fun (t : (Bool × Bool) ⊕ Bool) => match t with | .inl s4 => (Option.bind (bif (!s4.1) then (some (!(s4.2 && x.Armed))) else (some false)) fun b5 => some b5) | .inr r3 => some r3
noncomputable def q180 (s : SScheduler) (i : Int) (_ : Unit) : Option (Fl Unit Bool) :=
  Option.bind (q185 s i) fun v6 => bif (!v6) then (some (.ret false)) else (some (.next ()))
noncomputable def q105 (s : SScheduler) : Option Bool :=
  Option.bind (q74 s.Engine) fun v => Option.bind (bif (!v) then (some true) else (Option.bind (q137 s.Clock) fun v2 => some (!v2))) fun b2 => Option.bind (bif b2 then (some true) else (Option.bind (q165 s.Timer) fun v3 => some (!v3))) fun b3 => Option.bind (bif (b3 || ((s.Timer.Channels.length : Int) != (w64 (2 * (s.Engine.Order.length : Int))))) then (some true) else (Option.bind (q133 s.Engine s.Next) fun v4 => some (!v4))) fun b4 => bif b4 then (some false) else (Option.bind (bif (decide ((s.Jobs.length : Int) > 200)) then (some true) else (some ((!s.Clock.Valid) && (decide ((s.Jobs.length : Int) > 0))))) fun b5 => Option.bind (bif b5 then (some true) else (Option.bind (q78 s.Jobs (fun x0 => q81 x0 s)) fun v5 => some v5)) fun b6 => bif b6 then (some false) else (Option.bind (rangeN (s.Timer.Channels.length : Int) (q180 s) ()) fun (t : Unit ⊕ Bool) => match t with | .inl _ => (some true) | .inr r2 => some r2))
noncomputable def q103 (s : List SFire) : Option (List SFire) :=
  Option.bind (appendM ([] : List SFire) s) fun l => some l
noncomputable def q186 (s : List SJob) : Option (List SJob) :=
  Option.bind (appendM ([] : List SJob) s) fun l => some l
noncomputable def q119 (s : SScheduler) : Option SScheduler :=
  Option.bind (q186 s.Jobs) fun v => Option.bind (q103 s.Next) fun v2 => some (⟨s.Engine, s.Clock, s.Timer, v2, v, s.Cut⟩ : SScheduler)
noncomputable def q194 (t2 : STimer) (channel : Int) : Option (STimer × Int) :=
  Option.bind (q165 t2) fun v => bif (!v) then (some ((⟨0, ([] : List SChannel)⟩ : STimer), 1)) else (bif ((decide (channel < 0)) || (decide (channel ≥ (t2.Channels.length : Int)))) then (some ((⟨0, ([] : List SChannel)⟩ : STimer), 2)) else (Option.bind (makeM (t2.Channels.length : Int) (⟨false, 0, false, false⟩ : SChannel)) fun l => some ((⟨t2.Now, copyL l t2.Channels⟩ : STimer), 0)))
noncomputable def q283 (t2 : STimer) (channel : Int) (v_at : Int) (level : Bool) : Option (STimer × Int) :=
  Option.bind (q194 t2 channel) fun r2 => bif (r2.2 != 0) then (some ((⟨0, ([] : List SChannel)⟩ : STimer), r2.2)) else (bif (decide (v_at ≤ t2.Now)) then (some ((⟨0, ([] : List SChannel)⟩ : STimer), 16)) else (bif (decide (v_at > 1099511627776)) then (some ((⟨0, ([] : List SChannel)⟩ : STimer), 2)) else (Option.bind (getI t2.Channels channel) fun x => Option.bind (getI r2.1.Channels channel) fun _ => Option.bind (setM r2.1.Channels channel (⟨true, v_at, level, x.Level⟩ : SChannel)) fun l => some ((⟨r2.1.Now, l⟩ : STimer), 0))))
noncomputable def q46 (j : SJob) (c : Int) : Option Bool :=
  Option.bind (q34 j.Event) fun v => some (v == c)
noncomputable def q223 (a : Int) (b2 : Int) : Option Int :=
  Option.bind (quoM .i64 a b2) fun q => Option.bind (remM a b2) fun q2 => bif (decide (q2 > 0)) then (some (w64 (q + 1))) else (some q)
noncomputable def q50 (s : SScheduler) (i : Int) (s2 : STimer × List SJob) : Option (Fl (STimer × List SJob) Empty) :=
  Option.bind (q23 s2.2 (fun x0 => q46 x0 i)) fun v => Option.bind (bif (decide (v < 0)) then (some true) else (Option.bind (getI s2.2 v) fun x => some (decide (x.Left > s.Clock.Ahead)))) fun (v2 : Bool) => bif v2 then (some (.next (s2.1, s2.2))) else (Option.bind (getI s2.2 v) fun x2 => Option.bind (q223 (w64 (x2.Left * s.Clock.Period)) s.Clock.Space) fun v3 => bif (decide ((maxI (w64 (s.Clock.At + v3)) (w64 (s2.1.Now + 1))) > 1099511627776)) then (some (.next (s2.1, s2.2))) else (Option.bind (Option.bind (q179 x2.Event.Kind) fun v4 => Option.bind (q283 s2.1 i (maxI (w64 (s.Clock.At + v3)) (w64 (s2.1.Now + 1))) v4) fun r2 => some (r2.2, r2.1)) fun (s3 : Int × STimer) => bif (s3.1 == 0) then (Option.bind (setM s2.2 v (⟨x2.Event, x2.Left, true, x2.At⟩ : SJob)) fun l => Option.bind (setM l v (⟨x2.Event, x2.Left, true, maxI (w64 (s.Clock.At + v3)) (w64 (s2.1.Now + 1))⟩ : SJob)) fun l2 => some (.next (s3.2, l2))) else (some (.next (s2.1, s2.2)))))
noncomputable def q164 (s : SScheduler) : Option SScheduler :=
  bif s.Cut then (some s) else (Option.bind (rangeN (s.Timer.Channels.length : Int) (q50 s) (s.Timer, s.Jobs)) fun (t : (STimer × List SJob) ⊕ Empty) => match t with | .inl s4 => (some (⟨s.Engine, s.Clock, s4.1, s.Next, s4.2, s.Cut⟩ : SScheduler)) | .inr r => r.elim)
noncomputable def q258 (_ : Int) (x : SChannel) (s : Int × Bool) : Option (Fl (Int × Bool) Empty) :=
  Option.bind (bif x.Armed then (some ((!s.2) || (decide (x.At < s.1)))) else (some false)) fun b2 => bif b2 then (some (.next (x.At, true))) else (some (.next (s.1, s.2)))
noncomputable def q265 (t2 : STimer) : Option (Int × Bool) :=
  Option.bind (q165 t2) fun v => bif (!v) then (some (0, false)) else (Option.bind (rangeM t2.Channels (q258) (0, false)) fun (t : (Int × Bool) ⊕ Empty) => match t with | .inl s2 => (some (s2.1, s2.2)) | .inr r => r.elim)
noncomputable def q88 (s : List SSwitch) (f : SSwitch → SSwitch → Option Int) : Option (List SSwitch) :=
  sortM f s
noncomputable def q124 (_ : Int) (x : Int) (_ : Unit) : Option (Fl Unit Int) :=
  bif (x != 0) then (some (.ret x)) else (some (.next ()))
noncomputable def q96 (vals : List Int) : Option Int :=
  Option.bind (rangeM vals (q124) ()) fun (t : Unit ⊕ Int) => match t with | .inl _ => (some 0) | .inr r2 => some r2
noncomputable def q162 (x : Int) : Option Bool :=
  some (x != x)
noncomputable def q28 (x : Int) (y : Int) : Option Int :=
  Option.bind (q162 x) fun v => Option.bind (q162 y) fun v2 => bif v then (bif v2 then (some 0) else (some (-1))) else (bif v2 then (some 1) else (bif (decide (x < y)) then (some (-1)) else (bif (decide (x > y)) then (some 1) else (some 0))))
noncomputable def q56 (a : SSwitch) (b2 : SSwitch) : Option Int :=
  Option.bind (q28 a.At b2.At) fun v => Option.bind (q28 a.Channel b2.Channel) fun v2 => Option.bind (q96 ([v, v2] : List Int)) fun v3 => some v3
noncomputable def q200 (t2 : STimer) (v_to : Int) (i : Int) (s : List SSwitch × List SChannel) : Option (Fl (List SSwitch × List SChannel) Empty) :=
  Option.bind (getI t2.Channels i) fun x => bif ((!x.Armed) || (decide (x.At > v_to))) then (some (.next (s.1, s.2))) else (Option.bind (bif (!(x.Next == x.Level)) then (Option.bind (appendM s.1 ([(⟨x.At, i, x.Next⟩ : SSwitch)] : List SSwitch)) fun l => some l) else (some s.1)) fun (f2 : List SSwitch) => Option.bind (getI s.2 i) fun _ => Option.bind (setM s.2 i (⟨false, 0, false, x.Next⟩ : SChannel)) fun l2 => some (.next (f2, l2)))
noncomputable def q161 (t2 : STimer) (v_to : Int) : Option (STimer × List SSwitch × Int) :=
  Option.bind (q194 t2 0) fun r2 => bif (r2.2 != 0) then (some ((⟨0, ([] : List SChannel)⟩ : STimer), ([] : List SSwitch), r2.2)) else (bif (decide (v_to < t2.Now)) then (some ((⟨0, ([] : List SChannel)⟩ : STimer), ([] : List SSwitch), 16)) else (bif (decide (v_to > 1099511627776)) then (some ((⟨0, ([] : List SChannel)⟩ : STimer), ([] : List SSwitch), 2)) else (Option.bind (rangeN (t2.Channels.length : Int) (q200 t2 v_to) (([] : List SSwitch), r2.1.Channels)) fun (t : (List SSwitch × List SChannel) ⊕ Empty) => match t with | .inl s2 => (Option.bind (q88 s2.1 q56) fun v => some ((⟨v_to, s2.2⟩ : STimer), v, 0)) | .inr r => r.elim)))
noncomputable def q70 (del : SJob → Option Bool) (s2 : Int × Int × List SJob) : Option ((Int × Int × List SJob) ⊕ ((Int × Int × List SJob) ⊕ Empty)) :=
  bif (decide (s2.2.1 < (s2.2.2.length : Int))) then (Option.bind (getI s2.2.2 s2.2.1) fun x => Option.bind (del x) fun v2 => bif (!v2) then (Option.bind (getI s2.2.2 s2.1) fun _ => Option.bind (setM s2.2.2 s2.1 x) fun l => some (.inl (w64 (s2.1 + 1), w64 (s2.2.1 + 1), l))) else (some (.inl (s2.1, w64 (s2.2.1 + 1), s2.2.2)))) else (some (.inr (.inl (s2.1, s2.2.1, s2.2.2))))
noncomputable def q60 (s : List SJob) (del : SJob → Option Bool) : Option (List SJob) :=
  Option.bind (q23 s del) fun v => bif (v == (-1)) then (some s) else (Option.bind (loopM (q70 del) (v, w64 (v + 1), s)) fun (t : (Int × Int × List SJob) ⊕ Empty) => match t with | .inl s3 => (Option.bind (chkM s3.1 (s3.2.2.length : Int) s3.2.2.length) fun _ => Option.bind (sliceM (clearVM s3.2.2 s3.1 (s3.2.2.length : Int) (⟨(⟨0, 0, 0, 0⟩ : SEvent), 0, false, 0⟩ : SJob)) 0 s3.1) fun l2 => some l2) | .inr r => r.elim)
noncomputable def q155 (j : SJob) (c : Int) : Option Bool :=
  some (j.Armed && (j.At == c))
noncomputable def q84 (v_to : Int) (s2 : List SSwitch × SScheduler) : Option ((List SSwitch × SScheduler) ⊕ ((List SSwitch × SScheduler) ⊕ Empty)) :=
  Option.bind (q265 (⟨s2.2.Timer.Now, s2.2.Timer.Channels⟩ : STimer)) fun r2 => bif ((!r2.2) || (decide (r2.1 > v_to))) then (some (.inr (.inl (s2.1, (⟨(⟨s2.2.Engine.Order, s2.2.Engine.First⟩ : SEngine), (⟨s2.2.Clock.Valid, s2.2.Clock.At, s2.2.Clock.Angle, s2.2.Clock.Period, s2.2.Clock.Space, s2.2.Clock.Ahead⟩ : SClock), (⟨s2.2.Timer.Now, s2.2.Timer.Channels⟩ : STimer), s2.2.Next, s2.2.Jobs, s2.2.Cut⟩ : SScheduler))))) else (Option.bind (Option.bind (q161 (⟨s2.2.Timer.Now, s2.2.Timer.Channels⟩ : STimer) r2.1) fun r3 => some (r3.2.1, r3.1)) fun (s3 : List SSwitch × STimer) => Option.bind (appendM s2.1 s3.1) fun l => Option.bind (q60 s2.2.Jobs (fun x0 => q155 x0 r2.1)) fun v => Option.bind (q164 (⟨(⟨s2.2.Engine.Order, s2.2.Engine.First⟩ : SEngine), (⟨s2.2.Clock.Valid, s2.2.Clock.At, s2.2.Clock.Angle, s2.2.Clock.Period, s2.2.Clock.Space, s2.2.Clock.Ahead⟩ : SClock), s3.2, s2.2.Next, v, s2.2.Cut⟩ : SScheduler)) fun v2 => some (.inl (l, v2)))
noncomputable def q152 (s : SScheduler) (v_to : Int) : Option (List SSwitch × SScheduler) :=
  Option.bind (loopM (q84 v_to) (([] : List SSwitch), s)) fun (t : (List SSwitch × SScheduler) ⊕ Empty) => match t with | .inl s4 => (Option.bind (q161 (⟨s4.2.Timer.Now, s4.2.Timer.Channels⟩ : STimer) v_to) fun r4 => Option.bind (appendM s4.1 r4.2.1) fun l2 => some (l2, (⟨(⟨s4.2.Engine.Order, s4.2.Engine.First⟩ : SEngine), (⟨s4.2.Clock.Valid, s4.2.Clock.At, s4.2.Clock.Angle, s4.2.Clock.Period, s4.2.Clock.Space, s4.2.Clock.Ahead⟩ : SClock), r4.1, s4.2.Next, s4.2.Jobs, s4.2.Cut⟩ : SScheduler))) | .inr r => r.elim
noncomputable def q250 (a : Int) (b2 : Int) : Option Int :=
  bif ((b2 == 0) || (b2 == (-1))) then (some 0) else (Option.bind (remM a b2) fun q => bif ((q != 0) && (!((decide (q < 0)) == (decide (b2 < 0))))) then (some (w64 (q + b2))) else (some q))
noncomputable def q57 (v_from : Int) (v_to : Int) : Option Int :=
  Option.bind (q151 v_from) fun v => Option.bind (bif (!v) then (some true) else (Option.bind (q151 v_to) fun v2 => some (!v2))) fun b2 => bif b2 then (some (-1)) else (Option.bind (q250 (w64 (v_to - v_from)) 46080) fun v3 => some v3)
noncomputable def q163 (e2 : SEngine) (cylinder : Int) : Option (Int × Bool) :=
  Option.bind (q109 e2.Order cylinder) fun v => Option.bind (quoM .i64 (w64 ((maxI v 0) * 46080)) (e2.Order.length : Int)) fun q => some (Int.tmod (w64 (e2.First + q)) 46080, decide (v ≥ 0))
noncomputable def q159 (e2 : SEngine) (cylinder : Int) : Option (Int × Int) :=
  Option.bind (q74 e2) fun v => bif (!v) then (some (0, 1)) else (Option.bind (q163 e2 cylinder) fun r2 => bif (!r2.2) then (some (0, 7)) else (some (r2.1, 0)))
noncomputable def q286 (c : SClock) : Option Int :=
  Option.bind (q137 c) fun v => bif (!v) then (some 1) else (bif (!c.Valid) then (some 6) else (some 0))
noncomputable def q228 (x : Int) (y : Int) : Option (Int × Int) :=
  mul64M x y
noncomputable def q104 (n2 : Int) : Option Int :=
  bif (decide (n2 < 0)) then (some (IntKind.u64.wrap ((IntKind.u64.wrap (w64 (0 - (w64 (n2 + 1))))) + 1))) else (some (IntKind.u64.wrap n2))
noncomputable def q276 (x : Int) : Option Int :=
  len64M x
noncomputable def q178 (x : Int) : Option Int :=
  Option.bind (q276 x) fun v => some (w64 (64 - v))
noncomputable def q329 (q3 : Int) (q6 : Int) (s3 : Int × Int) : Option ((Int × Int) ⊕ ((Int × Int) ⊕ Empty)) :=
  bif ((decide (s3.1 ≥ 4294967296)) || (decide ((IntKind.u64.wrap (s3.1 * (bitAnd .u64 q3 4294967295))) > (IntKind.u64.wrap ((IntKind.u64.wrap (4294967296 * s3.2)) + (bitShr .u64 q6 32)))))) then (bif (decide ((IntKind.u64.wrap (s3.2 + (bitShr .u64 q3 32))) ≥ 4294967296)) then (some (.inr (.inl (IntKind.u64.wrap (s3.1 - 1), IntKind.u64.wrap (s3.2 + (bitShr .u64 q3 32)))))) else (some (.inl (IntKind.u64.wrap (s3.1 - 1), IntKind.u64.wrap (s3.2 + (bitShr .u64 q3 32)))))) else (some (.inr (.inl (s3.1, s3.2))))
noncomputable def q338 (q3 : Int) (q6 : Int) (s5 : Int × Int) : Option ((Int × Int) ⊕ ((Int × Int) ⊕ Empty)) :=
  bif ((decide (s5.2 ≥ 4294967296)) || (decide ((IntKind.u64.wrap (s5.2 * (bitAnd .u64 q3 4294967295))) > (IntKind.u64.wrap ((IntKind.u64.wrap (4294967296 * s5.1)) + (bitAnd .u64 q6 4294967295)))))) then (bif (decide ((IntKind.u64.wrap (s5.1 + (bitShr .u64 q3 32))) ≥ 4294967296)) then (some (.inr (.inl (IntKind.u64.wrap (s5.1 + (bitShr .u64 q3 32)), IntKind.u64.wrap (s5.2 - 1))))) else (some (.inl (IntKind.u64.wrap (s5.1 + (bitShr .u64 q3 32)), IntKind.u64.wrap (s5.2 - 1))))) else (some (.inr (.inl (s5.1, s5.2))))
noncomputable def q170 (hi : Int) (lo : Int) (y : Int) : Option (Int × Int) :=
  Option.bind (bif (y == 0) then none else (some ())) fun (_ : Unit) => Option.bind (bif (decide (y ≤ hi)) then none else (some ())) fun (_ : Unit) => bif (hi == 0) then (Option.bind (quoM .u64 lo y) fun q => Option.bind (remM lo y) fun q2 => some (q, q2)) else (Option.bind (q178 y) fun v => Option.bind (shlM .u64 y (IntKind.u64.wrap v)) fun q3 => Option.bind (shlM .u64 hi (IntKind.u64.wrap v)) fun q4 => Option.bind (shrM .u64 lo (IntKind.u64.wrap (64 - (IntKind.u64.wrap v)))) fun q5 => Option.bind (shlM .u64 lo (IntKind.u64.wrap v)) fun q6 => Option.bind (quoM .u64 (bitOr .u64 q4 q5) (bitShr .u64 q3 32)) fun q7 => Option.bind (loopM (q329 q3 q6) (q7, IntKind.u64.wrap ((bitOr .u64 q4 q5) - (IntKind.u64.wrap (q7 * (bitShr .u64 q3 32)))))) fun (t : (Int × Int) ⊕ Empty) => match t with | .inl s4 => (Option.bind (quoM .u64 (IntKind.u64.wrap ((IntKind.u64.wrap ((IntKind.u64.wrap ((bitOr .u64 q4 q5) * 4294967296)) + (bitShr .u64 q6 32))) - (IntKind.u64.wrap (s4.1 * q3)))) (bitShr .u64 q3 32)) fun q8 => Option.bind (loopM (q338 q3 q6) (IntKind.u64.wrap ((IntKind.u64.wrap ((IntKind.u64.wrap ((IntKind.u64.wrap ((bitOr .u64 q4 q5) * 4294967296)) + (bitShr .u64 q6 32))) - (IntKind.u64.wrap (s4.1 * q3)))) - (IntKind.u64.wrap (q8 * (bitShr .u64 q3 32)))), q8)) fun (t : (Int × Int) ⊕ Empty) => match t with | .inl s6 => (Option.bind (shrM .u64 (IntKind.u64.wrap ((IntKind.u64.wrap ((IntKind.u64.wrap ((IntKind.u64.wrap ((IntKind.u64.wrap ((IntKind.u64.wrap ((bitOr .u64 q4 q5) * 4294967296)) + (bitShr .u64 q6 32))) - (IntKind.u64.wrap (s4.1 * q3)))) * 4294967296)) + (bitAnd .u64 q6 4294967295))) - (IntKind.u64.wrap (s6.2 * q3)))) (IntKind.u64.wrap v)) fun q9 => some (IntKind.u64.wrap ((IntKind.u64.wrap (s4.1 * 4294967296)) + s6.2), q9)) | .inr r => r.elim) | .inr r => r.elim)
noncomputable def q126 (r2 : Int) (c : Int) (negative : Bool) (mode : Int) : Option Bool :=
  bif (mode == 1) then (some (negative && (decide (r2 > 0)))) else (bif (mode == 2) then (some ((!negative) && (decide (r2 > 0)))) else (bif negative then (some (decide (r2 > (IntKind.u64.wrap (c - r2))))) else (some (decide (r2 ≥ (IntKind.u64.wrap (c - r2)))))))
noncomputable def q229 (a : Int) (b2 : Int) (c : Int) (mode : Int) : Option (Int × Int) :=
  bif ((decide (mode < 1)) || (decide (mode > 3))) then (some (0, 1)) else (bif (c == 0) then (some (0, 10)) else (Option.bind (q104 a) fun v => Option.bind (q104 b2) fun v2 => Option.bind (q228 v v2) fun r2 => Option.bind (q104 c) fun v3 => bif (decide (r2.1 ≥ v3)) then (some (0, 9)) else (Option.bind (q170 r2.1 r2.2 v3) fun r3 => bif (decide (r3.1 > 9223372036854775808)) then (some (0, 9)) else (Option.bind (q126 r3.2 v3 (!((!((decide (a < 0)) == (decide (b2 < 0)))) == (decide (c < 0)))) mode) fun v4 => Option.bind (bif v4 then (some (IntKind.u64.wrap (r3.1 + 1))) else (some r3.1)) fun (q : Int) => bif ((!((!((decide (a < 0)) == (decide (b2 < 0)))) == (decide (c < 0)))) && (decide (q ≤ 9223372036854775808))) then (some (w64 ((w64 (0 - (w64 (IntKind.u64.wrap (q - 1))))) - 1), 0)) else (bif ((!(!((!((decide (a < 0)) == (decide (b2 < 0)))) == (decide (c < 0))))) && (decide (q < 9223372036854775808))) then (some (w64 q, 0)) else (some (0, 9)))))))
noncomputable def q330 (a : Int) (b2 : Int) (mode : Int) : Option (Int × Int) :=
  Option.bind (q229 a 1 b2 mode) fun r2 => some (r2.1, r2.2)
noncomputable def q373 (a : Int) (b2 : Int) : Option Int :=
  Option.bind (q330 a b2 2) fun r2 => some r2.1
noncomputable def q248 (c : SClock) (units : Int) : Option (Int × Int) :=
  Option.bind (q286 c) fun v => bif (v != 0) then (some (0, v)) else (bif ((decide (units < 0)) || (decide (units > 46080))) then (some (0, 2)) else (Option.bind (q373 (w64 (units * c.Period)) c.Space) fun v2 => some (v2, 0)))
noncomputable def q80 (f2 : SFire) (c : Int) : Option Bool :=
  some (f2.Cylinder == c)
noncomputable def q125 (f2 : SFire) : Option Int :=
  bif (f2.Inject == 0) then (some 0) else (bif (f2.Extra == 0) then (some 1) else (some 2))
noncomputable def q127 (f2 : SFire) (c : SEngine) : Option Bool :=
  Option.bind (q117 c f2) fun v => some (!v)
noncomputable def q158 (g : SFire) (c : SFire) : Option Bool :=
  some (g.Cylinder == c.Cylinder)
noncomputable def q63 (v_at : Int) (kind : Int) (pulse : Int) (c : List SEvent) (c2 : SFire) : Option (List SEvent) :=
  Option.bind (Option.bind (q250 v_at 46080) fun v => Option.bind (appendM c ([(⟨v, kind, c2.Cylinder, pulse⟩ : SEvent)] : List SEvent)) fun l => some l) fun (f2 : List SEvent) => some f2
noncomputable def q41 (d : Int) (c : Int) : Option Int :=
  Option.bind (quoM .i64 (w64 (d * 23040)) c) fun q => some q
noncomputable def q94 (s : List SEvent) (f : SEvent → SEvent → Option Int) : Option (List SEvent) :=
  sortM f s
noncomputable def q100 (a : SEvent) (b2 : SEvent) : Option Int :=
  Option.bind (q28 a.Angle b2.Angle) fun v => Option.bind (q28 a.Cylinder b2.Cylinder) fun v2 => Option.bind (q28 a.Kind b2.Kind) fun v3 => Option.bind (q28 a.Pulse b2.Pulse) fun v4 => Option.bind (q96 ([v, v2, v3, v4] : List Int)) fun v5 => some v5
noncomputable def q239 (l : List SFire) (i : Int) (_ : Unit) : Option (Fl Unit (List SEvent × Int)) :=
  Option.bind (getI l i) fun x => Option.bind (sliceM l 0 i) fun l2 => Option.bind (q26 l2 (fun x0 => q158 x0 x)) fun v4 => bif v4 then (some (.ret (([] : List SEvent), 8))) else (some (.next ()))
noncomputable def q181 (e2 : SEngine) (ticks : Int) (_ : Int) (x2 : SFire) (f2 : List SEvent) : Option (Fl (List SEvent) (List SEvent × Int)) :=
  Option.bind (q163 e2 x2.Cylinder) fun r2 => Option.bind (q63 (w64 (r2.1 - x2.Spark)) 2 0 f2 x2) fun v5 => Option.bind (q41 x2.Dwell ticks) fun v6 => Option.bind (q63 (w64 ((w64 (r2.1 - x2.Spark)) - (minI v6 23040))) 1 0 v5 x2) fun v7 => Option.bind (q41 x2.Inject ticks) fun v8 => Option.bind (q41 x2.Gap ticks) fun v9 => Option.bind (q41 x2.Extra ticks) fun v10 => bif (decide ((maxI (maxI v8 v9) v10) > 23040)) then (some (.ret (([] : List SEvent), 2))) else (Option.bind (q125 x2) fun v11 => Option.bind (bif (decide (v11 > 0)) then (Option.bind (q63 (w64 (r2.1 - x2.End)) 4 1 v7 x2) fun v12 => Option.bind (q41 x2.Inject ticks) fun v13 => Option.bind (q63 (w64 ((w64 (r2.1 - x2.End)) - v13)) 3 1 v12 x2) fun v14 => some v14) else (some v7)) fun (f3 : List SEvent) => Option.bind (q125 x2) fun v15 => bif (decide (v15 > 1)) then (Option.bind (q41 x2.Gap ticks) fun v16 => Option.bind (q63 (w64 ((w64 (r2.1 - x2.End)) + v16)) 3 2 f3 x2) fun v17 => Option.bind (Option.bind (q41 x2.Gap ticks) fun v18 => Option.bind (q41 x2.Extra ticks) fun v19 => Option.bind (q63 (w64 ((w64 ((w64 (r2.1 - x2.End)) + v18)) + v19)) 4 2 v17 x2) fun v20 => some v20) fun (f4 : List SEvent) => some (.next f4)) else (some (.next f3)))
noncomputable def q246 (e2 : SEngine) (l : List SFire) (ticks : Int) : Option (List SEvent × Int) :=
  Option.bind (q74 e2) fun v => Option.bind (bif (!v) then (some true) else (Option.bind (q26 l (fun x0 => q127 x0 e2)) fun v2 => some v2)) fun b2 => bif b2 then (some (([] : List SEvent), 1)) else (Option.bind (q52 ticks 4000 1000000) fun v3 => bif (!v3) then (some (([] : List SEvent), 2)) else (Option.bind (rangeN (l.length : Int) (q239 l) ()) fun (t : Unit ⊕ (List SEvent × Int)) => match t with | .inl _ => (Option.bind (rangeM l (q181 e2 ticks) ([] : List SEvent)) fun (t : (List SEvent) ⊕ (List SEvent × Int)) => match t with | .inl f5 => (Option.bind (q94 f5 q100) fun v21 => some (v21, 0)) | .inr r3 => some r3) | .inr r4 => some r4))
noncomputable def q21 (a : Int) (cmp : Sscheduler_planned → Sscheduler_planned → Option Int) (s2 : Int × List Sscheduler_planned) : Option ((Int × List Sscheduler_planned) ⊕ ((Int × List Sscheduler_planned) ⊕ Empty)) :=
  Option.bind (bif (decide (s2.1 > a)) then (Option.bind (getI s2.2 s2.1) fun x => Option.bind (getI s2.2 (w64 (s2.1 - 1))) fun x2 => Option.bind (cmp x x2) fun v => some (decide (v < 0))) else (some false)) fun (v2 : Bool) => bif v2 then (Option.bind (Option.bind (getI s2.2 (w64 (s2.1 - 1))) fun x3 => Option.bind (getI s2.2 s2.1) fun x4 => Option.bind (setM s2.2 s2.1 x3) fun l => Option.bind (getI l (w64 (s2.1 - 1))) fun _ => Option.bind (setM l (w64 (s2.1 - 1)) x4) fun l2 => some l2) fun (f2 : List Sscheduler_planned) => some (.inl (w64 (s2.1 - 1), f2))) else (some (.inr (.inl (s2.1, s2.2))))
noncomputable def q18 (a : Int) (b2 : Int) (cmp : Sscheduler_planned → Sscheduler_planned → Option Int) (s : Int × List Sscheduler_planned) : Option ((Int × List Sscheduler_planned) ⊕ ((Int × List Sscheduler_planned) ⊕ Empty)) :=
  bif (decide (s.1 < b2)) then (Option.bind (loopM (q21 a cmp) (s.1, s.2)) fun (t : (Int × List Sscheduler_planned) ⊕ Empty) => match t with | .inl s3 => (some (.inl (w64 (s.1 + 1), s3.2))) | .inr r => r.elim) else (some (.inr (.inl (s.1, s.2))))
noncomputable def q22 (data : List Sscheduler_planned) (a : Int) (b2 : Int) (cmp : Sscheduler_planned → Sscheduler_planned → Option Int) : Option (List Sscheduler_planned) :=
  Option.bind (loopM (q18 a b2 cmp) (w64 (a + 1), data)) fun (t : (Int × List Sscheduler_planned) ⊕ Empty) => match t with | .inl s4 => (some s4.2) | .inr r => r.elim
noncomputable def q139 (a : Int) (b2 : Int) (n2 : Int) (s : Int × List Sscheduler_planned) : Option ((Int × List Sscheduler_planned) ⊕ ((Int × List Sscheduler_planned) ⊕ Empty)) :=
  bif (decide (s.1 < n2)) then (Option.bind (Option.bind (getI s.2 (w64 (b2 + s.1))) fun x => Option.bind (getI s.2 (w64 (a + s.1))) fun x2 => Option.bind (setM s.2 (w64 (a + s.1)) x) fun l => Option.bind (getI l (w64 (b2 + s.1))) fun _ => Option.bind (setM l (w64 (b2 + s.1)) x2) fun l2 => some l2) fun (f2 : List Sscheduler_planned) => some (.inl (w64 (s.1 + 1), f2))) else (some (.inr (.inl (s.1, s.2))))
noncomputable def q29 (data : List Sscheduler_planned) (a : Int) (b2 : Int) (n2 : Int) (_ : Sscheduler_planned → Sscheduler_planned → Option Int) : Option (List Sscheduler_planned) :=
  Option.bind (loopM (q139 a b2 n2) (0, data)) fun (t : (Int × List Sscheduler_planned) ⊕ Empty) => match t with | .inl s2 => (some s2.2) | .inr r => r.elim
noncomputable def q154 (m2 : Int) (cmp : Sscheduler_planned → Sscheduler_planned → Option Int) (s : Int × Int × List Sscheduler_planned) : Option ((Int × Int × List Sscheduler_planned) ⊕ ((Int × Int × List Sscheduler_planned) ⊕ Empty)) :=
  bif (s.1 != s.2.1) then (bif (decide (s.1 > s.2.1)) then (Option.bind (q29 s.2.2 (w64 (m2 - s.1)) m2 s.2.1 cmp) fun v => some (.inl (w64 (s.1 - s.2.1), s.2.1, v))) else (Option.bind (q29 s.2.2 (w64 (m2 - s.1)) (w64 ((w64 (m2 + s.2.1)) - s.1)) s.1 cmp) fun v2 => some (.inl (s.1, w64 (s.2.1 - s.1), v2)))) else (some (.inr (.inl (s.1, s.2.1, s.2.2))))
noncomputable def q89 (data : List Sscheduler_planned) (a : Int) (m2 : Int) (b2 : Int) (cmp : Sscheduler_planned → Sscheduler_planned → Option Int) : Option (List Sscheduler_planned) :=
  Option.bind (loopM (q154 m2 cmp) (w64 (m2 - a), w64 (b2 - m2), data)) fun (t : (Int × Int × List Sscheduler_planned) ⊕ Empty) => match t with | .inl s2 => (Option.bind (q29 s2.2.2 (w64 (m2 - s2.1)) m2 s2.1 cmp) fun v3 => some v3) | .inr r => r.elim
noncomputable def q141 (data : List Sscheduler_planned) (a : Int) (cmp : Sscheduler_planned → Sscheduler_planned → Option Int) (s : Int × Int) : Option ((Int × Int) ⊕ ((Int × Int) ⊕ Empty)) :=
  bif (decide (s.1 < s.2)) then (Option.bind (getI data (w64 (bitShr .u64 (IntKind.u64.wrap (w64 (s.1 + s.2))) 1))) fun x => Option.bind (getI data a) fun x2 => Option.bind (cmp x x2) fun v => bif (decide (v < 0)) then (some (.inl (w64 ((w64 (bitShr .u64 (IntKind.u64.wrap (w64 (s.1 + s.2))) 1)) + 1), s.2))) else (some (.inl (s.1, w64 (bitShr .u64 (IntKind.u64.wrap (w64 (s.1 + s.2))) 1))))) else (some (.inr (.inl (s.1, s.2))))
noncomputable def q144 (s2 : Int × Int) (s3 : Int × List Sscheduler_planned) : Option ((Int × List Sscheduler_planned) ⊕ ((Int × List Sscheduler_planned) ⊕ Empty)) :=
  bif (decide (s3.1 < (w64 (s2.1 - 1)))) then (Option.bind (Option.bind (getI s3.2 (w64 (s3.1 + 1))) fun x3 => Option.bind (getI s3.2 s3.1) fun x4 => Option.bind (setM s3.2 s3.1 x3) fun l => Option.bind (getI l (w64 (s3.1 + 1))) fun _ => Option.bind (setM l (w64 (s3.1 + 1)) x4) fun l2 => some l2) fun (f2 : List Sscheduler_planned) => some (.inl (w64 (s3.1 + 1), f2))) else (some (.inr (.inl (s3.1, s3.2))))
noncomputable def q142 (data : List Sscheduler_planned) (m2 : Int) (cmp : Sscheduler_planned → Sscheduler_planned → Option Int) (s5 : Int × Int) : Option ((Int × Int) ⊕ ((Int × Int) ⊕ Empty)) :=
  bif (decide (s5.1 < s5.2)) then (Option.bind (getI data m2) fun x6 => Option.bind (getI data (w64 (bitShr .u64 (IntKind.u64.wrap (w64 (s5.1 + s5.2))) 1))) fun x7 => Option.bind (cmp x6 x7) fun v2 => bif (!(decide (v2 < 0))) then (some (.inl (w64 ((w64 (bitShr .u64 (IntKind.u64.wrap (w64 (s5.1 + s5.2))) 1)) + 1), s5.2))) else (some (.inl (s5.1, w64 (bitShr .u64 (IntKind.u64.wrap (w64 (s5.1 + s5.2))) 1))))) else (some (.inr (.inl (s5.1, s5.2))))
noncomputable def q143 (s6 : Int × Int) (s7 : Int × List Sscheduler_planned) : Option ((Int × List Sscheduler_planned) ⊕ ((Int × List Sscheduler_planned) ⊕ Empty)) :=
  bif (decide (s7.1 > s6.1)) then (Option.bind (Option.bind (getI s7.2 (w64 (s7.1 - 1))) fun x8 => Option.bind (getI s7.2 s7.1) fun x9 => Option.bind (setM s7.2 s7.1 x8) fun l3 => Option.bind (getI l3 (w64 (s7.1 - 1))) fun _ => Option.bind (setM l3 (w64 (s7.1 - 1)) x9) fun l4 => some l4) fun (f3 : List Sscheduler_planned) => some (.inl (w64 (s7.1 - 1), f3))) else (some (.inr (.inl (s7.1, s7.2))))
noncomputable def q140 (data : List Sscheduler_planned) (a : Int) (m2 : Int) (b2 : Int) (cmp : Sscheduler_planned → Sscheduler_planned → Option Int) (s10 : Int × Int) : Option ((Int × Int) ⊕ ((Int × Int) ⊕ Empty)) :=
  bif (decide (s10.1 < s10.2)) then (Option.bind (getI data (w64 ((w64 ((w64 ((w64 (bitShr .u64 (IntKind.u64.wrap (w64 (a + b2))) 1)) + m2)) - 1)) - (w64 (bitShr .u64 (IntKind.u64.wrap (w64 (s10.1 + s10.2))) 1))))) fun x11 => Option.bind (getI data (w64 (bitShr .u64 (IntKind.u64.wrap (w64 (s10.1 + s10.2))) 1))) fun x12 => Option.bind (cmp x11 x12) fun v3 => bif (!(decide (v3 < 0))) then (some (.inl (w64 ((w64 (bitShr .u64 (IntKind.u64.wrap (w64 (s10.1 + s10.2))) 1)) + 1), s10.2))) else (some (.inl (s10.1, w64 (bitShr .u64 (IntKind.u64.wrap (w64 (s10.1 + s10.2))) 1))))) else (some (.inr (.inl (s10.1, s10.2))))
noncomputable def q66 (rc : List Sscheduler_planned → Int → Int → Int → (Sscheduler_planned → Sscheduler_planned → Option Int) → Option (List Sscheduler_planned)) (data : List Sscheduler_planned) (a : Int) (m2 : Int) (b2 : Int) (cmp : Sscheduler_planned → Sscheduler_planned → Option Int) : Option (List Sscheduler_planned) :=
  bif ((w64 (m2 - a)) == 1) then (Option.bind (loopM (q141 data a cmp) (m2, b2)) fun (t : (Int × Int) ⊕ Empty) => match t with | .inl s2 => (Option.bind (loopM (q144 s2) (a, data)) fun (t : (Int × List Sscheduler_planned) ⊕ Empty) => match t with | .inl s4 => (some s4.2) | .inr r => r.elim) | .inr r => r.elim) else (bif ((w64 (b2 - m2)) == 1) then (Option.bind (loopM (q142 data m2 cmp) (a, m2)) fun (t : (Int × Int) ⊕ Empty) => match t with | .inl s6 => (Option.bind (loopM (q143 s6) (m2, data)) fun (t : (Int × List Sscheduler_planned) ⊕ Empty) => match t with | .inl s8 => (some s8.2) | .inr r => r.elim) | .inr r => r.elim) else (Option.bind (bif (decide (m2 > (w64 (bitShr .u64 (IntKind.u64.wrap (w64 (a + b2))) 1)))) then (some (w64 ((w64 ((w64 (bitShr .u64 (IntKind.u64.wrap (w64 (a + b2))) 1)) + m2)) - b2), w64 (bitShr .u64 (IntKind.u64.wrap (w64 (a + b2))) 1))) else (some (a, m2))) fun (s9 : Int × Int) => Option.bind (loopM (q140 data a m2 b2 cmp) (s9.1, s9.2)) fun (t : (Int × Int) ⊕ Empty) => match t with | .inl s11 => (Option.bind (bif ((decide (s11.1 < m2)) && (decide (m2 < (w64 ((w64 ((w64 (bitShr .u64 (IntKind.u64.wrap (w64 (a + b2))) 1)) + m2)) - s11.1))))) then (Option.bind (q89 data s11.1 m2 (w64 ((w64 ((w64 (bitShr .u64 (IntKind.u64.wrap (w64 (a + b2))) 1)) + m2)) - s11.1)) cmp) fun v4 => some v4) else (some data)) fun (f4 : List Sscheduler_planned) => Option.bind (bif ((decide (a < s11.1)) && (decide (s11.1 < (w64 (bitShr .u64 (IntKind.u64.wrap (w64 (a + b2))) 1))))) then (Option.bind (rc f4 a s11.1 (w64 (bitShr .u64 (IntKind.u64.wrap (w64 (a + b2))) 1)) cmp) fun v5 => some v5) else (some f4)) fun (f5 : List Sscheduler_planned) => bif ((decide ((w64 (bitShr .u64 (IntKind.u64.wrap (w64 (a + b2))) 1)) < (w64 ((w64 ((w64 (bitShr .u64 (IntKind.u64.wrap (w64 (a + b2))) 1)) + m2)) - s11.1)))) && (decide ((w64 ((w64 ((w64 (bitShr .u64 (IntKind.u64.wrap (w64 (a + b2))) 1)) + m2)) - s11.1)) < b2))) then (Option.bind (rc f5 (w64 (bitShr .u64 (IntKind.u64.wrap (w64 (a + b2))) 1)) (w64 ((w64 ((w64 (bitShr .u64 (IntKind.u64.wrap (w64 (a + b2))) 1)) + m2)) - s11.1)) b2 cmp) fun v6 => some v6) else (some f5)) | .inr r => r.elim))
noncomputable def q19 : Nat → List Sscheduler_planned → Int → Int → Int → (Sscheduler_planned → Sscheduler_planned → Option Int) → Option (List Sscheduler_planned)
  | 0 => fun _ _ _ _ _ => none
  | fu + 1 => q66 (q19 fu)
noncomputable def q71 (n2 : Int) (cmp : Sscheduler_planned → Sscheduler_planned → Option Int) (s : Int × Int × List Sscheduler_planned) : Option ((Int × Int × List Sscheduler_planned) ⊕ ((Int × Int × List Sscheduler_planned) ⊕ Empty)) :=
  bif (decide (s.2.1 ≤ n2)) then (Option.bind (q22 s.2.2 s.1 s.2.1 cmp) fun v => some (.inl (s.2.1, w64 (s.2.1 + 20), v))) else (some (.inr (.inl (s.1, s.2.1, s.2.2))))
noncomputable def q153 (n2 : Int) (cmp : Sscheduler_planned → Sscheduler_planned → Option Int) (s3 : Int × List Sscheduler_planned) (s4 : Int × Int × List Sscheduler_planned) : Option ((Int × Int × List Sscheduler_planned) ⊕ ((Int × Int × List Sscheduler_planned) ⊕ Empty)) :=
  bif (decide (s4.2.1 ≤ n2)) then (Option.bind (q19 64 s4.2.2 s4.1 (w64 (s4.1 + s3.1)) s4.2.1 cmp) fun v3 => some (.inl (s4.2.1, w64 (s4.2.1 + (w64 (2 * s3.1))), v3))) else (some (.inr (.inl (s4.1, s4.2.1, s4.2.2))))
noncomputable def q72 (n2 : Int) (cmp : Sscheduler_planned → Sscheduler_planned → Option Int) (s3 : Int × List Sscheduler_planned) : Option ((Int × List Sscheduler_planned) ⊕ ((Int × List Sscheduler_planned) ⊕ Empty)) :=
  bif (decide (s3.1 < n2)) then (Option.bind (loopM (q153 n2 cmp s3) (0, w64 (2 * s3.1), s3.2)) fun (t : (Int × Int × List Sscheduler_planned) ⊕ Empty) => match t with | .inl s5 => (bif (decide ((w64 (s5.1 + s3.1)) < n2)) then (Option.bind (q19 64 s5.2.2 s5.1 (w64 (s5.1 + s3.1)) n2 cmp) fun v4 => some (.inl (w64 (s3.1 * 2), v4))) else (some (.inl (w64 (s3.1 * 2), s5.2.2)))) | .inr r => r.elim) else (some (.inr (.inl (s3.1, s3.2))))
noncomputable def q45 (data : List Sscheduler_planned) (n2 : Int) (cmp : Sscheduler_planned → Sscheduler_planned → Option Int) : Option (List Sscheduler_planned) :=
  Option.bind (loopM (q71 n2 cmp) (0, 20, data)) fun (t : (Int × Int × List Sscheduler_planned) ⊕ Empty) => match t with | .inl s2 => (Option.bind (q22 s2.2.2 s2.1 n2 cmp) fun v2 => Option.bind (loopM (q72 n2 cmp) (20, v2)) fun (t : (Int × List Sscheduler_planned) ⊕ Empty) => match t with | .inl s6 => (some s6.2) | .inr r => r.elim) | .inr r => r.elim
noncomputable def q25 (x : List Sscheduler_planned) (cmp : Sscheduler_planned → Sscheduler_planned → Option Int) : Option (List Sscheduler_planned) :=
  Option.bind (q45 x (x.length : Int) cmp) fun v => some v
noncomputable def q93 (a : Sscheduler_planned) (b2 : Sscheduler_planned) : Option Int :=
  Option.bind (q28 a.f_at b2.f_at) fun v => Option.bind (q34 a.x) fun v2 => Option.bind (q34 b2.x) fun v3 => Option.bind (q28 v2 v3) fun v4 => Option.bind (q96 ([v, v4] : List Int)) fun v5 => some v5
noncomputable def q147 (begin : Int) (_ : Int) (x : SEvent) (out : List Sscheduler_planned) : Option (Fl (List Sscheduler_planned) Empty) :=
  Option.bind (Option.bind (q57 begin x.Angle) fun v => Option.bind (appendM out ([(⟨x, v⟩ : Sscheduler_planned)] : List Sscheduler_planned)) fun l => some l) fun (f3 : List Sscheduler_planned) => some (.next f3)
noncomputable def q54 (x2 : (Int × Int)) (_ : Int) (x3 : Sscheduler_planned) (s : Int × Int × Int) : Option (Fl (Int × Int × Int) (List Sscheduler_planned × Bool)) :=
  bif ((x3.x.Kind != x2.1) && (x3.x.Kind != x2.2)) then (some (.next (s.1, s.2.1, s.2.2))) else (bif (((x3.x.Kind != s.2.2) || (decide (x3.f_at ≤ s.1))) || (decide (x3.x.Pulse < s.2.1))) then (some (.ret (([] : List Sscheduler_planned), false))) else (some (.next (x3.f_at, x3.x.Pulse, w64 ((w64 (x2.1 + x2.2)) - s.2.2)))))
noncomputable def q44 (v2 : List Sscheduler_planned) (v3 : Int) : Option (Int ⊕ (Int ⊕ (List Sscheduler_planned × Bool))) :=
  bif (decide (v3 < 2)) then (Option.bind (getI ([(1, 2), (3, 4)] : List (Int × Int)) v3) fun x2 => Option.bind (rangeM v2 (q54 x2) ((-1), 0, x2.1)) fun (t : (Int × Int × Int) ⊕ (List Sscheduler_planned × Bool)) => match t with | .inl _ => (some (.inl (w64 (v3 + 1)))) | .inr r3 => some (.inr (.inr r3))) else (some (.inr (.inl v3)))
noncomputable def q184 (e2 : SEngine) (f2 : SFire) (begin : Int) (ticks : Int) : Option (List Sscheduler_planned × Bool) :=
  Option.bind (q246 e2 ([f2] : List SFire) ticks) fun r2 => bif (r2.2 != 0) then (some (([] : List Sscheduler_planned), false)) else (Option.bind (rangeM r2.1 (q147 begin) ([] : List Sscheduler_planned)) fun (t : (List Sscheduler_planned) ⊕ Empty) => match t with | .inl out2 => (Option.bind (q25 out2 q93) fun v2 => Option.bind (loopM (q44 v2) 0) fun (t : Int ⊕ (List Sscheduler_planned × Bool)) => match t with | .inl _ => (some (v2, true)) | .inr r4 => some r4) | .inr r => r.elim)
noncomputable def q135 (v : Int) (_ : Int) (x3 : Sscheduler_planned) (f3 : List SJob) : Option (Fl (List SJob) Empty) :=
  Option.bind (Option.bind (appendM f3 ([(⟨x3.x, w64 (v + x3.f_at), false, 0⟩ : SJob)] : List SJob)) fun l => some l) fun (f4 : List SJob) => some (.next f4)
noncomputable def q130 (s : SScheduler) (r2 : Int × Int) (_ : Int) (x : Int) (f2 : List SJob) : Option (Fl (List SJob) Empty) :=
  Option.bind (q159 s.Engine x) fun r3 => Option.bind (q57 s.Clock.Angle (Int.tmod (w64 (r3.1 + 5760)) 46080)) fun v => Option.bind (q24 s.Next (fun x0 => q80 x0 x)) fun v2 => bif ((decide (v ≥ s.Clock.Ahead)) || (decide (v2 < 0))) then (some (.next f2)) else (Option.bind (getI s.Next v2) fun x2 => Option.bind (q184 s.Engine x2 (Int.tmod (w64 (r3.1 + 5760)) 46080) r2.1) fun r4 => bif (!r4.2) then (some (.next f2)) else (Option.bind (rangeM r4.1 (q135 v) f2) fun (t : (List SJob) ⊕ Empty) => match t with | .inl f5 => (some (.next f5)) | .inr r => r.elim))
noncomputable def q129 (s : SScheduler) : Option SScheduler :=
  Option.bind (q248 s.Clock 23040) fun r2 => Option.bind (rangeM s.Engine.Order (q130 s r2) s.Jobs) fun (t : (List SJob) ⊕ Empty) => match t with | .inl f6 => (some (⟨s.Engine, s.Clock, s.Timer, s.Next, f6, s.Cut⟩ : SScheduler)) | .inr r => r.elim
noncomputable def q98 (v4 : Int) (i : Int) (f2 : List SJob) : Option (Fl (List SJob) Empty) :=
  Option.bind (getI f2 i) fun x => Option.bind (setM f2 i (⟨x.Event, maxI (-1048576) (w64 (x.Left - v4)), x.Armed, x.At⟩ : SJob)) fun l => some (.next l)
noncomputable def q30 (s : SScheduler) (c : SClock) : Option (SScheduler × List SSwitch × Int) :=
  Option.bind (q105 s) fun v => Option.bind (bif (!v) then (some true) else (Option.bind (q137 c) fun v2 => some (!v2))) fun b2 => bif b2 then (some ((⟨(⟨([] : List Int), 0⟩ : SEngine), (⟨false, 0, 0, 0, 0, 0⟩ : SClock), (⟨0, ([] : List SChannel)⟩ : STimer), ([] : List SFire), ([] : List SJob), false⟩ : SScheduler), ([] : List SSwitch), 1)) else (bif (!c.Valid) then (some ((⟨(⟨([] : List Int), 0⟩ : SEngine), (⟨false, 0, 0, 0, 0, 0⟩ : SClock), (⟨0, ([] : List SChannel)⟩ : STimer), ([] : List SFire), ([] : List SJob), false⟩ : SScheduler), ([] : List SSwitch), 6)) else (bif (decide (c.At < s.Timer.Now)) then (some ((⟨(⟨([] : List Int), 0⟩ : SEngine), (⟨false, 0, 0, 0, 0, 0⟩ : SClock), (⟨0, ([] : List SChannel)⟩ : STimer), ([] : List SFire), ([] : List SJob), false⟩ : SScheduler), ([] : List SSwitch), 16)) else (Option.bind (q119 s) fun v3 => Option.bind (q152 v3 c.At) fun r2 => Option.bind (bif s.Clock.Valid then (Option.bind (q57 s.Clock.Angle c.Angle) fun v4 => Option.bind (rangeN (r2.2.Jobs.length : Int) (q98 v4) r2.2.Jobs) fun (t : (List SJob) ⊕ Empty) => match t with | .inl f3 => (some f3) | .inr r => r.elim) else (some r2.2.Jobs)) fun (f4 : List SJob) => bif (!r2.2.Cut) then (Option.bind (q129 (⟨(⟨r2.2.Engine.Order, r2.2.Engine.First⟩ : SEngine), c, (⟨r2.2.Timer.Now, r2.2.Timer.Channels⟩ : STimer), r2.2.Next, f4, r2.2.Cut⟩ : SScheduler)) fun v5 => bif (decide ((v5.Jobs.length : Int) > 200)) then (some ((⟨(⟨([] : List Int), 0⟩ : SEngine), (⟨false, 0, 0, 0, 0, 0⟩ : SClock), (⟨0, ([] : List SChannel)⟩ : STimer), ([] : List SFire), ([] : List SJob), false⟩ : SScheduler), ([] : List SSwitch), 5)) else (Option.bind (q164 v5) fun v6 => some (v6, r2.1, 0))) else (some ((⟨(⟨r2.2.Engine.Order, r2.2.Engine.First⟩ : SEngine), c, (⟨r2.2.Timer.Now, r2.2.Timer.Channels⟩ : STimer), r2.2.Next, f4, r2.2.Cut⟩ : SScheduler), r2.1, 0)))))
noncomputable def q277 (n2 : Int) : Option (STimer × Int) :=
  bif ((decide (n2 < 1)) || (decide (n2 > 16))) then (some ((⟨0, ([] : List SChannel)⟩ : STimer), 2)) else (Option.bind (makeM n2 (⟨false, 0, false, false⟩ : SChannel)) fun l => some ((⟨0, l⟩ : STimer), 0))
noncomputable def q188 (s : List Int) : Option (List Int) :=
  Option.bind (appendM ([] : List Int) s) fun l => some l
noncomputable def q336 : Option SClock :=
  some (⟨false, 0, 0, 0, 0, 0⟩ : SClock)
noncomputable def q107 (e2 : SEngine) : Option (SScheduler × Int) :=
  Option.bind (q74 e2) fun v => bif (!v) then (some ((⟨(⟨([] : List Int), 0⟩ : SEngine), (⟨false, 0, 0, 0, 0, 0⟩ : SClock), (⟨0, ([] : List SChannel)⟩ : STimer), ([] : List SFire), ([] : List SJob), false⟩ : SScheduler), 1)) else (Option.bind (q277 (w64 (2 * (e2.Order.length : Int)))) fun r2 => bif (r2.2 != 0) then (some ((⟨(⟨([] : List Int), 0⟩ : SEngine), (⟨false, 0, 0, 0, 0, 0⟩ : SClock), (⟨0, ([] : List SChannel)⟩ : STimer), ([] : List SFire), ([] : List SJob), false⟩ : SScheduler), 1)) else (Option.bind (q188 e2.Order) fun v2 => Option.bind (q336) fun v3 => some ((⟨(⟨v2, e2.First⟩ : SEngine), v3, r2.1, ([] : List SFire), ([] : List SJob), false⟩ : SScheduler), 0)))
noncomputable def q32 (s : SScheduler) (l : List SFire) : Option (SScheduler × Int) :=
  Option.bind (q105 s) fun v => Option.bind (bif (!v) then (some true) else (Option.bind (q133 s.Engine l) fun v2 => some (!v2))) fun b2 => bif b2 then (some ((⟨(⟨([] : List Int), 0⟩ : SEngine), (⟨false, 0, 0, 0, 0, 0⟩ : SClock), (⟨0, ([] : List SChannel)⟩ : STimer), ([] : List SFire), ([] : List SJob), false⟩ : SScheduler), 1)) else (Option.bind (q119 s) fun v3 => Option.bind (q103 l) fun v4 => some ((⟨v3.Engine, v3.Clock, v3.Timer, v4, v3.Jobs, v3.Cut⟩ : SScheduler), 0))
noncomputable def q203 : Option SEngine :=
  some (⟨([1] : List Int), 0⟩ : SEngine)
noncomputable def q99 : Option Bool :=
  Option.bind (q203) fun v => Option.bind (q107 v) fun r2 => Option.bind (q32 (⟨(⟨r2.1.Engine.Order, r2.1.Engine.First⟩ : SEngine), (⟨r2.1.Clock.Valid, r2.1.Clock.At, r2.1.Clock.Angle, r2.1.Clock.Period, r2.1.Clock.Space, r2.1.Clock.Ahead⟩ : SClock), (⟨r2.1.Timer.Now, r2.1.Timer.Channels⟩ : STimer), r2.1.Next, r2.1.Jobs, r2.1.Cut⟩ : SScheduler) ([(⟨1, 640, 2000, 0, 0, 0, 0⟩ : SFire)] : List SFire)) fun r3 => Option.bind (q30 (⟨(⟨r3.1.Engine.Order, r3.1.Engine.First⟩ : SEngine), (⟨r3.1.Clock.Valid, r3.1.Clock.At, r3.1.Clock.Angle, r3.1.Clock.Period, r3.1.Clock.Space, r3.1.Clock.Ahead⟩ : SClock), (⟨r3.1.Timer.Now, r3.1.Timer.Channels⟩ : STimer), r3.1.Next, r3.1.Jobs, r3.1.Cut⟩ : SScheduler) (⟨true, 1000, 5760, 1000, 384, 384⟩ : SClock)) fun r4 => bif ((((r2.2 != 0) || (r3.2 != 0)) || (r4.2.2 != 0)) || ((r4.1.Jobs.length : Int) != 2)) then (some false) else (Option.bind (q30 (⟨(⟨r4.1.Engine.Order, r4.1.Engine.First⟩ : SEngine), (⟨r4.1.Clock.Valid, r4.1.Clock.At, r4.1.Clock.Angle, r4.1.Clock.Period, r4.1.Clock.Space, r4.1.Clock.Ahead⟩ : SClock), (⟨r4.1.Timer.Now, r4.1.Timer.Channels⟩ : STimer), r4.1.Next, r4.1.Jobs, r4.1.Cut⟩ : SScheduler) (⟨true, 2000, 44544, 1000, 384, 384⟩ : SClock)) fun r5 => Option.bind (bif ((r5.2.2 == 0) && ((r5.1.Jobs.length : Int) == 2)) then (Option.bind (getI r5.1.Jobs 0) fun x => some x.Armed) else (some false)) fun b2 => Option.bind (bif b2 then (Option.bind (getI r5.1.Jobs 0) fun x2 => some (x2.At == 2334)) else (some false)) fun b3 => Option.bind (bif b3 then (Option.bind (getI r5.1.Jobs 0) fun x3 => some (x3.Event.Kind == 1)) else (some false)) fun b4 => some b4)
noncomputable def q48 (e2 : SEngine) (cylinder : Int) (i : Int) : Option (Int ⊕ (Int ⊕ Int)) :=
  bif (decide (i < (e2.Order.length : Int))) then (Option.bind (getI e2.Order i) fun x => bif (x == cylinder) then (some (.inr (.inr i))) else (some (.inl (w64 (i + 1))))) else (some (.inr (.inl i)))
noncomputable def q131 (e2 : SEngine) (cylinder : Int) : Option Int :=
  Option.bind (loopM (q48 e2 cylinder) 0) fun (t : Int ⊕ Int) => match t with | .inl _ => (some (-1)) | .inr r2 => some r2
noncomputable def q101 (n2 : Int) : Option Bool :=
  some ((decide (n2 ≥ 200)) && (decide (n2 ≤ 20000)))
noncomputable def q148 (e2 : SEngine) (f2 : SFire) : Option Bool :=
  Option.bind (q131 e2 f2.Cylinder) fun v => bif (((((((decide (v < 0)) || (decide (f2.Spark < (-1280)))) || (decide (f2.Spark > 3840))) || (decide (f2.Dwell < 500))) || (decide (f2.Dwell > 10000))) || (decide (f2.End < 0))) || (decide (f2.End > 23040))) then (some false) else (Option.bind (bif (f2.Inject != 0) then (Option.bind (q101 f2.Inject) fun v2 => some (!v2)) else (some false)) fun b2 => bif b2 then (some false) else (bif ((f2.Gap == 0) && (f2.Extra == 0)) then (some true) else (Option.bind (bif (f2.Inject != 0) then (Option.bind (q101 f2.Gap) fun v3 => some v3) else (some false)) fun b3 => Option.bind (bif b3 then (Option.bind (q101 f2.Extra) fun v4 => some v4) else (some false)) fun b4 => some b4)))
noncomputable def q95 (l : List SFire) (i : Int) (x : SFire) (k : Int) : Option (Int ⊕ (Int ⊕ Bool)) :=
  bif (decide (k < i)) then (Option.bind (getI l k) fun x2 => bif (x2.Cylinder == x.Cylinder) then (some (.inr (.inr false))) else (some (.inl (w64 (k + 1))))) else (some (.inr (.inl k)))
noncomputable def q97 (e2 : SEngine) (l : List SFire) (i : Int) : Option (Int ⊕ (Int ⊕ Bool)) :=
  bif (decide (i < (l.length : Int))) then (Option.bind (getI l i) fun x => Option.bind (q148 e2 x) fun v => bif (!v) then (some (.inr (.inr false))) else (Option.bind (loopM (q95 l i x) 0) fun (t : Int ⊕ Bool) => match t with | .inl _ => (some (.inl (w64 (i + 1)))) | .inr r2 => some (.inr (.inr r2)))) else (some (.inr (.inl i)))
noncomputable def q122 (e2 : SEngine) (l : List SFire) : Option Bool :=
  Option.bind (loopM (q97 e2 l) 0) fun (t : Int ⊕ Bool) => match t with | .inl _ => (some true) | .inr r3 => some r3
noncomputable def q106 (t2 : STimer) (i : Int) : Option (Int ⊕ (Int ⊕ Bool)) :=
  bif (decide (i < (t2.Channels.length : Int))) then (Option.bind (getI t2.Channels i) fun x => Option.bind (bif x.Armed then (some ((decide (x.At ≤ t2.Now)) || (decide (x.At > 1099511627776)))) else (some false)) fun b2 => Option.bind (bif b2 then (some true) else (Option.bind (bif (!x.Armed) then (some ((x.At != 0) || x.Next)) else (some false)) fun b3 => some b3)) fun b4 => bif b4 then (some (.inr (.inr false))) else (some (.inl (w64 (i + 1))))) else (some (.inr (.inl i)))
noncomputable def q251 (t2 : STimer) : Option Bool :=
  bif ((((decide (t2.Now < 0)) || (decide (t2.Now > 1099511627776))) || (decide ((t2.Channels.length : Int) < 1))) || (decide ((t2.Channels.length : Int) > 16))) then (some false) else (Option.bind (loopM (q106 t2) 0) fun (t : Int ⊕ Bool) => match t with | .inl _ => (some true) | .inr r2 => some r2)
noncomputable def q79 (x : SEvent) : Option Int :=
  bif ((x.Kind == 1) || (x.Kind == 2)) then (some (w64 (2 * (w64 (x.Cylinder - 1))))) else (some (w64 ((w64 (2 * (w64 (x.Cylinder - 1)))) + 1)))
noncomputable def q346 (l : List SJob) (channel : Int) (s : List SJob × Int) : Option ((List SJob × Int) ⊕ ((List SJob × Int) ⊕ Empty)) :=
  bif (decide (s.2 < (l.length : Int))) then (Option.bind (getI l s.2) fun x => Option.bind (q79 x.Event) fun v => bif (v == channel) then (Option.bind (appendM s.1 ([x] : List SJob)) fun l2 => some (.inl (l2, w64 (s.2 + 1)))) else (some (.inl (s.1, w64 (s.2 + 1))))) else (some (.inr (.inl (s.1, s.2))))
noncomputable def q538 (l : List SJob) (channel : Int) : Option (List SJob) :=
  Option.bind (loopM (q346 l channel) (([] : List SJob), 0)) fun (t : (List SJob × Int) ⊕ Empty) => match t with | .inl s2 => (some s2.1) | .inr r => r.elim
noncomputable def q282 (kind : Int) : Option Bool :=
  some ((kind == 1) || (kind == 3))
noncomputable def q145 (t2 : STimer) : Option STimer :=
  Option.bind (Option.bind (appendM ([] : List SChannel) t2.Channels) fun l => some (⟨t2.Now, l⟩ : STimer)) fun (f2 : STimer) => some f2
noncomputable def q263 (s : SScheduler) : Option SScheduler :=
  Option.bind (appendM ([] : List Int) s.Engine.Order) fun l => Option.bind (q145 s.Timer) fun v => Option.bind (appendM ([] : List SFire) s.Next) fun l2 => Option.bind (appendM ([] : List SJob) s.Jobs) fun l3 => some (⟨(⟨l, s.Engine.First⟩ : SEngine), s.Clock, v, l2, l3, s.Cut⟩ : SScheduler)
noncomputable def q110 (a : Int) : Option Int :=
  bif (decide (a < 0)) then (some (IntKind.u64.wrap (0 - (IntKind.u64.wrap a)))) else (some (IntKind.u64.wrap a))
noncomputable def q77 (w : Smagnetoref01_Wide) (c : Int) (s : Int × Int × Int) : Option ((Int × Int × Int) ⊕ ((Int × Int × Int) ⊕ Empty)) :=
  bif (decide (s.2.2 ≥ 0)) then (Option.bind (shrM .u64 w.Low (IntKind.u64.wrap s.2.2)) fun q => bif (((bitShr .u64 s.1 63) == 1) || (decide ((IntKind.u64.wrap ((bitShl .u64 s.1 1) + (bitAnd .u64 q 1))) ≥ c))) then (some (.inl (IntKind.u64.wrap ((IntKind.u64.wrap ((bitShl .u64 s.1 1) + (bitAnd .u64 q 1))) - c), IntKind.u64.wrap ((bitShl .u64 s.2.1 1) + 1), w64 (s.2.2 - 1)))) else (some (.inl (IntKind.u64.wrap ((bitShl .u64 s.1 1) + (bitAnd .u64 q 1)), bitShl .u64 s.2.1 1, w64 (s.2.2 - 1))))) else (some (.inr (.inl (s.1, s.2.1, s.2.2))))
noncomputable def q187 (w : Smagnetoref01_Wide) (c : Int) : Option (Int × Int × Bool) :=
  bif (decide (w.High ≥ c)) then (some (0, 0, false)) else (Option.bind (loopM (q77 w c) (w.High, 0, 63)) fun (t : (Int × Int × Int) ⊕ Empty) => match t with | .inl s2 => (some (s2.2.1, s2.1, true)) | .inr r => r.elim)
noncomputable def q174 (a : Int) (b2 : Int) : Option Smagnetoref01_Wide :=
  some (⟨IntKind.u64.wrap ((IntKind.u64.wrap ((IntKind.u64.wrap ((bitShr .u64 a 32) * (bitShr .u64 b2 32))) + (bitShr .u64 (IntKind.u64.wrap ((IntKind.u64.wrap ((bitShr .u64 a 32) * (bitAnd .u64 b2 4294967295))) + (bitShr .u64 (IntKind.u64.wrap ((bitAnd .u64 a 4294967295) * (bitAnd .u64 b2 4294967295))) 32))) 32))) + (bitShr .u64 (IntKind.u64.wrap ((IntKind.u64.wrap ((bitAnd .u64 a 4294967295) * (bitShr .u64 b2 32))) + (bitAnd .u64 (IntKind.u64.wrap ((IntKind.u64.wrap ((bitShr .u64 a 32) * (bitAnd .u64 b2 4294967295))) + (bitShr .u64 (IntKind.u64.wrap ((bitAnd .u64 a 4294967295) * (bitAnd .u64 b2 4294967295))) 32))) 4294967295))) 32)), IntKind.u64.wrap ((bitShl .u64 (IntKind.u64.wrap ((IntKind.u64.wrap ((bitAnd .u64 a 4294967295) * (bitShr .u64 b2 32))) + (bitAnd .u64 (IntKind.u64.wrap ((IntKind.u64.wrap ((bitShr .u64 a 32) * (bitAnd .u64 b2 4294967295))) + (bitShr .u64 (IntKind.u64.wrap ((bitAnd .u64 a 4294967295) * (bitAnd .u64 b2 4294967295))) 32))) 4294967295))) 32) + (bitAnd .u64 (IntKind.u64.wrap ((bitAnd .u64 a 4294967295) * (bitAnd .u64 b2 4294967295))) 4294967295))⟩ : Smagnetoref01_Wide)
noncomputable def q236 (a : Int) (b2 : Int) (c : Int) (mode : Int) : Option (Int × Int) :=
  bif (((mode != 1) && (mode != 2)) && (mode != 3)) then (some (0, 1)) else (bif (c == 0) then (some (0, 10)) else (Option.bind (q110 c) fun v => Option.bind (q110 a) fun v2 => Option.bind (q110 b2) fun v3 => Option.bind (q174 v2 v3) fun v4 => Option.bind (q187 v4 v) fun r2 => bif (!r2.2.2) then (some (0, 9)) else (Option.bind (bif (mode == 1) then (some ((((a != 0) && (b2 != 0)) && (!((!((decide (a < 0)) == (decide (b2 < 0)))) == (decide (c < 0))))) && (decide (r2.2.1 > 0)))) else (bif (mode == 2) then (some ((!(((a != 0) && (b2 != 0)) && (!((!((decide (a < 0)) == (decide (b2 < 0)))) == (decide (c < 0)))))) && (decide (r2.2.1 > 0)))) else (bif (mode == 3) then (Option.bind (bif (decide (r2.2.1 > (IntKind.u64.wrap (v - r2.2.1)))) then (some true) else (some ((r2.2.1 == (IntKind.u64.wrap (v - r2.2.1))) && (!(((a != 0) && (b2 != 0)) && (!((!((decide (a < 0)) == (decide (b2 < 0)))) == (decide (c < 0))))))))) fun b3 => some b3) else (some false)))) fun (away : Bool) => Option.bind (bif away then (bif (r2.1 == 18446744073709551615) then (some (Sum.inr (0, 9))) else (some (Sum.inl (IntKind.u64.wrap (r2.1 + 1))))) else (some (Sum.inl r2.1))) fun (t : Int ⊕ (Int × Int)) => match t with | .inl q => (bif (((a != 0) && (b2 != 0)) && (!((!((decide (a < 0)) == (decide (b2 < 0)))) == (decide (c < 0))))) then (bif (decide (q > 9223372036854775808)) then (some (0, 9)) else (some (w64 (IntKind.u64.wrap (0 - q)), 0))) else (bif (decide (q ≥ 9223372036854775808)) then (some (0, 9)) else (some (w64 q, 0)))) | .inr r3 => some r3)))
noncomputable def q273 (a : Int) (b2 : Int) (mode : Int) : Option (Int × Int) :=
  Option.bind (q236 a 1 b2 mode) fun r2 => some (r2.1, r2.2)
noncomputable def q171 (a : Int) (b2 : Int) : Option Int :=
  Option.bind (q273 a b2 1) fun r2 => some r2.1
noncomputable def q219 (a : Int) (b2 : Int) : Option Int :=
  Option.bind (q171 (w64 (0 - a)) b2) fun v => some (w64 (0 - v))
noncomputable def q67 (s : SScheduler) (channel : Int) (i : Int) : Option (Int ⊕ (Int ⊕ Int)) :=
  bif (decide (i < (s.Jobs.length : Int))) then (Option.bind (getI s.Jobs i) fun x => Option.bind (q79 x.Event) fun v => bif (v == channel) then (some (.inr (.inr i))) else (some (.inl (w64 (i + 1))))) else (some (.inr (.inl i)))
noncomputable def q176 (s : SScheduler) (channel : Int) : Option Int :=
  Option.bind (loopM (q67 s channel) 0) fun (t : Int ⊕ Int) => match t with | .inl _ => (some (-1)) | .inr r2 => some r2
noncomputable def q59 (s : SScheduler) (s2 : Int × List SChannel × List SJob) : Option ((Int × List SChannel × List SJob) ⊕ ((Int × List SChannel × List SJob) ⊕ Empty)) :=
  bif (decide (s2.1 < (s2.2.1.length : Int))) then (Option.bind (q176 (⟨s.Engine, s.Clock, (⟨s.Timer.Now, s2.2.1⟩ : STimer), s.Next, s2.2.2, s.Cut⟩ : SScheduler) s2.1) fun v => Option.bind (bif (decide (v < 0)) then (some true) else (Option.bind (getI s2.2.2 v) fun x => some (decide (x.Left > s.Clock.Ahead)))) fun (v2 : Bool) => bif v2 then (some (.inl (w64 (s2.1 + 1), s2.2.1, s2.2.2))) else (Option.bind (getI s2.2.2 v) fun x2 => Option.bind (q219 (w64 (x2.Left * s.Clock.Period)) s.Clock.Space) fun v3 => bif (decide ((maxI (w64 (s.Clock.At + v3)) (w64 (s.Timer.Now + 1))) ≤ 1099511627776)) then (Option.bind (setM s2.2.2 v (⟨x2.Event, x2.Left, true, x2.At⟩ : SJob)) fun l => Option.bind (setM l v (⟨x2.Event, x2.Left, true, maxI (w64 (s.Clock.At + v3)) (w64 (s.Timer.Now + 1))⟩ : SJob)) fun l2 => Option.bind (q282 x2.Event.Kind) fun v4 => Option.bind (getI s2.2.1 s2.1) fun x3 => Option.bind (setM s2.2.1 s2.1 (⟨true, maxI (w64 (s.Clock.At + v3)) (w64 (s.Timer.Now + 1)), v4, x3.Level⟩ : SChannel)) fun l3 => some (.inl (w64 (s2.1 + 1), l3, l2))) else (some (.inl (w64 (s2.1 + 1), s2.2.1, s2.2.2))))) else (some (.inr (.inl (s2.1, s2.2.1, s2.2.2))))
noncomputable def q205 (s : SScheduler) : Option SScheduler :=
  bif (s.Cut || (!s.Clock.Valid)) then (some s) else (Option.bind (loopM (q59 s) (0, s.Timer.Channels, s.Jobs)) fun (t : (Int × List SChannel × List SJob) ⊕ Empty) => match t with | .inl s3 => (some (⟨s.Engine, s.Clock, (⟨s.Timer.Now, s3.2.1⟩ : STimer), s.Next, s3.2.2, s.Cut⟩ : SScheduler)) | .inr r => r.elim)
noncomputable def q114 (t2 : STimer) (s : Int × Bool × Int) : Option ((Int × Bool × Int) ⊕ ((Int × Bool × Int) ⊕ Empty)) :=
  bif (decide (s.2.2 < (t2.Channels.length : Int))) then (Option.bind (getI t2.Channels s.2.2) fun x => Option.bind (bif x.Armed then (Option.bind (bif (!s.2.1) then (some true) else (some (decide (x.At < s.1)))) fun b2 => some b2) else (some false)) fun b3 => bif b3 then (some (.inl (x.At, true, w64 (s.2.2 + 1)))) else (some (.inl (s.1, s.2.1, w64 (s.2.2 + 1))))) else (some (.inr (.inl (s.1, s.2.1, s.2.2))))
noncomputable def q108 (t2 : STimer) : Option (Int × Bool) :=
  Option.bind (loopM (q114 t2) (0, false, 0)) fun (t : (Int × Bool × Int) ⊕ Empty) => match t with | .inl s2 => (some (s2.1, s2.2.1)) | .inr r => r.elim
noncomputable def q53 (s : List SSwitch × Int × Bool × List SChannel) (s2 : Int × List SChannel × List SSwitch) : Option ((Int × List SChannel × List SSwitch) ⊕ ((Int × List SChannel × List SSwitch) ⊕ Empty)) :=
  bif (decide (s2.1 < (s2.2.1.length : Int))) then (Option.bind (getI s2.2.1 s2.1) fun x => bif ((!x.Armed) || (x.At != s.2.1)) then (some (.inl (w64 (s2.1 + 1), s2.2.1, s2.2.2))) else (Option.bind (bif (!(x.Level == x.Next)) then (Option.bind (appendM s2.2.2 ([(⟨s.2.1, s2.1, x.Next⟩ : SSwitch)] : List SSwitch)) fun l => some l) else (some s2.2.2)) fun (f2 : List SSwitch) => Option.bind (setM s2.2.1 s2.1 (⟨false, 0, false, x.Next⟩ : SChannel)) fun l2 => some (.inl (w64 (s2.1 + 1), l2, f2)))) else (some (.inr (.inl (s2.1, s2.2.1, s2.2.2))))
noncomputable def q38 (v_to : Int) (v : STimer) (s : List SSwitch × Int × Bool × List SChannel) : Option ((List SSwitch × Int × Bool × List SChannel) ⊕ ((List SSwitch × Int × Bool × List SChannel) ⊕ Empty)) :=
  bif (s.2.2.1 && (decide (s.2.1 ≤ v_to))) then (Option.bind (loopM (q53 s) (0, s.2.2.2, s.1)) fun (t : (Int × List SChannel × List SSwitch) ⊕ Empty) => match t with | .inl s3 => (Option.bind (q108 (⟨v.Now, s3.2.1⟩ : STimer)) fun r3 => some (.inl (s3.2.2, r3.1, r3.2, s3.2.1))) | .inr r => r.elim) else (some (.inr (.inl (s.1, s.2.1, s.2.2.1, s.2.2.2))))
noncomputable def q156 (t2 : STimer) (v_to : Int) : Option (STimer × List SSwitch) :=
  Option.bind (q145 t2) fun v => Option.bind (q108 v) fun r2 => Option.bind (loopM (q38 v_to v) (([] : List SSwitch), r2.1, r2.2, v.Channels)) fun (t : (List SSwitch × Int × Bool × List SChannel) ⊕ Empty) => match t with | .inl s4 => (some ((⟨v_to, s4.2.2.2⟩ : STimer), s4.1)) | .inr r => r.elim
noncomputable def q68 (s2 : List SSwitch × SScheduler) (r2 : Int × Bool) (s3 : List SJob × Int) : Option ((List SJob × Int) ⊕ ((List SJob × Int) ⊕ Empty)) :=
  bif (decide (s3.2 < (s2.2.Jobs.length : Int))) then (Option.bind (getI s2.2.Jobs s3.2) fun x => Option.bind (bif (!x.Armed) then (some true) else (some (x.At != r2.1))) fun b2 => bif b2 then (Option.bind (appendM s3.1 ([x] : List SJob)) fun l2 => some (.inl (l2, w64 (s3.2 + 1)))) else (some (.inl (s3.1, w64 (s3.2 + 1))))) else (some (.inr (.inl (s3.1, s3.2))))
noncomputable def q102 (v_to : Int) (s2 : List SSwitch × SScheduler) : Option ((List SSwitch × SScheduler) ⊕ ((List SSwitch × SScheduler) ⊕ Empty)) :=
  Option.bind (q108 (⟨s2.2.Timer.Now, s2.2.Timer.Channels⟩ : STimer)) fun r2 => bif ((!r2.2) || (decide (r2.1 > v_to))) then (some (.inr (.inl (s2.1, (⟨(⟨s2.2.Engine.Order, s2.2.Engine.First⟩ : SEngine), (⟨s2.2.Clock.Valid, s2.2.Clock.At, s2.2.Clock.Angle, s2.2.Clock.Period, s2.2.Clock.Space, s2.2.Clock.Ahead⟩ : SClock), (⟨s2.2.Timer.Now, s2.2.Timer.Channels⟩ : STimer), s2.2.Next, s2.2.Jobs, s2.2.Cut⟩ : SScheduler))))) else (Option.bind (q156 (⟨s2.2.Timer.Now, s2.2.Timer.Channels⟩ : STimer) r2.1) fun r3 => Option.bind (appendM s2.1 r3.2) fun l => Option.bind (loopM (q68 s2 r2) (([] : List SJob), 0)) fun (t : (List SJob × Int) ⊕ Empty) => match t with | .inl s4 => (Option.bind (q205 (⟨(⟨s2.2.Engine.Order, s2.2.Engine.First⟩ : SEngine), (⟨s2.2.Clock.Valid, s2.2.Clock.At, s2.2.Clock.Angle, s2.2.Clock.Period, s2.2.Clock.Space, s2.2.Clock.Ahead⟩ : SClock), r3.1, s2.2.Next, s4.1, s2.2.Cut⟩ : SScheduler)) fun v2 => some (.inl (l, v2))) | .inr r => r.elim)
noncomputable def q51 (w : SWheel) : Option Bool :=
  Option.bind (bif (((((w.Missing == 1) || (w.Missing == 2)) && (decide (w.Teeth ≥ 12))) && (decide (w.Teeth ≤ 120))) && (decide (w.Teeth ≥ (w64 (8 * w.Missing))))) then (Option.bind (remM 23040 w.Teeth) fun q => some (q == 0)) else (some false)) fun b2 => some b2
noncomputable def q65 (e2 : SEngine) (w : SWheel) (period : Int) (v_at : Int) (l : List SFire) : Option Bool :=
  Option.bind (bif ((decide ((e2.Order.length : Int) ≤ 8)) && (decide ((l.length : Int) ≤ 8))) then (Option.bind (q74 e2) fun v => some v) else (some false)) fun b2 => Option.bind (bif b2 then (Option.bind (q122 e2 l) fun v2 => some v2) else (some false)) fun b3 => Option.bind (bif b3 then (Option.bind (q51 w) fun v3 => some v3) else (some false)) fun b4 => some ((((b4 && (decide (period ≥ 20))) && (decide (period ≤ 40000))) && (decide (v_at ≥ 0))) && (decide (v_at ≤ 1073741824)))
noncomputable def q112 (w : SWheel) (period : Int) (v_at : Int) (q : Int) (s : List SClock × Int) (i : Int) (f2 : List SClock) : Option (Fl (List SClock) Empty) :=
  bif (i == (w64 ((w64 (w.Teeth - w.Missing)) - 1))) then (Option.bind (appendM f2 ([(⟨true, w64 (v_at + (w64 ((w64 ((w64 (s.2 * w.Teeth)) + i)) * period))), w64 ((w64 (s.2 * 23040)) + (w64 (i * q))), period, q, w64 ((w64 (w.Missing + 1)) * q)⟩ : SClock)] : List SClock)) fun l => some (.next l)) else (Option.bind (appendM f2 ([(⟨true, w64 (v_at + (w64 ((w64 ((w64 (s.2 * w.Teeth)) + i)) * period))), w64 ((w64 (s.2 * 23040)) + (w64 (i * q))), period, q, q⟩ : SClock)] : List SClock)) fun l2 => some (.next l2))
noncomputable def q39 (w : SWheel) (period : Int) (v_at : Int) (q : Int) (s : List SClock × Int) : Option ((List SClock × Int) ⊕ ((List SClock × Int) ⊕ Empty)) :=
  bif (decide (s.2 < 2)) then (Option.bind (rangeN (w64 (w.Teeth - w.Missing)) (q112 w period v_at q s) s.1) fun (t : (List SClock) ⊕ Empty) => match t with | .inl f3 => (some (.inl (f3, w64 (s.2 + 1)))) | .inr r => r.elim) else (some (.inr (.inl (s.1, s.2))))
noncomputable def q146 (w : SWheel) (period : Int) (v_at : Int) : Option (List SClock) :=
  Option.bind (quoM .i64 23040 w.Teeth) fun q => Option.bind (loopM (q39 w period v_at q) (([] : List SClock), 0)) fun (t : (List SClock × Int) ⊕ Empty) => match t with | .inl s2 => (some s2.1) | .inr r => r.elim
noncomputable def q121 (_ : Int) (x : SClock) (s2 : SScheduler × List SSwitch) : Option (Fl (SScheduler × List SSwitch) (List SSwitch × Bool)) :=
  Option.bind (q30 (⟨(⟨s2.1.Engine.Order, s2.1.Engine.First⟩ : SEngine), (⟨s2.1.Clock.Valid, s2.1.Clock.At, s2.1.Clock.Angle, s2.1.Clock.Period, s2.1.Clock.Space, s2.1.Clock.Ahead⟩ : SClock), (⟨s2.1.Timer.Now, s2.1.Timer.Channels⟩ : STimer), s2.1.Next, s2.1.Jobs, s2.1.Cut⟩ : SScheduler) x) fun r5 => bif (r5.2.2 != 0) then (some (.ret (([] : List SSwitch), false))) else (Option.bind (appendM s2.2 r5.2.1) fun l2 => some (.next ((⟨(⟨r5.1.Engine.Order, r5.1.Engine.First⟩ : SEngine), (⟨r5.1.Clock.Valid, r5.1.Clock.At, r5.1.Clock.Angle, r5.1.Clock.Period, r5.1.Clock.Space, r5.1.Clock.Ahead⟩ : SClock), (⟨r5.1.Timer.Now, r5.1.Timer.Channels⟩ : STimer), r5.1.Next, r5.1.Jobs, r5.1.Cut⟩ : SScheduler), l2)))
noncomputable def q123 (w : SWheel) (period : Int) (v_at : Int) (cycles : Int) (i : Int) (s : List SSwitch × SScheduler) : Option (Fl (List SSwitch × SScheduler) (List SSwitch × Bool)) :=
  Option.bind (bif (i == cycles) then (Option.bind (q32 (⟨(⟨s.2.Engine.Order, s.2.Engine.First⟩ : SEngine), (⟨s.2.Clock.Valid, s.2.Clock.At, s.2.Clock.Angle, s.2.Clock.Period, s.2.Clock.Space, s.2.Clock.Ahead⟩ : SClock), (⟨s.2.Timer.Now, s.2.Timer.Channels⟩ : STimer), s.2.Next, s.2.Jobs, s.2.Cut⟩ : SScheduler) ([] : List SFire)) fun r4 => bif (r4.2 != 0) then (some (Sum.inr (([] : List SSwitch), false))) else (some (Sum.inl (⟨(⟨r4.1.Engine.Order, r4.1.Engine.First⟩ : SEngine), (⟨r4.1.Clock.Valid, r4.1.Clock.At, r4.1.Clock.Angle, r4.1.Clock.Period, r4.1.Clock.Space, r4.1.Clock.Ahead⟩ : SClock), (⟨r4.1.Timer.Now, r4.1.Timer.Channels⟩ : STimer), r4.1.Next, r4.1.Jobs, r4.1.Cut⟩ : SScheduler)))) else (some (Sum.inl (⟨(⟨s.2.Engine.Order, s.2.Engine.First⟩ : SEngine), (⟨s.2.Clock.Valid, s.2.Clock.At, s.2.Clock.Angle, s.2.Clock.Period, s.2.Clock.Space, s.2.Clock.Ahead⟩ : SClock), (⟨s.2.Timer.Now, s.2.Timer.Channels⟩ : STimer), s.2.Next, s.2.Jobs, s.2.Cut⟩ : SScheduler)))) fun (t : SScheduler ⊕ (List SSwitch × Bool)) => match t with | .inl f2 => (Option.bind (q146 w period (w64 (v_at + (w64 ((w64 ((w64 (2 * i)) * w.Teeth)) * period))))) fun v => Option.bind (rangeM v (q121) (f2, s.1)) fun (t : (SScheduler × List SSwitch) ⊕ (List SSwitch × Bool)) => match t with | .inl s3 => (some (.next (s3.2, (⟨(⟨s3.1.Engine.Order, s3.1.Engine.First⟩ : SEngine), (⟨s3.1.Clock.Valid, s3.1.Clock.At, s3.1.Clock.Angle, s3.1.Clock.Period, s3.1.Clock.Space, s3.1.Clock.Ahead⟩ : SClock), (⟨s3.1.Timer.Now, s3.1.Timer.Channels⟩ : STimer), s3.1.Next, s3.1.Jobs, s3.1.Cut⟩ : SScheduler)))) | .inr r6 => some (.ret r6)) | .inr r7 => some (.ret r7)
noncomputable def q118 (e2 : SEngine) (w : SWheel) (period : Int) (v_at : Int) (cycles : Int) (l : List SFire) : Option (List SSwitch × Bool) :=
  Option.bind (q107 e2) fun r2 => bif (r2.2 != 0) then (some (([] : List SSwitch), false)) else (Option.bind (q32 (⟨(⟨r2.1.Engine.Order, r2.1.Engine.First⟩ : SEngine), (⟨r2.1.Clock.Valid, r2.1.Clock.At, r2.1.Clock.Angle, r2.1.Clock.Period, r2.1.Clock.Space, r2.1.Clock.Ahead⟩ : SClock), (⟨r2.1.Timer.Now, r2.1.Timer.Channels⟩ : STimer), r2.1.Next, r2.1.Jobs, r2.1.Cut⟩ : SScheduler) l) fun r3 => bif (r3.2 != 0) then (some (([] : List SSwitch), false)) else (Option.bind (rangeN (w64 (cycles + 2)) (q123 w period v_at cycles) (([] : List SSwitch), (⟨(⟨r3.1.Engine.Order, r3.1.Engine.First⟩ : SEngine), (⟨r3.1.Clock.Valid, r3.1.Clock.At, r3.1.Clock.Angle, r3.1.Clock.Period, r3.1.Clock.Space, r3.1.Clock.Ahead⟩ : SClock), (⟨r3.1.Timer.Now, r3.1.Timer.Channels⟩ : STimer), r3.1.Next, r3.1.Jobs, r3.1.Cut⟩ : SScheduler))) fun (t : (List SSwitch × SScheduler) ⊕ (List SSwitch × Bool)) => match t with | .inl s4 => (some (s4.1, ((s4.2.Jobs.length : Int) == 0))) | .inr r8 => some r8))
noncomputable def q90 (f2 : SFire) (c : Int) : Option Bool :=
  some (f2.Cylinder == c)
noncomputable def q232 (r2 : List SSwitch × Bool) (i : Int) (s : List Bool × List Int) : Option (Fl (List Bool × List Int) Bool) :=
  Option.bind (getI r2.1 i) fun x => Option.bind (bif (decide (x.Channel < 0)) then (some true) else (bif (decide (x.Channel ≥ (s.1.length : Int))) then (some true) else (bif (decide (i > 0)) then (Option.bind (getI r2.1 (w64 (i - 1))) fun x2 => bif (decide (x.At < x2.At)) then (some true) else (Option.bind (getI s.1 x.Channel) fun x3 => some (x.Level == x3))) else (Option.bind (getI s.1 x.Channel) fun x4 => some (x.Level == x4))))) fun (v3 : Bool) => bif v3 then (some (.ret false)) else (Option.bind (getI s.1 x.Channel) fun _ => Option.bind (setM s.1 x.Channel x.Level) fun l4 => bif (!x.Level) then (Option.bind (getI s.2 x.Channel) fun x6 => Option.bind (setM s.2 x.Channel (w64 (x6 + 1))) fun l5 => some (.next (l4, l5))) else (some (.next (l4, s.2))))
noncomputable def q233 (n2 : Int) (l : List SFire) (s2 : List Bool × List Int) (_ : Int) (x7 : Int) (_ : Unit) : Option (Fl Unit Bool) :=
  Option.bind (getI s2.2 (w64 (2 * (w64 (x7 - 1))))) fun x8 => Option.bind (getI s2.2 (w64 ((w64 (2 * (w64 (x7 - 1)))) + 1))) fun x9 => Option.bind (q24 l (fun x0 => q90 x0 x7)) fun v4 => Option.bind (getI s2.1 (w64 (2 * (w64 (x7 - 1))))) fun x10 => Option.bind (bif x10 then (some true) else (Option.bind (getI s2.1 (w64 ((w64 (2 * (w64 (x7 - 1)))) + 1))) fun x11 => some x11)) fun b2 => Option.bind (bif b2 then (some true) else (some ((decide (v4 < 0)) && ((w64 (x8 + x9)) != 0)))) fun b3 => bif b3 then (some (.ret false)) else (Option.bind (bif (decide (v4 ≥ 0)) then (Option.bind (bif (x8 == (w64 (1 + (w64 (Int.tmod n2 3))))) then (Option.bind (getI l v4) fun x12 => Option.bind (q125 x12) fun v5 => some (x9 == (w64 ((w64 (1 + (w64 (Int.tmod n2 3)))) * v5)))) else (some false)) fun b4 => Option.bind (bif b4 then (some true) else (some ((x8 == 0) && (x9 == 0)))) fun b5 => some (!b5)) else (some false)) fun b6 => bif b6 then (some (.ret false)) else (some (.next ())))
noncomputable def q256 (e2 : SEngine) (w : SWheel) (period : Int) (v_at : Int) (n2 : Int) (l : List SFire) : Option Bool :=
  Option.bind (q99) fun v => bif (!v) then (some false) else (Option.bind (q65 e2 w period v_at l) fun v2 => bif (!v2) then (some true) else (Option.bind (q118 e2 w period v_at (w64 (1 + (w64 (Int.tmod n2 3)))) l) fun r2 => bif (!r2.2) then (some false) else (Option.bind (makeM (w64 (2 * (e2.Order.length : Int))) false) fun l2 => Option.bind (makeM (w64 (2 * (e2.Order.length : Int))) 0) fun l3 => Option.bind (rangeN (r2.1.length : Int) (q232 r2) (l2, l3)) fun (t : (List Bool × List Int) ⊕ Bool) => match t with | .inl s2 => (Option.bind (rangeM e2.Order (q233 n2 l s2) ()) fun (t : Unit ⊕ Bool) => match t with | .inl _ => (some true) | .inr r3 => some r3) | .inr r4 => some r4)))
noncomputable def q49 (f2 : SFire) (c : Int) : Option Bool :=
  some (f2.Cylinder == c)
noncomputable def q27 (period : Int) (v_at : Int) (q : Int) (x : SSwitch) (r3 : Int × Int) (x2 : SFire) (q2 : Int) (s2 : Bool × Int) : Option ((Bool × Int) ⊕ ((Bool × Int) ⊕ Empty)) :=
  bif (decide (s2.2 ≤ (w64 (q2 + 1)))) then (Option.bind (bif s2.1 then (some true) else (some ((decide ((w64 ((w64 (x.At - v_at)) * q)) ≥ (w64 ((w64 ((w64 (s2.2 * 46080)) + (Int.tmod (w64 ((w64 (r3.1 - x2.Spark)) + 46080)) 46080))) * period)))) && (decide ((w64 ((w64 ((w64 (x.At - v_at)) * q)) - q)) < (w64 ((w64 ((w64 (s2.2 * 46080)) + (Int.tmod (w64 ((w64 (r3.1 - x2.Spark)) + 46080)) 46080))) * period))))))) fun b2 => some (.inl (b2, w64 (s2.2 + 1)))) else (some (.inr (.inl (s2.1, s2.2))))
noncomputable def q76 (e2 : SEngine) (period : Int) (v_at : Int) (l : List SFire) (q : Int) (_ : Int) (x : SSwitch) (_ : Unit) : Option (Fl Unit Bool) :=
  bif (((Int.tmod x.Channel 2) != 0) || x.Level) then (some (.next ())) else (Option.bind (q24 l (fun x0 => q49 x0 (w64 ((w64 (Int.tdiv x.Channel 2)) + 1)))) fun v3 => Option.bind (q159 e2 (w64 ((w64 (Int.tdiv x.Channel 2)) + 1))) fun r3 => bif ((decide (v3 < 0)) || (r3.2 != 0)) then (some (.ret false)) else (Option.bind (getI l v3) fun x2 => Option.bind (quoM .i64 (w64 ((w64 (x.At - v_at)) * q)) (w64 (46080 * period))) fun q2 => Option.bind (loopM (q27 period v_at q x r3 x2 q2) (false, w64 (q2 - 1))) fun (t : (Bool × Int) ⊕ Empty) => match t with | .inl s3 => (bif (!s3.1) then (some (.ret false)) else (some (.next ()))) | .inr r => r.elim))
noncomputable def q58 (e2 : SEngine) (w : SWheel) (period : Int) (v_at : Int) (n2 : Int) (l : List SFire) : Option Bool :=
  Option.bind (q99) fun v => bif (!v) then (some false) else (Option.bind (q65 e2 w period v_at l) fun v2 => bif (!v2) then (some true) else (Option.bind (q118 e2 w period v_at (w64 (1 + (w64 (Int.tmod n2 3)))) l) fun r2 => bif (!r2.2) then (some false) else (Option.bind (quoM .i64 23040 w.Teeth) fun q => Option.bind (rangeM r2.1 (q76 e2 period v_at l q) ()) fun (t : Unit ⊕ Bool) => match t with | .inl _ => (some true) | .inr r4 => some r4)))
end Go.Pv

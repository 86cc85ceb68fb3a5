/- Types and models, printed by gen.py: plain Lean; nothing of the loaded program stands here. -/
import Derived.Test.YtllofihbdbdaeaaPvXe
namespace Go.Pv
open Go
def enc_u8 (n : Int) : List Tree := [tK .u8 n]
@[ext] structure SMap where
  X : List Int
  Y : List Int
  Z : List (List Int)
def enc_SMap (x : SMap) : List Tree := [tS encI x.X, tS encI x.Y, tS (encS encI) x.Z]
abbrev A_SMap (x : SMap) : T := .agg [.t (tS encI x.X), .t (tS encI x.Y), .t (tS (encS encI) x.Z)]
@[ext] structure SCurve where
  X : List Int
  Y : List Int
def enc_SCurve (x : SCurve) : List Tree := [tS encI x.X, tS encI x.Y]
abbrev A_SCurve (x : SCurve) : T := .agg [.t (tS encI x.X), .t (tS encI x.Y)]
@[ext] structure SGain where
  P : Int
  I : Int
  Low : Int
  High : Int
def enc_SGain (x : SGain) : List Tree := [tI x.P, tI x.I, tI x.Low, tI x.High]
abbrev A_SGain (x : SGain) : T := .agg [.t (tI x.P), .t (tI x.I), .t (tI x.Low), .t (tI x.High)]
@[ext] structure STables where
  Air : SMap
  Spark : SMap
  Torque : SMap
  Wish : SMap
  AirTemp : SCurve
  Dwell : SCurve
  Dead : SCurve
  Efficiency : SCurve
  Idle : SGain
def enc_STables (x : STables) : List Tree := [tS encI x.Air.X, tS encI x.Air.Y, tS (encS encI) x.Air.Z, tS encI x.Spark.X, tS encI x.Spark.Y, tS (encS encI) x.Spark.Z, tS encI x.Torque.X, tS encI x.Torque.Y, tS (encS encI) x.Torque.Z, tS encI x.Wish.X, tS encI x.Wish.Y, tS (encS encI) x.Wish.Z, tS encI x.AirTemp.X, tS encI x.AirTemp.Y, tS encI x.Dwell.X, tS encI x.Dwell.Y, tS encI x.Dead.X, tS encI x.Dead.Y, tS encI x.Efficiency.X, tS encI x.Efficiency.Y, tI x.Idle.P, tI x.Idle.I, tI x.Idle.Low, tI x.Idle.High]
abbrev A_STables (x : STables) : T := .agg [.t (tS encI x.Air.X), .t (tS encI x.Air.Y), .t (tS (encS encI) x.Air.Z), .t (tS encI x.Spark.X), .t (tS encI x.Spark.Y), .t (tS (encS encI) x.Spark.Z), .t (tS encI x.Torque.X), .t (tS encI x.Torque.Y), .t (tS (encS encI) x.Torque.Z), .t (tS encI x.Wish.X), .t (tS encI x.Wish.Y), .t (tS (encS encI) x.Wish.Z), .t (tS encI x.AirTemp.X), .t (tS encI x.AirTemp.Y), .t (tS encI x.Dwell.X), .t (tS encI x.Dwell.Y), .t (tS encI x.Dead.X), .t (tS encI x.Dead.Y), .t (tS encI x.Efficiency.X), .t (tS encI x.Efficiency.Y), .t (tI x.Idle.P), .t (tI x.Idle.I), .t (tI x.Idle.Low), .t (tI x.Idle.High)]
@[ext] structure SRequest where
  Source : Int
  Kind : Int
  Torque : Int
  Priority : Int
def enc_SRequest (x : SRequest) : List Tree := [tI x.Source, tI x.Kind, tI x.Torque, tI x.Priority]
abbrev A_SRequest (x : SRequest) : T := .agg [.t (tI x.Source), .t (tI x.Kind), .t (tI x.Torque), .t (tI x.Priority)]
@[ext] structure SGuard where
  Over : Int
  Calm : Int
  Off : Bool
def enc_SGuard (x : SGuard) : List Tree := [tI x.Over, tI x.Calm, tB x.Off]
abbrev A_SGuard (x : SGuard) : T := .agg [.t (tI x.Over), .t (tI x.Calm), .t (tB x.Off)]
@[ext] structure SFire where
  Cylinder : Int
  Spark : Int
  Dwell : Int
  End : Int
  Inject : Int
  Gap : Int
  Extra : Int
def enc_SFire (x : SFire) : List Tree := [tI x.Cylinder, tI x.Spark, tI x.Dwell, tI x.End, tI x.Inject, tI x.Gap, tI x.Extra]
abbrev A_SFire (x : SFire) : T := .agg [.t (tI x.Cylinder), .t (tI x.Spark), .t (tI x.Dwell), .t (tI x.End), .t (tI x.Inject), .t (tI x.Gap), .t (tI x.Extra)]
def enc_arr2_Int (x : (Int × Int)) : List Tree := [tI x.1, tI x.2]
abbrev A_arr2_Int (x : (Int × Int)) : T := .agg [.t (tI x.1), .t (tI x.2)]
/-- slices.IndexFunc[[]magneto/api.Request,magneto/api.Request] -/
noncomputable def slices_IndexFunc_sRequest_b1 (s : List SRequest) (f2 : SRequest → Option Bool) (i : Int) (_ : Unit) : Option (Fl Unit Int) :=
  Option.bind (getI s i) fun x => Option.bind (f2 x) fun v => bif v then (some (.ret i)) else (some (.next ()))
noncomputable def slices_IndexFunc_sRequest (s : List SRequest) (f2 : SRequest → Option Bool) : Option Int :=
  Option.bind (rangeN (s.length : Int) (slices_IndexFunc_sRequest_b1 s f2) ()) fun (t : Unit ⊕ Int) => match t with | .inl _ => (some (-1)) | .inr r2 => some r2
/-- slices.ContainsFunc[[]magneto/api.Request,magneto/api.Request] -/
noncomputable def slices_ContainsFunc_sRequest (s : List SRequest) (f2 : SRequest → Option Bool) : Option Bool :=
  Option.bind (slices_IndexFunc_sRequest s f2) fun v => some (decide (v ≥ 0))
/-- magneto/surface.element -/
noncomputable def surface_element (n2 : Int) : Option Bool :=
  some ((decide (n2 ≥ (-1073741824))) && (decide (n2 ≤ 1073741824)))
/-- magneto/surface.axis -/
noncomputable def surface_axis_b1 (l : List Int) (i : Int) (_ : Unit) : Option (Fl Unit Bool) :=
  Option.bind (getI l i) fun x => Option.bind (surface_element x) fun v => Option.bind (bif (!v) then (some true) else (Option.bind (bif (decide (i > 0)) then (Option.bind (getI l (w64 (i - 1))) fun x2 => some (decide (x ≤ x2))) else (some false)) fun b2 => some b2)) fun b3 => bif b3 then (some (.ret false)) else (some (.next ()))
noncomputable def surface_axis (l : List Int) : Option Bool :=
  bif ((decide ((l.length : Int) < 2)) || (decide ((l.length : Int) > 32))) then (some false) else (Option.bind (rangeN (l.length : Int) (surface_axis_b1 l) ()) fun (t : Unit ⊕ Bool) => match t with | .inl _ => (some true) | .inr r2 => some r2)
/-- slices.IndexFunc[[]int,int] -/
noncomputable def slices_IndexFunc_sint_b1 (s : List Int) (f2 : Int → Option Bool) (i : Int) (_ : Unit) : Option (Fl Unit Int) :=
  Option.bind (getI s i) fun x => Option.bind (f2 x) fun v => bif v then (some (.ret i)) else (some (.next ()))
noncomputable def slices_IndexFunc_sint (s : List Int) (f2 : Int → Option Bool) : Option Int :=
  Option.bind (rangeN (s.length : Int) (slices_IndexFunc_sint_b1 s f2) ()) fun (t : Unit ⊕ Int) => match t with | .inl _ => (some (-1)) | .inr r2 => some r2
/-- slices.ContainsFunc[[]int,int] -/
noncomputable def slices_ContainsFunc_sint (s : List Int) (f2 : Int → Option Bool) : Option Bool :=
  Option.bind (slices_IndexFunc_sint s f2) fun v => some (decide (v ≥ 0))
/-- magneto/surface.Valid$1 -/
noncomputable def surface_Valid_1 (z : Int) : Option Bool :=
  Option.bind (surface_element z) fun v => some (!v)
/-- magneto/surface.Valid -/
noncomputable def surface_Valid_b1 (m2 : SMap) (_ : Int) (x : List Int) (_ : Unit) : Option (Fl Unit Bool) :=
  Option.bind (bif ((x.length : Int) != (m2.Y.length : Int)) then (some true) else (Option.bind (slices_ContainsFunc_sint x surface_Valid_1) fun v3 => some v3)) fun b3 => bif b3 then (some (.ret false)) else (some (.next ()))
noncomputable def surface_Valid (m2 : SMap) : Option Bool :=
  Option.bind (surface_axis m2.X) fun v => Option.bind (bif (!v) then (some true) else (Option.bind (surface_axis m2.Y) fun v2 => some (!v2))) fun b2 => bif (b2 || ((m2.Z.length : Int) != (m2.X.length : Int))) then (some false) else (Option.bind (rangeM m2.Z (surface_Valid_b1 m2) ()) fun (t : Unit ⊕ Bool) => match t with | .inl _ => (some true) | .inr r2 => some r2)
/-- magneto/arbiter.torque -/
noncomputable def arbiter_torque (t2 : Int) : Option Bool :=
  some ((decide (t2 ≥ (-5000))) && (decide (t2 ≤ 10000)))
/-- magneto/arbiter.Valid -/
noncomputable def arbiter_Valid (r2 : SRequest) : Option Bool :=
  Option.bind (bif ((((decide (r2.Source < 0)) || (decide (r2.Source > 15))) || (decide (r2.Priority < 0))) || (decide (r2.Priority > 15))) then (some true) else (Option.bind (arbiter_torque r2.Torque) fun v => some (!v))) fun b2 => bif b2 then (some false) else (Option.bind (bif (r2.Kind == 1) then (some true) else (Option.bind (bif (decide (r2.Source ≤ 1)) then (some ((r2.Kind == 2) || (r2.Kind == 3))) else (some false)) fun b3 => some b3)) fun b4 => some b4)
/-- magneto/monitor.Permitted$1 -/
noncomputable def monitor_Permitted_1 (r2 : SRequest) : Option Bool :=
  Option.bind (arbiter_Valid r2) fun v => some (!v)
/-- magneto/monitor.within -/
noncomputable def monitor_within (x : Int) (low : Int) (high : Int) : Option Bool :=
  some ((decide (x ≥ low)) && (decide (x ≤ high)))
/-- magneto/monitor.around -/
noncomputable def monitor_around_b1 (axis : List Int) (x : Int) (i : Int) (below : Int) : Option (Fl Int Empty) :=
  Option.bind (getI axis i) fun x2 => bif (decide (x2 ≤ x)) then (some (.next i)) else (some (.next below))
noncomputable def monitor_around_b2 (axis : List Int) (x : Int) (s : Int × Int) : Option ((Int × Int) ⊕ ((Int × Int) ⊕ Empty)) :=
  bif (decide (s.1 ≥ 0)) then (Option.bind (getI axis s.1) fun x3 => bif (decide (x3 ≥ x)) then (some (.inl (w64 (s.1 - 1), s.1))) else (some (.inl (w64 (s.1 - 1), s.2)))) else (some (.inr (.inl (s.1, s.2))))
noncomputable def monitor_around (axis : List Int) (x : Int) : Option (Int × Int) :=
  Option.bind (rangeN (axis.length : Int) (monitor_around_b1 axis x) 0) fun (t : Int ⊕ Empty) => match t with | .inl below2 => (Option.bind (loopM (monitor_around_b2 axis x) (w64 ((axis.length : Int) - 1), w64 ((axis.length : Int) - 1))) fun (t : (Int × Int) ⊕ Empty) => match t with | .inl s2 => (Option.bind (getI axis 0) fun x4 => bif (decide (x < x4)) then (some (below2, 0)) else (some (below2, s2.2))) | .inr r => r.elim) | .inr r => r.elim
/-- magneto/monitor.corner -/
noncomputable def monitor_corner (m2 : SMap) (x : Int) (y : Int) : Option Int :=
  Option.bind (monitor_around m2.X x) fun r2 => Option.bind (monitor_around m2.Y y) fun r3 => Option.bind (getI m2.Z r2.1) fun x2 => Option.bind (getI x2 r3.1) fun x3 => Option.bind (getI x2 r3.2) fun x4 => Option.bind (getI m2.Z r2.2) fun x5 => Option.bind (getI x5 r3.1) fun x6 => Option.bind (getI x5 r3.2) fun x7 => some (maxI (maxI (maxI x3 x4) x6) x7)
/-- magneto/monitor.raises -/
noncomputable def monitor_raises (r2 : SRequest) : Option Bool :=
  some ((r2.Kind == 2) || (r2.Kind == 3))
/-- magneto/monitor.Permitted -/
noncomputable def monitor_Permitted_b1 (_ : Int) (x : SRequest) (s : Int × Int) : Option (Fl (Int × Int) Empty) :=
  Option.bind (monitor_raises x) fun v6 => bif (!v6) then (some (.next (s.1, s.2))) else (bif (x.Source == 1) then (some (.next (maxI s.1 (minI x.Torque 1500), maxI s.2 x.Priority))) else (some (.next (s.1, maxI s.2 x.Priority))))
noncomputable def monitor_Permitted_b2 (s2 : Int × Int) (_ : Int) (x2 : SRequest) (limit : Int) : Option (Fl Int Empty) :=
  bif ((x2.Kind == 1) && (decide (x2.Priority > s2.2))) then (some (.next (minI limit x2.Torque))) else (some (.next limit))
noncomputable def monitor_Permitted (t2 : STables) (pedal : Int) (speed : Int) (l : List SRequest) : Option (Int × Int) :=
  Option.bind (surface_Valid t2.Wish) fun v => Option.bind (bif (!v) then (some true) else (Option.bind (slices_ContainsFunc_sRequest l monitor_Permitted_1) fun v2 => some v2)) fun b2 => bif b2 then (some (0, 1)) else (bif (decide ((l.length : Int) > 32)) then (some (0, 5)) else (Option.bind (monitor_within pedal 0 1000) fun v3 => Option.bind (bif (!v3) then (some true) else (Option.bind (monitor_within speed 0 12000) fun v4 => some (!v4))) fun b3 => bif b3 then (some (0, 2)) else (Option.bind (monitor_corner t2.Wish speed pedal) fun v5 => Option.bind (rangeM l (monitor_Permitted_b1) ((-5000), (-1))) fun (t : (Int × Int) ⊕ Empty) => match t with | .inl s2 => (Option.bind (rangeM l (monitor_Permitted_b2 s2) 10000) fun (t : Int ⊕ Empty) => match t with | .inl limit2 => (some (w64 ((maxI 0 (minI limit2 (maxI (minI (maxI v5 (-5000)) 10000) s2.1))) + 100), 0)) | .inr r => r.elim) | .inr r => r.elim)))
/-- magneto/monitor.Steps -/
noncomputable def monitor_Steps : Option Int :=
  some 5
/-- magneto/magnetolaw39.tables -/
noncomputable def magnetolaw39_tables : Option STables :=
  some (⟨(⟨([] : List Int), ([] : List Int), ([] : List (List Int))⟩ : SMap), (⟨([] : List Int), ([] : List Int), ([] : List (List Int))⟩ : SMap), (⟨([] : List Int), ([] : List Int), ([] : List (List Int))⟩ : SMap), (⟨([0, 1000] : List Int), ([0, 500] : List Int), ([([0, 1000] : List Int), ([0, 1000] : List Int)] : List (List Int))⟩ : SMap), (⟨([] : List Int), ([] : List Int)⟩ : SCurve), (⟨([] : List Int), ([] : List Int)⟩ : SCurve), (⟨([] : List Int), ([] : List Int)⟩ : SCurve), (⟨([] : List Int), ([] : List Int)⟩ : SCurve), (⟨0, 0, 0, 0⟩ : SGain)⟩ : STables)
/-- magneto/magnetolaw39.awake -/
noncomputable def magnetolaw39_awake : Option Bool :=
  Option.bind (magnetolaw39_tables) fun v => Option.bind (monitor_Permitted v 100 700 ([] : List SRequest)) fun r2 => Option.bind (magnetolaw39_tables) fun v2 => Option.bind (monitor_Permitted v2 100 700 ([(⟨3, 1, 400, 0⟩ : SRequest)] : List SRequest)) fun r3 => Option.bind (bif ((((r2.2 == 0) && (r2.1 == 1100)) && (r3.2 == 0)) && (r3.1 == 500)) then (Option.bind (monitor_Steps) fun v3 => some (v3 == 5)) else (some false)) fun b2 => some b2
/-- magneto/magnetolaw39.MonitorLimits$1 -/
noncomputable def magnetolaw39_MonitorLimits_1 (r2 : SRequest) : Option Bool :=
  some (decide (r2.Priority > 14))
/-- slices.Clone[[]magneto/api.Request,magneto/api.Request] -/
noncomputable def slices_Clone_sRequest (s : List SRequest) : Option (List SRequest) :=
  Option.bind (appendM ([] : List SRequest) s) fun l => some l
/-- magneto/magnetolaw39.MonitorLimits -/
noncomputable def magnetolaw39_MonitorLimits (t2 : STables) (value : Int) (speed : Int) (l : List SRequest) (most : Int) : Option Bool :=
  Option.bind (magnetolaw39_awake) fun v => bif (!v) then (some false) else (Option.bind (bif (((decide ((l.length : Int) > 31)) || (decide (most < (-5000)))) || (decide (most > 10000))) then (some true) else (Option.bind (slices_ContainsFunc_sRequest l magnetolaw39_MonitorLimits_1) fun v2 => some v2)) fun b2 => bif b2 then (some true) else (Option.bind (monitor_Permitted t2 value speed l) fun r2 => Option.bind (slices_Clone_sRequest l) fun v3 => Option.bind (appendM v3 ([(⟨9, 1, most, 15⟩ : SRequest)] : List SRequest)) fun l2 => Option.bind (monitor_Permitted t2 value speed l2) fun r3 => bif (r2.2 != 0) then (some (r2.2 == r3.2)) else (some ((((r3.2 == 0) && (decide (r3.1 ≤ r2.1))) && (decide (r3.1 ≤ (w64 ((maxI most 0) + 100))))) && (decide (r3.1 ≥ (minI r2.1 (w64 ((maxI most 0) + 100)))))))))
/-- magneto/monitor.Actual -/
noncomputable def monitor_Actual_b1 (_ : Int) (x : SFire) (n2 : Int) : Option (Fl Int Empty) :=
  bif (x.Inject != 0) then (some (.next (w64 (n2 + 1)))) else (some (.next n2))
noncomputable def monitor_Actual (t2 : STables) (speed : Int) (charge : Int) (l : List SFire) : Option (Int × Int) :=
  Option.bind (surface_Valid t2.Torque) fun v => bif (!v) then (some (0, 1)) else (bif (decide ((l.length : Int) > 8)) then (some (0, 5)) else (Option.bind (monitor_within speed 0 12000) fun v2 => Option.bind (bif (!v2) then (some true) else (Option.bind (monitor_within charge 0 1048576) fun v3 => some (!v3))) fun b2 => bif b2 then (some (0, 2)) else (bif ((l.length : Int) == 0) then (some (0, 0)) else (Option.bind (rangeM l (monitor_Actual_b1) 0) fun (t : Int ⊕ Empty) => match t with | .inl n3 => (Option.bind (monitor_corner t2.Torque speed charge) fun v4 => Option.bind (quoM .i64 (w64 ((w64 ((w64 ((minI (maxI v4 0) 10000) * n3)) + (l.length : Int))) - 1)) (l.length : Int)) fun q => some (q, 0)) | .inr r => r.elim))))
/-- slices.Clone[[]magneto/api.Fire,magneto/api.Fire] -/
noncomputable def slices_Clone_sFire (s : List SFire) : Option (List SFire) :=
  Option.bind (appendM ([] : List SFire) s) fun l => some l
/-- magneto/magnetolaw39.MonitorCut -/
noncomputable def magnetolaw39_MonitorCut_b1 (i : Int) (f2 : List SFire) : Option (Fl (List SFire) Empty) :=
  Option.bind (getI f2 i) fun x2 => Option.bind (setM f2 i (⟨x2.Cylinder, x2.Spark, x2.Dwell, x2.End, 0, x2.Gap, x2.Extra⟩ : SFire)) fun l3 => some (.next l3)
noncomputable def magnetolaw39_MonitorCut (t2 : STables) (speed : Int) (charge : Int) (l : List SFire) (k : Int) : Option Bool :=
  Option.bind (magnetolaw39_awake) fun v => bif (!v) then (some false) else (bif ((decide ((l.length : Int) < 1)) || (decide ((l.length : Int) > 8))) then (some true) else (Option.bind (monitor_Actual t2 speed charge l) fun r2 => Option.bind (slices_Clone_sFire l) fun v2 => Option.bind (slices_Clone_sFire l) fun v3 => Option.bind (remM (w64 k) (l.length : Int)) fun q => Option.bind (getI v2 q) fun x => Option.bind (setM v2 q (⟨x.Cylinder, x.Spark, x.Dwell, x.End, 0, x.Gap, x.Extra⟩ : SFire)) fun l2 => Option.bind (rangeN (v3.length : Int) (magnetolaw39_MonitorCut_b1) v3) fun (t : (List SFire) ⊕ Empty) => match t with | .inl f3 => (Option.bind (monitor_Actual t2 speed charge l2) fun r3 => Option.bind (monitor_Actual t2 speed charge f3) fun r4 => bif (r2.2 != 0) then (some ((r2.2 == r3.2) && (r3.2 == r4.2))) else (some (((((r3.2 == 0) && (r4.2 == 0)) && (decide (r3.1 ≤ r2.1))) && (r4.1 == 0)) && (decide (r2.1 ≤ 10000))))) | .inr r => r.elim))
/-- magneto/monitor.Valid -/
noncomputable def monitor_Valid (g : SGuard) : Option Bool :=
  Option.bind (monitor_within g.Over 0 5) fun v => Option.bind (bif v then (Option.bind (monitor_within g.Calm 0 1000) fun v2 => some v2) else (some false)) fun b2 => Option.bind (bif b2 then (some ((g.Over == 0) || (g.Calm == 0))) else (some false)) fun b3 => Option.bind (bif b3 then (some (g.Off || (decide (g.Over < 5)))) else (some false)) fun b4 => some b4
/-- magneto/monitor.Step$1 -/
noncomputable def monitor_Step_1 (t2 : Int) : Option Bool :=
  Option.bind (monitor_within t2 (-20000) 20000) fun v => some v
/-- magneto/monitor.Step -/
noncomputable def monitor_Step (g : SGuard) (permitted : Int) (actual : Int) : Option (SGuard × Int) :=
  Option.bind (monitor_Valid g) fun v => bif (!v) then (some ((⟨0, 0, false⟩ : SGuard), 1)) else (Option.bind (monitor_Step_1 permitted) fun v2 => Option.bind (bif (!v2) then (some true) else (Option.bind (monitor_Step_1 actual) fun v3 => some (!v3))) fun b2 => bif b2 then (some ((⟨0, 0, false⟩ : SGuard), 2)) else (bif (decide (actual > permitted)) then (some ((⟨minI 5 (w64 (g.Over + 1)), 0, (g.Off || ((minI 5 (w64 (g.Over + 1))) == 5))⟩ : SGuard), 0)) else (some ((⟨0, minI 1000 (w64 (g.Calm + 1)), g.Off⟩ : SGuard), 0))))
/-- magneto/monitor.Run -/
noncomputable def monitor_Run_b1 (_ : Int) (x : (Int × Int)) (s : List Bool × SGuard) : Option (Fl (List Bool × SGuard) (List Bool × Int)) :=
  Option.bind (monitor_Step s.2 x.1 x.2) fun r2 => bif (r2.2 != 0) then (some (.ret (([] : List Bool), r2.2))) else (Option.bind (appendM s.1 ([r2.1.Off] : List Bool)) fun l2 => some (.next (l2, r2.1)))
noncomputable def monitor_Run (l : List (Int × Int)) : Option (List Bool × Int) :=
  bif (decide ((l.length : Int) > 1000)) then (some (([] : List Bool), 5)) else (Option.bind (rangeM l (monitor_Run_b1) (([] : List Bool), (⟨0, 0, false⟩ : SGuard))) fun (t : (List Bool × SGuard) ⊕ (List Bool × Int)) => match t with | .inl s2 => (some (s2.1, 0)) | .inr r3 => some r3)
/-- slices.IndexFunc[[][2]int,[2]int] -/
noncomputable def slices_IndexFunc_s_2_int_b1 (s : List (Int × Int)) (f2 : (Int × Int) → Option Bool) (i : Int) (_ : Unit) : Option (Fl Unit Int) :=
  Option.bind (getI s i) fun x => Option.bind (f2 x) fun v => bif v then (some (.ret i)) else (some (.next ()))
noncomputable def slices_IndexFunc_s_2_int (s : List (Int × Int)) (f2 : (Int × Int) → Option Bool) : Option Int :=
  Option.bind (rangeN (s.length : Int) (slices_IndexFunc_s_2_int_b1 s f2) ()) fun (t : Unit ⊕ Int) => match t with | .inl _ => (some (-1)) | .inr r2 => some r2
/-- slices.ContainsFunc[[][2]int,[2]int] -/
noncomputable def slices_ContainsFunc_s_2_int (s : List (Int × Int)) (f2 : (Int × Int) → Option Bool) : Option Bool :=
  Option.bind (slices_IndexFunc_s_2_int s f2) fun v => some (decide (v ≥ 0))
/-- magneto/magnetoref39.In -/
noncomputable def magnetoref39_In (x : Int) (low : Int) (high : Int) : Option Bool :=
  some ((decide (x ≥ low)) && (decide (x ≤ high)))
/-- magneto/magnetoref39.Torque -/
noncomputable def magnetoref39_Torque (n2 : Int) : Option Bool :=
  Option.bind (magnetoref39_In n2 (-20000) 20000) fun v => some v
/-- magneto/magnetolaw39.MonitorReacts$1 -/
noncomputable def magnetolaw39_MonitorReacts_1 (p2 : (Int × Int)) : Option Bool :=
  Option.bind (magnetoref39_Torque p2.1) fun v => Option.bind (bif (!v) then (some true) else (Option.bind (magnetoref39_Torque p2.2) fun v2 => some (!v2))) fun b2 => some b2
/-- magneto/magnetolaw39.MonitorReacts -/
noncomputable def magnetolaw39_MonitorReacts_b1 (l : List (Int × Int)) (r2 : List Bool × Int) (i : Int) (s : Int × Bool × SGuard) : Option (Fl (Int × Bool × SGuard) Bool) :=
  Option.bind (getI l i) fun x => Option.bind (bif (decide (x.2 ≤ x.1)) then (some 0) else (some (w64 (s.1 + 1)))) fun (row : Int) => Option.bind (bif s.2.1 then (some true) else (Option.bind (monitor_Steps) fun v3 => some (decide (row ≥ v3)))) fun b2 => Option.bind (monitor_Step s.2.2 x.1 x.2) fun r3 => Option.bind (bif ((r3.2 != 0) || (!(r3.1.Off == b2))) then (some true) else (Option.bind (getI r2.1 i) fun x2 => some (!(x2 == b2)))) fun b3 => bif b3 then (some (.ret false)) else (some (.next (row, b2, r3.1)))
noncomputable def magnetolaw39_MonitorReacts (l : List (Int × Int)) : Option Bool :=
  Option.bind (magnetolaw39_awake) fun v => bif (!v) then (some false) else (bif (decide ((l.length : Int) > 200)) then (some true) else (Option.bind (monitor_Run l) fun r2 => Option.bind (slices_ContainsFunc_s_2_int l magnetolaw39_MonitorReacts_1) fun v2 => bif v2 then (some ((r2.2 == 2) && ((r2.1.length : Int) == 0))) else (bif ((r2.2 != 0) || ((r2.1.length : Int) != (l.length : Int))) then (some false) else (Option.bind (rangeN (l.length : Int) (magnetolaw39_MonitorReacts_b1 l r2) (0, false, (⟨0, 0, false⟩ : SGuard))) fun (t : (Int × Bool × SGuard) ⊕ Bool) => match t with | .inl _ => (some true) | .inr r4 => some r4))))
/-- magneto/magnetoref39.Valid -/
noncomputable def magnetoref39_Valid (g : SGuard) : Option Bool :=
  Option.bind (magnetoref39_In g.Over 0 5) fun v => Option.bind (bif v then (Option.bind (magnetoref39_In g.Calm 0 1000) fun v2 => some v2) else (some false)) fun b2 => Option.bind (bif b2 then (some ((g.Over == 0) || (g.Calm == 0))) else (some false)) fun b3 => Option.bind (bif b3 then (some ((decide (g.Over < 5)) || g.Off)) else (some false)) fun b4 => some b4
/-- magneto/magnetoref39.Step -/
noncomputable def magnetoref39_Step (g : SGuard) (permitted : Int) (actual : Int) : Option SGuard :=
  bif (decide (actual > permitted)) then (Option.bind (bif (decide ((w64 (g.Over + 1)) > 5)) then (some 5) else (some (w64 (g.Over + 1)))) fun (over : Int) => some (⟨over, 0, (g.Off || (over == 5))⟩ : SGuard)) else (bif (decide ((w64 (g.Calm + 1)) > 1000)) then (some (⟨0, 1000, g.Off⟩ : SGuard)) else (some (⟨0, w64 (g.Calm + 1), g.Off⟩ : SGuard)))
/-- magneto/magnetolaw39.MonitorSteps -/
noncomputable def magnetolaw39_MonitorSteps (g : SGuard) (permitted : Int) (actual : Int) : Option Bool :=
  Option.bind (magnetolaw39_awake) fun v => bif (!v) then (some false) else (Option.bind (monitor_Step g permitted actual) fun r2 => Option.bind (monitor_Valid g) fun v2 => Option.bind (magnetoref39_Valid g) fun v3 => bif (!(v2 == v3)) then (some false) else (Option.bind (magnetoref39_Valid g) fun v4 => bif (!v4) then (Option.bind (bif (r2.2 == 1) then (some ((r2.1.Over == 0) && ((r2.1.Calm == 0) && ((r2.1.Off == false) && true)))) else (some false)) fun b2 => some b2) else (Option.bind (magnetoref39_Torque permitted) fun v5 => Option.bind (bif (!v5) then (some true) else (Option.bind (magnetoref39_Torque actual) fun v6 => some (!v6))) fun b3 => bif b3 then (Option.bind (bif (r2.2 == 2) then (some ((r2.1.Over == 0) && ((r2.1.Calm == 0) && ((r2.1.Off == false) && true)))) else (some false)) fun b4 => some b4) else (bif (r2.2 == 0) then (Option.bind (magnetoref39_Step g permitted actual) fun v7 => bif ((r2.1.Over == v7.Over) && ((r2.1.Calm == v7.Calm) && ((r2.1.Off == v7.Off) && true))) then (Option.bind (monitor_Valid r2.1) fun v8 => some v8) else (some false)) else (some false)))))
/-- magneto/magnetoref06.far -/
noncomputable def magnetoref06_far (n2 : Int) : Option Bool :=
  some ((decide (n2 < (-1073741824))) || (decide (n2 > 1073741824)))
/-- magneto/magnetoref06.Axis -/
noncomputable def magnetoref06_Axis_b1 (l : List Int) (i : Int) : Option (Int ⊕ (Int ⊕ Bool)) :=
  bif (decide (i < (l.length : Int))) then (Option.bind (Option.bind (getI l i) fun x => Option.bind (magnetoref06_far x) fun v => bif v then (some true) else (bif (decide (i > 0)) then (Option.bind (getI l (w64 (i - 1))) fun x2 => some (decide (x ≤ x2))) else (some false))) fun (v2 : Bool) => bif v2 then (some (.inr (.inr false))) else (some (.inl (w64 (i + 1))))) else (some (.inr (.inl i)))
noncomputable def magnetoref06_Axis (l : List Int) : Option Bool :=
  bif ((decide ((l.length : Int) < 2)) || (decide ((l.length : Int) > 32))) then (some false) else (Option.bind (loopM (magnetoref06_Axis_b1 l) 0) fun (t : Int ⊕ Bool) => match t with | .inl _ => (some true) | .inr r2 => some r2)
/-- magneto/magnetoref06.Valid -/
noncomputable def magnetoref06_Valid_b2 (m2 : SMap) (x : List Int) (j : Int) : Option (Int ⊕ (Int ⊕ Bool)) :=
  bif (decide (j < (m2.Y.length : Int))) then (Option.bind (getI x j) fun x2 => Option.bind (magnetoref06_far x2) fun v3 => bif v3 then (some (.inr (.inr false))) else (some (.inl (w64 (j + 1))))) else (some (.inr (.inl j)))
noncomputable def magnetoref06_Valid_b1 (m2 : SMap) (i : Int) : Option (Int ⊕ (Int ⊕ Bool)) :=
  bif (decide (i < (m2.Z.length : Int))) then (Option.bind (getI m2.Z i) fun x => bif ((x.length : Int) != (m2.Y.length : Int)) then (some (.inr (.inr false))) else (Option.bind (loopM (magnetoref06_Valid_b2 m2 x) 0) fun (t : Int ⊕ Bool) => match t with | .inl _ => (some (.inl (w64 (i + 1)))) | .inr r2 => some (.inr (.inr r2)))) else (some (.inr (.inl i)))
noncomputable def magnetoref06_Valid (m2 : SMap) : Option Bool :=
  Option.bind (magnetoref06_Axis m2.X) fun v => Option.bind (bif (!v) then (some true) else (Option.bind (magnetoref06_Axis m2.Y) fun v2 => some (!v2))) fun b2 => bif (b2 || ((m2.Z.length : Int) != (m2.X.length : Int))) then (some false) else (Option.bind (loopM (magnetoref06_Valid_b1 m2) 0) fun (t : Int ⊕ Bool) => match t with | .inl _ => (some true) | .inr r3 => some r3)
/-- magneto/magnetoref39.Map -/
noncomputable def magnetoref39_Map (m2 : SMap) : Option Bool :=
  Option.bind (magnetoref06_Valid m2) fun v => some v
/-- magneto/magnetoref36.Torque -/
noncomputable def magnetoref36_Torque (t2 : Int) : Option Bool :=
  some ((decide (t2 ≥ (-5000))) && (decide (t2 ≤ 10000)))
/-- magneto/magnetoref36.Valid -/
noncomputable def magnetoref36_Valid (r2 : SRequest) : Option Bool :=
  Option.bind (bif ((((decide (r2.Source < 0)) || (decide (r2.Source > 15))) || (decide (r2.Priority < 0))) || (decide (r2.Priority > 15))) then (some true) else (Option.bind (magnetoref36_Torque r2.Torque) fun v => some (!v))) fun b2 => bif ((b2 || (decide (r2.Kind < 1))) || (decide (r2.Kind > 3))) then (some false) else (some ((decide (r2.Source ≤ 1)) || (r2.Kind == 1)))
/-- magneto/magnetoref39.Requests -/
noncomputable def magnetoref39_Requests_b1 (l : List SRequest) (i : Int) : Option (Int ⊕ (Int ⊕ Bool)) :=
  bif (decide (i < (l.length : Int))) then (Option.bind (getI l i) fun x => Option.bind (magnetoref36_Valid x) fun v => bif (!v) then (some (.inr (.inr false))) else (some (.inl (w64 (i + 1))))) else (some (.inr (.inl i)))
noncomputable def magnetoref39_Requests (l : List SRequest) : Option Bool :=
  Option.bind (loopM (magnetoref39_Requests_b1 l) 0) fun (t : Int ⊕ Bool) => match t with | .inl _ => (some true) | .inr r2 => some r2
/-- magneto/magnetoref39.limit -/
noncomputable def magnetoref39_limit (x : Int) (low : Int) (high : Int) : Option Int :=
  bif (decide (x < low)) then (some low) else (bif (decide (x > high)) then (some high) else (some x))
/-- magneto/magnetoref39.Around -/
noncomputable def magnetoref39_Around_b1 (l : List Int) (x : Int) (s : Int × Int) : Option ((Int × Int) ⊕ ((Int × Int) ⊕ Empty)) :=
  bif (decide (s.1 < (l.length : Int))) then (Option.bind (getI l s.1) fun x2 => bif (decide (x2 ≤ x)) then (some (.inl (w64 (s.1 + 1), s.1))) else (some (.inl (w64 (s.1 + 1), s.2)))) else (some (.inr (.inl (s.1, s.2))))
noncomputable def magnetoref39_Around_b2 (l : List Int) (x : Int) (s3 : Int × Int) : Option ((Int × Int) ⊕ ((Int × Int) ⊕ Empty)) :=
  bif (decide (s3.1 ≥ 0)) then (Option.bind (getI l s3.1) fun x3 => bif (decide (x3 ≥ x)) then (some (.inl (w64 (s3.1 - 1), s3.1))) else (some (.inl (w64 (s3.1 - 1), s3.2)))) else (some (.inr (.inl (s3.1, s3.2))))
noncomputable def magnetoref39_Around (l : List Int) (x : Int) : Option (Int × Int) :=
  Option.bind (loopM (magnetoref39_Around_b1 l x) (0, 0)) fun (t : (Int × Int) ⊕ Empty) => match t with | .inl s2 => (Option.bind (loopM (magnetoref39_Around_b2 l x) (w64 ((l.length : Int) - 1), w64 ((l.length : Int) - 1))) fun (t : (Int × Int) ⊕ Empty) => match t with | .inl s4 => (some (s2.2, s4.2)) | .inr r => r.elim) | .inr r => r.elim
/-- magneto/magnetoref39.Corner -/
noncomputable def magnetoref39_Corner (m2 : SMap) (x : Int) (y : Int) : Option Int :=
  Option.bind (magnetoref39_Around m2.X x) fun r2 => Option.bind (magnetoref39_Around m2.Y y) fun r3 => Option.bind (getI m2.Z r2.1) fun x2 => Option.bind (getI x2 r3.1) fun x3 => Option.bind (getI x2 r3.2) fun x4 => Option.bind (bif (decide (x4 > x3)) then (some x4) else (some x3)) fun (z : Int) => Option.bind (getI m2.Z r2.2) fun x5 => Option.bind (getI x5 r3.1) fun x6 => Option.bind (bif (decide (x6 > z)) then (some x6) else (some z)) fun (z2 : Int) => Option.bind (getI x5 r3.2) fun x7 => bif (decide (x7 > z2)) then (some x7) else (some z2)
/-- magneto/magnetoref39.Raises -/
noncomputable def magnetoref39_Raises (r2 : SRequest) : Option Bool :=
  some ((r2.Kind == 2) || (r2.Kind == 3))
/-- magneto/magnetoref39.Permitted -/
noncomputable def magnetoref39_Permitted_b1 (l : List SRequest) (s : Int × Int × Int) : Option ((Int × Int × Int) ⊕ ((Int × Int × Int) ⊕ Empty)) :=
  bif (decide (s.2.2 < (l.length : Int))) then (Option.bind (getI l s.2.2) fun x => Option.bind (magnetoref39_Raises x) fun v3 => bif (!v3) then (some (.inl (s.1, s.2.1, w64 (s.2.2 + 1)))) else (Option.bind (bif (decide (x.Priority > s.2.1)) then (some x.Priority) else (some s.2.1)) fun (priority : Int) => Option.bind (bif (x.Source == 1) then (some (decide (x.Torque > s.1))) else (some false)) fun b2 => bif b2 then (some (.inl (x.Torque, priority, w64 (s.2.2 + 1)))) else (some (.inl (s.1, priority, w64 (s.2.2 + 1)))))) else (some (.inr (.inl (s.1, s.2.1, s.2.2))))
noncomputable def magnetoref39_Permitted_b2 (l : List SRequest) (s2 : Int × Int × Int) (s3 : Int × Int) : Option ((Int × Int) ⊕ ((Int × Int) ⊕ Empty)) :=
  bif (decide (s3.2 < (l.length : Int))) then (Option.bind (getI l s3.2) fun x2 => Option.bind (bif (x2.Kind == 1) then (some (decide (x2.Priority > s2.2.1))) else (some false)) fun b3 => Option.bind (bif b3 then (some (decide (x2.Torque < s3.1))) else (some false)) fun b4 => bif b4 then (some (.inl (x2.Torque, w64 (s3.2 + 1)))) else (some (.inl (s3.1, w64 (s3.2 + 1))))) else (some (.inr (.inl (s3.1, s3.2))))
noncomputable def magnetoref39_Permitted (t2 : STables) (pedal : Int) (speed : Int) (l : List SRequest) : Option Int :=
  Option.bind (magnetoref39_Corner t2.Wish speed pedal) fun v => Option.bind (magnetoref39_limit v (-5000) 10000) fun v2 => Option.bind (loopM (magnetoref39_Permitted_b1 l) ((-5000), (-1), 0)) fun (t : (Int × Int × Int) ⊕ Empty) => match t with | .inl s2 => (Option.bind (bif (decide (s2.1 > 1500)) then (some 1500) else (some s2.1)) fun (idle : Int) => Option.bind (bif (decide (idle > v2)) then (some idle) else (some v2)) fun (most : Int) => Option.bind (loopM (magnetoref39_Permitted_b2 l s2) (most, 0)) fun (t : (Int × Int) ⊕ Empty) => match t with | .inl s4 => (Option.bind (magnetoref39_limit s4.1 0 10000) fun v4 => some (w64 (v4 + 100))) | .inr r => r.elim) | .inr r => r.elim
/-- magneto/magnetolaw39.MonitorPermits -/
noncomputable def magnetolaw39_MonitorPermits (t2 : STables) (value : Int) (speed : Int) (l : List SRequest) : Option Bool :=
  Option.bind (magnetolaw39_awake) fun v => bif (!v) then (some false) else (bif (decide ((l.length : Int) > 40)) then (some true) else (Option.bind (monitor_Permitted t2 value speed l) fun r2 => Option.bind (magnetoref39_Map t2.Wish) fun v2 => Option.bind (bif (!v2) then (some true) else (Option.bind (magnetoref39_Requests l) fun v3 => some (!v3))) fun b2 => bif b2 then (some ((r2.2 == 1) && (r2.1 == 0))) else (bif (decide ((l.length : Int) > 32)) then (some ((r2.2 == 5) && (r2.1 == 0))) else (Option.bind (magnetoref39_In value 0 1000) fun v4 => Option.bind (bif (!v4) then (some true) else (Option.bind (magnetoref39_In speed 0 12000) fun v5 => some (!v5))) fun b3 => bif b3 then (some ((r2.2 == 2) && (r2.1 == 0))) else (Option.bind (bif (r2.2 == 0) then (Option.bind (magnetoref39_Permitted t2 value speed l) fun v6 => some (r2.1 == v6)) else (some false)) fun b4 => some b4)))))
/-- magneto/magnetoref39.Actual -/
noncomputable def magnetoref39_Actual_b1 (l : List SFire) (s : Int × Int) : Option ((Int × Int) ⊕ ((Int × Int) ⊕ Empty)) :=
  bif (decide (s.2 < (l.length : Int))) then (Option.bind (getI l s.2) fun x => bif (x.Inject != 0) then (some (.inl (w64 (s.1 + 1), w64 (s.2 + 1)))) else (some (.inl (s.1, w64 (s.2 + 1))))) else (some (.inr (.inl (s.1, s.2))))
noncomputable def magnetoref39_Actual (t2 : STables) (speed : Int) (charge : Int) (l : List SFire) : Option Int :=
  bif ((l.length : Int) == 0) then (some 0) else (Option.bind (loopM (magnetoref39_Actual_b1 l) (0, 0)) fun (t : (Int × Int) ⊕ Empty) => match t with | .inl s2 => (Option.bind (magnetoref39_Corner t2.Torque speed charge) fun v => Option.bind (magnetoref39_limit v 0 10000) fun v2 => Option.bind (quoM .i64 (w64 ((w64 ((w64 (v2 * s2.1)) + (l.length : Int))) - 1)) (l.length : Int)) fun q => some q) | .inr r => r.elim)
/-- magneto/magnetolaw39.MonitorMeasures -/
noncomputable def magnetolaw39_MonitorMeasures (t2 : STables) (speed : Int) (charge : Int) (l : List SFire) : Option Bool :=
  Option.bind (magnetolaw39_awake) fun v => bif (!v) then (some false) else (bif (decide ((l.length : Int) > 20)) then (some true) else (Option.bind (monitor_Actual t2 speed charge l) fun r2 => Option.bind (magnetoref39_Map t2.Torque) fun v2 => bif (!v2) then (some ((r2.2 == 1) && (r2.1 == 0))) else (bif (decide ((l.length : Int) > 8)) then (some ((r2.2 == 5) && (r2.1 == 0))) else (Option.bind (magnetoref39_In speed 0 12000) fun v3 => Option.bind (bif (!v3) then (some true) else (Option.bind (magnetoref39_In charge 0 1048576) fun v4 => some (!v4))) fun b2 => bif b2 then (some ((r2.2 == 2) && (r2.1 == 0))) else (Option.bind (bif (r2.2 == 0) then (Option.bind (magnetoref39_Actual t2 speed charge l) fun v5 => some (r2.1 == v5)) else (some false)) fun b3 => some b3)))))
end Go.Pv

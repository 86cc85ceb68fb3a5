/- This file joins: Types and models, printed by gen.py: plain Lean; nothing of the loaded program stands here. The value machine, part Xf: slices.SortFunc, by the kit's contract. The value machine, part Xh: quiet steps of regions that draw their order, taken at once. The value machine, part Xj: slices.Sort and slices.Compact at int, by the kit's contracts. The value machine, part Xl: what grows from nil by zeros; cap and slicing of nil. The value machine, part Xm: math/bits.Len64 and Mul64, by the kit's contracts. -/
import Derived.Test.YtllofihbdbdaeaaMonitorGrantsB
import Derived.Shelf.SlSortCmp.NoneTotal
import Derived.Deep.Draws
import Derived.Shelf.Sort.Plain
import Derived.Shelf.Slices.In.SortNone
import Derived.Shelf.Slices.CompactI
import Derived.Shelf.Strconv.Itoa0
import Derived.Shelf.Bits.Mul64
namespace Go.Pv
open Go
def enc_u64 (n : Int) : List Tree := [tK .u64 n]
def enc_u8 (n : Int) : List Tree := [tK .u8 n]
@[ext] structure SMap where
  X : List Int
  Y : List Int
  Z : List (List Int)
def enc_SMap (x : SMap) : List Tree := [tS Pv.encI x.X, tS Pv.encI x.Y, tS (Pv.encS Pv.encI) x.Z]
abbrev A_SMap (x : SMap) : T := .agg [.t (tS Pv.encI x.X), .t (tS Pv.encI x.Y), .t (tS (Pv.encS Pv.encI) x.Z)]
@[ext] structure SCurve where
  X : List Int
  Y : List Int
def enc_SCurve (x : SCurve) : List Tree := [tS Pv.encI x.X, tS Pv.encI x.Y]
abbrev A_SCurve (x : SCurve) : T := .agg [.t (tS Pv.encI x.X), .t (tS Pv.encI x.Y)]
@[ext] structure SGain where
  P : Int
  I : Int
  Low : Int
  High : Int
def enc_SGain (x : SGain) : List Tree := [tI x.P, tI x.I, tI x.Low, tI x.High]
abbrev A_SGain (x : SGain) : T := .agg [.t (tI x.P), .t (tI x.I), .t (tI x.Low), .t (tI x.High)]
@[ext] structure STables where
  Air : SMap
  Spark : SMap
  Torque : SMap
  Wish : SMap
  AirTemp : SCurve
  Dwell : SCurve
  Dead : SCurve
  Efficiency : SCurve
  Idle : SGain
def enc_STables (x : STables) : List Tree := [tS Pv.encI x.Air.X, tS Pv.encI x.Air.Y, tS (Pv.encS Pv.encI) x.Air.Z, tS Pv.encI x.Spark.X, tS Pv.encI x.Spark.Y, tS (Pv.encS Pv.encI) x.Spark.Z, tS Pv.encI x.Torque.X, tS Pv.encI x.Torque.Y, tS (Pv.encS Pv.encI) x.Torque.Z, tS Pv.encI x.Wish.X, tS Pv.encI x.Wish.Y, tS (Pv.encS Pv.encI) x.Wish.Z, tS Pv.encI x.AirTemp.X, tS Pv.encI x.AirTemp.Y, tS Pv.encI x.Dwell.X, tS Pv.encI x.Dwell.Y, tS Pv.encI x.Dead.X, tS Pv.encI x.Dead.Y, tS Pv.encI x.Efficiency.X, tS Pv.encI x.Efficiency.Y, tI x.Idle.P, tI x.Idle.I, tI x.Idle.Low, tI x.Idle.High]
abbrev A_STables (x : STables) : T := .agg [.t (tS Pv.encI x.Air.X), .t (tS Pv.encI x.Air.Y), .t (tS (Pv.encS Pv.encI) x.Air.Z), .t (tS Pv.encI x.Spark.X), .t (tS Pv.encI x.Spark.Y), .t (tS (Pv.encS Pv.encI) x.Spark.Z), .t (tS Pv.encI x.Torque.X), .t (tS Pv.encI x.Torque.Y), .t (tS (Pv.encS Pv.encI) x.Torque.Z), .t (tS Pv.encI x.Wish.X), .t (tS Pv.encI x.Wish.Y), .t (tS (Pv.encS Pv.encI) x.Wish.Z), .t (tS Pv.encI x.AirTemp.X), .t (tS Pv.encI x.AirTemp.Y), .t (tS Pv.encI x.Dwell.X), .t (tS Pv.encI x.Dwell.Y), .t (tS Pv.encI x.Dead.X), .t (tS Pv.encI x.Dead.Y), .t (tS Pv.encI x.Efficiency.X), .t (tS Pv.encI x.Efficiency.Y), .t (tI x.Idle.P), .t (tI x.Idle.I), .t (tI x.Idle.Low), .t (tI x.Idle.High)]
@[ext] structure SRequest where
  Source : Int
  Kind : Int
  Torque : Int
  Priority : Int
def enc_SRequest (x : SRequest) : List Tree := [tI x.Source, tI x.Kind, tI x.Torque, tI x.Priority]
abbrev A_SRequest (x : SRequest) : T := .agg [.t (tI x.Source), .t (tI x.Kind), .t (tI x.Torque), .t (tI x.Priority)]
@[ext] structure SGuard where
  Over : Int
  Calm : Int
  Off : Bool
def enc_SGuard (x : SGuard) : List Tree := [tI x.Over, tI x.Calm, tB x.Off]
abbrev A_SGuard (x : SGuard) : T := .agg [.t (tI x.Over), .t (tI x.Calm), .t (tB x.Off)]
@[ext] structure SFire where
  Cylinder : Int
  Spark : Int
  Dwell : Int
  End : Int
  Inject : Int
  Gap : Int
  Extra : Int
def enc_SFire (x : SFire) : List Tree := [tI x.Cylinder, tI x.Spark, tI x.Dwell, tI x.End, tI x.Inject, tI x.Gap, tI x.Extra]
abbrev A_SFire (x : SFire) : T := .agg [.t (tI x.Cylinder), .t (tI x.Spark), .t (tI x.Dwell), .t (tI x.End), .t (tI x.Inject), .t (tI x.Gap), .t (tI x.Extra)]
def enc_arr2_Int (x : (Int × Int)) : List Tree := [tI x.1, tI x.2]
abbrev A_arr2_Int (x : (Int × Int)) : T := .agg [.t (tI x.1), .t (tI x.2)]
@[ext] structure SGrant where
  Torque : Int
  Source : Int
def enc_SGrant (x : SGrant) : List Tree := [tI x.Torque, tI x.Source]
abbrev A_SGrant (x : SGrant) : T := .agg [.t (tI x.Torque), .t (tI x.Source)]
@[ext] structure Sarbiter_span where
  low : Int
  high : Int
  source : Int
def enc_Sarbiter_span (x : Sarbiter_span) : List Tree := [tI x.low, tI x.high, tI x.source]
abbrev A_Sarbiter_span (x : Sarbiter_span) : T := .agg [.t (tI x.low), .t (tI x.high), .t (tI x.source)]
/-- slices.IndexFunc[[]magneto/api.Request,magneto/api.Request] -/
noncomputable def slices_IndexFunc_sRequest_b1 (s : List SRequest) (f2 : SRequest → Option Bool) (i : Int) (_ : Unit) : Option (Fl Unit Int) :=
  Option.bind (getI s i) fun x => Option.bind (f2 x) fun v => bif v then (some (.ret i)) else (some (.next ()))
noncomputable def slices_IndexFunc_sRequest (s : List SRequest) (f2 : SRequest → Option Bool) : Option Int :=
  Option.bind (rangeN (s.length : Int) (slices_IndexFunc_sRequest_b1 s f2) ()) fun (t : Unit ⊕ Int) => match t with | .inl _ => (some (-1)) | .inr r2 => some r2
/-- slices.ContainsFunc[[]magneto/api.Request,magneto/api.Request] -/
noncomputable def slices_ContainsFunc_sRequest (s : List SRequest) (f2 : SRequest → Option Bool) : Option Bool :=
  Option.bind (slices_IndexFunc_sRequest s f2) fun v => some (decide (v ≥ 0))
/-- magneto/surface.element -/
noncomputable def surface_element (n2 : Int) : Option Bool :=
  some ((decide (n2 ≥ (-1073741824))) && (decide (n2 ≤ 1073741824)))
/-- magneto/surface.axis -/
noncomputable def surface_axis_b1 (l : List Int) (i : Int) (_ : Unit) : Option (Fl Unit Bool) :=
  Option.bind (getI l i) fun x => Option.bind (surface_element x) fun v => Option.bind (bif (!v) then (some true) else (Option.bind (bif (decide (i > 0)) then (Option.bind (getI l (w64 (i - 1))) fun x2 => some (decide (x ≤ x2))) else (some false)) fun b2 => some b2)) fun b3 => bif b3 then (some (.ret false)) else (some (.next ()))
noncomputable def surface_axis (l : List Int) : Option Bool :=
  bif ((decide ((l.length : Int) < 2)) || (decide ((l.length : Int) > 32))) then (some false) else (Option.bind (rangeN (l.length : Int) (surface_axis_b1 l) ()) fun (t : Unit ⊕ Bool) => match t with | .inl _ => (some true) | .inr r2 => some r2)
/-- slices.IndexFunc[[]int,int] -/
noncomputable def slices_IndexFunc_sint_b1 (s : List Int) (f2 : Int → Option Bool) (i : Int) (_ : Unit) : Option (Fl Unit Int) :=
  Option.bind (getI s i) fun x => Option.bind (f2 x) fun v => bif v then (some (.ret i)) else (some (.next ()))
noncomputable def slices_IndexFunc_sint (s : List Int) (f2 : Int → Option Bool) : Option Int :=
  Option.bind (rangeN (s.length : Int) (slices_IndexFunc_sint_b1 s f2) ()) fun (t : Unit ⊕ Int) => match t with | .inl _ => (some (-1)) | .inr r2 => some r2
/-- slices.ContainsFunc[[]int,int] -/
noncomputable def slices_ContainsFunc_sint (s : List Int) (f2 : Int → Option Bool) : Option Bool :=
  Option.bind (slices_IndexFunc_sint s f2) fun v => some (decide (v ≥ 0))
/-- magneto/surface.Valid$1 -/
noncomputable def surface_Valid_1 (z : Int) : Option Bool :=
  Option.bind (surface_element z) fun v => some (!v)
/-- magneto/surface.Valid -/
noncomputable def surface_Valid_b1 (m2 : SMap) (_ : Int) (x : List Int) (_ : Unit) : Option (Fl Unit Bool) :=
  Option.bind (bif ((x.length : Int) != (m2.Y.length : Int)) then (some true) else (Option.bind (slices_ContainsFunc_sint x surface_Valid_1) fun v3 => some v3)) fun b3 => bif b3 then (some (.ret false)) else (some (.next ()))
noncomputable def surface_Valid (m2 : SMap) : Option Bool :=
  Option.bind (surface_axis m2.X) fun v => Option.bind (bif (!v) then (some true) else (Option.bind (surface_axis m2.Y) fun v2 => some (!v2))) fun b2 => bif (b2 || ((m2.Z.length : Int) != (m2.X.length : Int))) then (some false) else (Option.bind (rangeM m2.Z (surface_Valid_b1 m2) ()) fun (t : Unit ⊕ Bool) => match t with | .inl _ => (some true) | .inr r2 => some r2)
/-- magneto/arbiter.torque -/
noncomputable def arbiter_torque (t2 : Int) : Option Bool :=
  some ((decide (t2 ≥ (-5000))) && (decide (t2 ≤ 10000)))
/-- magneto/arbiter.Valid -/
noncomputable def arbiter_Valid (r2 : SRequest) : Option Bool :=
  Option.bind (bif ((((decide (r2.Source < 0)) || (decide (r2.Source > 15))) || (decide (r2.Priority < 0))) || (decide (r2.Priority > 15))) then (some true) else (Option.bind (arbiter_torque r2.Torque) fun v => some (!v))) fun b2 => bif b2 then (some false) else (Option.bind (bif (r2.Kind == 1) then (some true) else (Option.bind (bif (decide (r2.Source ≤ 1)) then (some ((r2.Kind == 2) || (r2.Kind == 3))) else (some false)) fun b3 => some b3)) fun b4 => some b4)
/-- magneto/monitor.Permitted$1 -/
noncomputable def monitor_Permitted_1 (r2 : SRequest) : Option Bool :=
  Option.bind (arbiter_Valid r2) fun v => some (!v)
/-- magneto/monitor.within -/
noncomputable def monitor_within (x : Int) (low : Int) (high : Int) : Option Bool :=
  some ((decide (x ≥ low)) && (decide (x ≤ high)))
/-- magneto/monitor.around -/
noncomputable def monitor_around_b1 (axis : List Int) (x : Int) (i : Int) (below : Int) : Option (Fl Int Empty) :=
  Option.bind (getI axis i) fun x2 => bif (decide (x2 ≤ x)) then (some (.next i)) else (some (.next below))
noncomputable def monitor_around_b2 (axis : List Int) (x : Int) (s : Int × Int) : Option ((Int × Int) ⊕ ((Int × Int) ⊕ Empty)) :=
  bif (decide (s.1 ≥ 0)) then (Option.bind (getI axis s.1) fun x3 => bif (decide (x3 ≥ x)) then (some (.inl (w64 (s.1 - 1), s.1))) else (some (.inl (w64 (s.1 - 1), s.2)))) else (some (.inr (.inl (s.1, s.2))))
noncomputable def monitor_around (axis : List Int) (x : Int) : Option (Int × Int) :=
  Option.bind (rangeN (axis.length : Int) (monitor_around_b1 axis x) 0) fun (t : Int ⊕ Empty) => match t with | .inl below2 => (Option.bind (loopM (monitor_around_b2 axis x) (w64 ((axis.length : Int) - 1), w64 ((axis.length : Int) - 1))) fun (t : (Int × Int) ⊕ Empty) => match t with | .inl s2 => (Option.bind (getI axis 0) fun x4 => bif (decide (x < x4)) then (some (below2, 0)) else (some (below2, s2.2))) | .inr r => r.elim) | .inr r => r.elim
/-- magneto/monitor.corner -/
noncomputable def monitor_corner (m2 : SMap) (x : Int) (y : Int) : Option Int :=
  Option.bind (monitor_around m2.X x) fun r2 => Option.bind (monitor_around m2.Y y) fun r3 => Option.bind (getI m2.Z r2.1) fun x2 => Option.bind (getI x2 r3.1) fun x3 => Option.bind (getI x2 r3.2) fun x4 => Option.bind (getI m2.Z r2.2) fun x5 => Option.bind (getI x5 r3.1) fun x6 => Option.bind (getI x5 r3.2) fun x7 => some (maxI (maxI (maxI x3 x4) x6) x7)
/-- magneto/monitor.raises -/
noncomputable def monitor_raises (r2 : SRequest) : Option Bool :=
  some ((r2.Kind == 2) || (r2.Kind == 3))
/-- magneto/monitor.Permitted -/
noncomputable def monitor_Permitted_b1 (_ : Int) (x : SRequest) (s : Int × Int) : Option (Fl (Int × Int) Empty) :=
  Option.bind (monitor_raises x) fun v6 => bif (!v6) then (some (.next (s.1, s.2))) else (bif (x.Source == 1) then (some (.next (maxI s.1 (minI x.Torque 1500), maxI s.2 x.Priority))) else (some (.next (s.1, maxI s.2 x.Priority))))
noncomputable def monitor_Permitted_b2 (s2 : Int × Int) (_ : Int) (x2 : SRequest) (limit : Int) : Option (Fl Int Empty) :=
  bif ((x2.Kind == 1) && (decide (x2.Priority > s2.2))) then (some (.next (minI limit x2.Torque))) else (some (.next limit))
noncomputable def monitor_Permitted (t2 : STables) (pedal : Int) (speed : Int) (l : List SRequest) : Option (Int × Int) :=
  Option.bind (surface_Valid t2.Wish) fun v => Option.bind (bif (!v) then (some true) else (Option.bind (slices_ContainsFunc_sRequest l monitor_Permitted_1) fun v2 => some v2)) fun b2 => bif b2 then (some (0, 1)) else (bif (decide ((l.length : Int) > 32)) then (some (0, 5)) else (Option.bind (monitor_within pedal 0 1000) fun v3 => Option.bind (bif (!v3) then (some true) else (Option.bind (monitor_within speed 0 12000) fun v4 => some (!v4))) fun b3 => bif b3 then (some (0, 2)) else (Option.bind (monitor_corner t2.Wish speed pedal) fun v5 => Option.bind (rangeM l (monitor_Permitted_b1) ((-5000), (-1))) fun (t : (Int × Int) ⊕ Empty) => match t with | .inl s2 => (Option.bind (rangeM l (monitor_Permitted_b2 s2) 10000) fun (t : Int ⊕ Empty) => match t with | .inl limit2 => (some (w64 ((maxI 0 (minI limit2 (maxI (minI (maxI v5 (-5000)) 10000) s2.1))) + 100), 0)) | .inr r => r.elim) | .inr r => r.elim)))
/-- magneto/monitor.Steps -/
noncomputable def monitor_Steps : Option Int :=
  some 5
/-- magneto/magnetolaw39.tables -/
noncomputable def magnetolaw39_tables : Option STables :=
  some (⟨(⟨([] : List Int), ([] : List Int), ([] : List (List Int))⟩ : SMap), (⟨([] : List Int), ([] : List Int), ([] : List (List Int))⟩ : SMap), (⟨([] : List Int), ([] : List Int), ([] : List (List Int))⟩ : SMap), (⟨([0, 1000] : List Int), ([0, 500] : List Int), ([([0, 1000] : List Int), ([0, 1000] : List Int)] : List (List Int))⟩ : SMap), (⟨([] : List Int), ([] : List Int)⟩ : SCurve), (⟨([] : List Int), ([] : List Int)⟩ : SCurve), (⟨([] : List Int), ([] : List Int)⟩ : SCurve), (⟨([] : List Int), ([] : List Int)⟩ : SCurve), (⟨0, 0, 0, 0⟩ : SGain)⟩ : STables)
/-- magneto/magnetolaw39.awake -/
noncomputable def magnetolaw39_awake : Option Bool :=
  Option.bind (magnetolaw39_tables) fun v => Option.bind (monitor_Permitted v 100 700 ([] : List SRequest)) fun r2 => Option.bind (magnetolaw39_tables) fun v2 => Option.bind (monitor_Permitted v2 100 700 ([(⟨3, 1, 400, 0⟩ : SRequest)] : List SRequest)) fun r3 => Option.bind (bif ((((r2.2 == 0) && (r2.1 == 1100)) && (r3.2 == 0)) && (r3.1 == 500)) then (Option.bind (monitor_Steps) fun v3 => some (v3 == 5)) else (some false)) fun b2 => some b2
/-- magneto/magnetoref06.far -/
noncomputable def magnetoref06_far (n2 : Int) : Option Bool :=
  some ((decide (n2 < (-1073741824))) || (decide (n2 > 1073741824)))
/-- magneto/magnetoref06.Axis -/
noncomputable def magnetoref06_Axis_b1 (l : List Int) (i : Int) : Option (Int ⊕ (Int ⊕ Bool)) :=
  bif (decide (i < (l.length : Int))) then (Option.bind (Option.bind (getI l i) fun x => Option.bind (magnetoref06_far x) fun v => bif v then (some true) else (bif (decide (i > 0)) then (Option.bind (getI l (w64 (i - 1))) fun x2 => some (decide (x ≤ x2))) else (some false))) fun (v2 : Bool) => bif v2 then (some (.inr (.inr false))) else (some (.inl (w64 (i + 1))))) else (some (.inr (.inl i)))
noncomputable def magnetoref06_Axis (l : List Int) : Option Bool :=
  bif ((decide ((l.length : Int) < 2)) || (decide ((l.length : Int) > 32))) then (some false) else (Option.bind (loopM (magnetoref06_Axis_b1 l) 0) fun (t : Int ⊕ Bool) => match t with | .inl _ => (some true) | .inr r2 => some r2)
/-- magneto/magnetoref06.Valid -/
noncomputable def magnetoref06_Valid_b2 (m2 : SMap) (x : List Int) (j : Int) : Option (Int ⊕ (Int ⊕ Bool)) :=
  bif (decide (j < (m2.Y.length : Int))) then (Option.bind (getI x j) fun x2 => Option.bind (magnetoref06_far x2) fun v3 => bif v3 then (some (.inr (.inr false))) else (some (.inl (w64 (j + 1))))) else (some (.inr (.inl j)))
noncomputable def magnetoref06_Valid_b1 (m2 : SMap) (i : Int) : Option (Int ⊕ (Int ⊕ Bool)) :=
  bif (decide (i < (m2.Z.length : Int))) then (Option.bind (getI m2.Z i) fun x => bif ((x.length : Int) != (m2.Y.length : Int)) then (some (.inr (.inr false))) else (Option.bind (loopM (magnetoref06_Valid_b2 m2 x) 0) fun (t : Int ⊕ Bool) => match t with | .inl _ => (some (.inl (w64 (i + 1)))) | .inr r2 => some (.inr (.inr r2)))) else (some (.inr (.inl i)))
noncomputable def magnetoref06_Valid (m2 : SMap) : Option Bool :=
  Option.bind (magnetoref06_Axis m2.X) fun v => Option.bind (bif (!v) then (some true) else (Option.bind (magnetoref06_Axis m2.Y) fun v2 => some (!v2))) fun b2 => bif (b2 || ((m2.Z.length : Int) != (m2.X.length : Int))) then (some false) else (Option.bind (loopM (magnetoref06_Valid_b1 m2) 0) fun (t : Int ⊕ Bool) => match t with | .inl _ => (some true) | .inr r3 => some r3)
/-- magneto/magnetoref39.Map -/
noncomputable def magnetoref39_Map (m2 : SMap) : Option Bool :=
  Option.bind (magnetoref06_Valid m2) fun v => some v
/-- magneto/magnetoref36.Torque -/
noncomputable def magnetoref36_Torque (t2 : Int) : Option Bool :=
  some ((decide (t2 ≥ (-5000))) && (decide (t2 ≤ 10000)))
/-- magneto/magnetoref36.Valid -/
noncomputable def magnetoref36_Valid (r2 : SRequest) : Option Bool :=
  Option.bind (bif ((((decide (r2.Source < 0)) || (decide (r2.Source > 15))) || (decide (r2.Priority < 0))) || (decide (r2.Priority > 15))) then (some true) else (Option.bind (magnetoref36_Torque r2.Torque) fun v => some (!v))) fun b2 => bif ((b2 || (decide (r2.Kind < 1))) || (decide (r2.Kind > 3))) then (some false) else (some ((decide (r2.Source ≤ 1)) || (r2.Kind == 1)))
/-- magneto/magnetoref39.Requests -/
noncomputable def magnetoref39_Requests_b1 (l : List SRequest) (i : Int) : Option (Int ⊕ (Int ⊕ Bool)) :=
  bif (decide (i < (l.length : Int))) then (Option.bind (getI l i) fun x => Option.bind (magnetoref36_Valid x) fun v => bif (!v) then (some (.inr (.inr false))) else (some (.inl (w64 (i + 1))))) else (some (.inr (.inl i)))
noncomputable def magnetoref39_Requests (l : List SRequest) : Option Bool :=
  Option.bind (loopM (magnetoref39_Requests_b1 l) 0) fun (t : Int ⊕ Bool) => match t with | .inl _ => (some true) | .inr r2 => some r2
/-- magneto/magnetoref39.In -/
noncomputable def magnetoref39_In (x : Int) (low : Int) (high : Int) : Option Bool :=
  some ((decide (x ≥ low)) && (decide (x ≤ high)))
/-- magneto/magnetoref39.limit -/
noncomputable def magnetoref39_limit (x : Int) (low : Int) (high : Int) : Option Int :=
  bif (decide (x < low)) then (some low) else (bif (decide (x > high)) then (some high) else (some x))
/-- magneto/magnetoref39.Around -/
noncomputable def magnetoref39_Around_b1 (l : List Int) (x : Int) (s : Int × Int) : Option ((Int × Int) ⊕ ((Int × Int) ⊕ Empty)) :=
  bif (decide (s.1 < (l.length : Int))) then (Option.bind (getI l s.1) fun x2 => bif (decide (x2 ≤ x)) then (some (.inl (w64 (s.1 + 1), s.1))) else (some (.inl (w64 (s.1 + 1), s.2)))) else (some (.inr (.inl (s.1, s.2))))
noncomputable def magnetoref39_Around_b2 (l : List Int) (x : Int) (s3 : Int × Int) : Option ((Int × Int) ⊕ ((Int × Int) ⊕ Empty)) :=
  bif (decide (s3.1 ≥ 0)) then (Option.bind (getI l s3.1) fun x3 => bif (decide (x3 ≥ x)) then (some (.inl (w64 (s3.1 - 1), s3.1))) else (some (.inl (w64 (s3.1 - 1), s3.2)))) else (some (.inr (.inl (s3.1, s3.2))))
noncomputable def magnetoref39_Around (l : List Int) (x : Int) : Option (Int × Int) :=
  Option.bind (loopM (magnetoref39_Around_b1 l x) (0, 0)) fun (t : (Int × Int) ⊕ Empty) => match t with | .inl s2 => (Option.bind (loopM (magnetoref39_Around_b2 l x) (w64 ((l.length : Int) - 1), w64 ((l.length : Int) - 1))) fun (t : (Int × Int) ⊕ Empty) => match t with | .inl s4 => (some (s2.2, s4.2)) | .inr r => r.elim) | .inr r => r.elim
/-- magneto/magnetoref39.Corner -/
noncomputable def magnetoref39_Corner (m2 : SMap) (x : Int) (y : Int) : Option Int :=
  Option.bind (magnetoref39_Around m2.X x) fun r2 => Option.bind (magnetoref39_Around m2.Y y) fun r3 => Option.bind (getI m2.Z r2.1) fun x2 => Option.bind (getI x2 r3.1) fun x3 => Option.bind (getI x2 r3.2) fun x4 => Option.bind (bif (decide (x4 > x3)) then (some x4) else (some x3)) fun (z : Int) => Option.bind (getI m2.Z r2.2) fun x5 => Option.bind (getI x5 r3.1) fun x6 => Option.bind (bif (decide (x6 > z)) then (some x6) else (some z)) fun (z2 : Int) => Option.bind (getI x5 r3.2) fun x7 => bif (decide (x7 > z2)) then (some x7) else (some z2)
/-- magneto/magnetoref39.Raises -/
noncomputable def magnetoref39_Raises (r2 : SRequest) : Option Bool :=
  some ((r2.Kind == 2) || (r2.Kind == 3))
/-- magneto/magnetoref39.Permitted -/
noncomputable def magnetoref39_Permitted_b1 (l : List SRequest) (s : Int × Int × Int) : Option ((Int × Int × Int) ⊕ ((Int × Int × Int) ⊕ Empty)) :=
  bif (decide (s.2.2 < (l.length : Int))) then (Option.bind (getI l s.2.2) fun x => Option.bind (magnetoref39_Raises x) fun v3 => bif (!v3) then (some (.inl (s.1, s.2.1, w64 (s.2.2 + 1)))) else (Option.bind (bif (decide (x.Priority > s.2.1)) then (some x.Priority) else (some s.2.1)) fun (priority : Int) => Option.bind (bif (x.Source == 1) then (some (decide (x.Torque > s.1))) else (some false)) fun b2 => bif b2 then (some (.inl (x.Torque, priority, w64 (s.2.2 + 1)))) else (some (.inl (s.1, priority, w64 (s.2.2 + 1)))))) else (some (.inr (.inl (s.1, s.2.1, s.2.2))))
noncomputable def magnetoref39_Permitted_b2 (l : List SRequest) (s2 : Int × Int × Int) (s3 : Int × Int) : Option ((Int × Int) ⊕ ((Int × Int) ⊕ Empty)) :=
  bif (decide (s3.2 < (l.length : Int))) then (Option.bind (getI l s3.2) fun x2 => Option.bind (bif (x2.Kind == 1) then (some (decide (x2.Priority > s2.2.1))) else (some false)) fun b3 => Option.bind (bif b3 then (some (decide (x2.Torque < s3.1))) else (some false)) fun b4 => bif b4 then (some (.inl (x2.Torque, w64 (s3.2 + 1)))) else (some (.inl (s3.1, w64 (s3.2 + 1))))) else (some (.inr (.inl (s3.1, s3.2))))
noncomputable def magnetoref39_Permitted (t2 : STables) (pedal : Int) (speed : Int) (l : List SRequest) : Option Int :=
  Option.bind (magnetoref39_Corner t2.Wish speed pedal) fun v => Option.bind (magnetoref39_limit v (-5000) 10000) fun v2 => Option.bind (loopM (magnetoref39_Permitted_b1 l) ((-5000), (-1), 0)) fun (t : (Int × Int × Int) ⊕ Empty) => match t with | .inl s2 => (Option.bind (bif (decide (s2.1 > 1500)) then (some 1500) else (some s2.1)) fun (idle : Int) => Option.bind (bif (decide (idle > v2)) then (some idle) else (some v2)) fun (most : Int) => Option.bind (loopM (magnetoref39_Permitted_b2 l s2) (most, 0)) fun (t : (Int × Int) ⊕ Empty) => match t with | .inl s4 => (Option.bind (magnetoref39_limit s4.1 0 10000) fun v4 => some (w64 (v4 + 100))) | .inr r => r.elim) | .inr r => r.elim
/-- magneto/magnetolaw39.MonitorPermits -/
noncomputable def magnetolaw39_MonitorPermits (t2 : STables) (value : Int) (speed : Int) (l : List SRequest) : Option Bool :=
  Option.bind (magnetolaw39_awake) fun v => bif (!v) then (some false) else (bif (decide ((l.length : Int) > 40)) then (some true) else (Option.bind (monitor_Permitted t2 value speed l) fun r2 => Option.bind (magnetoref39_Map t2.Wish) fun v2 => Option.bind (bif (!v2) then (some true) else (Option.bind (magnetoref39_Requests l) fun v3 => some (!v3))) fun b2 => bif b2 then (some ((r2.2 == 1) && (r2.1 == 0))) else (bif (decide ((l.length : Int) > 32)) then (some ((r2.2 == 5) && (r2.1 == 0))) else (Option.bind (magnetoref39_In value 0 1000) fun v4 => Option.bind (bif (!v4) then (some true) else (Option.bind (magnetoref39_In speed 0 12000) fun v5 => some (!v5))) fun b3 => bif b3 then (some ((r2.2 == 2) && (r2.1 == 0))) else (Option.bind (bif (r2.2 == 0) then (Option.bind (magnetoref39_Permitted t2 value speed l) fun v6 => some (r2.1 == v6)) else (some false)) fun b4 => some b4)))))
/-- magneto/magnetolaw39.MonitorLimits$1 -/
noncomputable def magnetolaw39_MonitorLimits_1 (r2 : SRequest) : Option Bool :=
  some (decide (r2.Priority > 14))
/-- slices.Clone[[]magneto/api.Request,magneto/api.Request] -/
noncomputable def slices_Clone_sRequest (s : List SRequest) : Option (List SRequest) :=
  Option.bind (appendM ([] : List SRequest) s) fun l => some l
/-- magneto/magnetolaw39.MonitorLimits -/
noncomputable def magnetolaw39_MonitorLimits (t2 : STables) (value : Int) (speed : Int) (l : List SRequest) (most : Int) : Option Bool :=
  Option.bind (magnetolaw39_awake) fun v => bif (!v) then (some false) else (Option.bind (bif (((decide ((l.length : Int) > 31)) || (decide (most < (-5000)))) || (decide (most > 10000))) then (some true) else (Option.bind (slices_ContainsFunc_sRequest l magnetolaw39_MonitorLimits_1) fun v2 => some v2)) fun b2 => bif b2 then (some true) else (Option.bind (monitor_Permitted t2 value speed l) fun r2 => Option.bind (Option.bind (slices_Clone_sRequest l) fun v3 => Option.bind (appendM v3 ([(⟨9, 1, most, 15⟩ : SRequest)] : List SRequest)) fun l2 => Option.bind (monitor_Permitted t2 value speed l2) fun r3 => some (r3.1, r3.2)) fun (s : Int × Int) => bif (r2.2 != 0) then (some (r2.2 == s.2)) else (some ((((s.2 == 0) && (decide (s.1 ≤ r2.1))) && (decide (s.1 ≤ (w64 ((maxI most 0) + 100))))) && (decide (s.1 ≥ (minI r2.1 (w64 ((maxI most 0) + 100)))))))))
/-- magneto/monitor.Valid -/
noncomputable def monitor_Valid (g : SGuard) : Option Bool :=
  Option.bind (monitor_within g.Over 0 5) fun v => Option.bind (bif v then (Option.bind (monitor_within g.Calm 0 1000) fun v2 => some v2) else (some false)) fun b2 => Option.bind (bif b2 then (some ((g.Over == 0) || (g.Calm == 0))) else (some false)) fun b3 => Option.bind (bif b3 then (some (g.Off || (decide (g.Over < 5)))) else (some false)) fun b4 => some b4
/-- magneto/monitor.Step$1 -/
noncomputable def monitor_Step_1 (t2 : Int) : Option Bool :=
  Option.bind (monitor_within t2 (-20000) 20000) fun v => some v
/-- magneto/monitor.Step -/
noncomputable def monitor_Step (g : SGuard) (permitted : Int) (actual : Int) : Option (SGuard × Int) :=
  Option.bind (monitor_Valid g) fun v => bif (!v) then (some ((⟨0, 0, false⟩ : SGuard), 1)) else (Option.bind (monitor_Step_1 permitted) fun v2 => Option.bind (bif (!v2) then (some true) else (Option.bind (monitor_Step_1 actual) fun v3 => some (!v3))) fun b2 => bif b2 then (some ((⟨0, 0, false⟩ : SGuard), 2)) else (bif (decide (actual > permitted)) then (some ((⟨minI 5 (w64 (g.Over + 1)), 0, (g.Off || ((minI 5 (w64 (g.Over + 1))) == 5))⟩ : SGuard), 0)) else (some ((⟨0, minI 1000 (w64 (g.Calm + 1)), g.Off⟩ : SGuard), 0))))
/-- magneto/magnetoref39.Valid -/
noncomputable def magnetoref39_Valid (g : SGuard) : Option Bool :=
  Option.bind (magnetoref39_In g.Over 0 5) fun v => Option.bind (bif v then (Option.bind (magnetoref39_In g.Calm 0 1000) fun v2 => some v2) else (some false)) fun b2 => Option.bind (bif b2 then (some ((g.Over == 0) || (g.Calm == 0))) else (some false)) fun b3 => Option.bind (bif b3 then (some ((decide (g.Over < 5)) || g.Off)) else (some false)) fun b4 => some b4
/-- magneto/magnetoref39.Torque -/
noncomputable def magnetoref39_Torque (n2 : Int) : Option Bool :=
  Option.bind (magnetoref39_In n2 (-20000) 20000) fun v => some v
/-- magneto/magnetoref39.Step -/
noncomputable def magnetoref39_Step (g : SGuard) (permitted : Int) (actual : Int) : Option SGuard :=
  bif (decide (actual > permitted)) then (Option.bind (bif (decide ((w64 (g.Over + 1)) > 5)) then (some 5) else (some (w64 (g.Over + 1)))) fun (over : Int) => some (⟨over, 0, (g.Off || (over == 5))⟩ : SGuard)) else (bif (decide ((w64 (g.Calm + 1)) > 1000)) then (some (⟨0, 1000, g.Off⟩ : SGuard)) else (some (⟨0, w64 (g.Calm + 1), g.Off⟩ : SGuard)))
/-- magneto/magnetolaw39.MonitorSteps -/
noncomputable def magnetolaw39_MonitorSteps (g : SGuard) (permitted : Int) (actual : Int) : Option Bool :=
  Option.bind (magnetolaw39_awake) fun v => bif (!v) then (some false) else (Option.bind (monitor_Step g permitted actual) fun r2 => Option.bind (monitor_Valid g) fun v2 => Option.bind (magnetoref39_Valid g) fun v3 => bif (!(v2 == v3)) then (some false) else (Option.bind (magnetoref39_Valid g) fun v4 => bif (!v4) then (Option.bind (bif (r2.2 == 1) then (some ((r2.1.Over == 0) && ((r2.1.Calm == 0) && ((r2.1.Off == false) && true)))) else (some false)) fun b2 => some b2) else (Option.bind (magnetoref39_Torque permitted) fun v5 => Option.bind (bif (!v5) then (some true) else (Option.bind (magnetoref39_Torque actual) fun v6 => some (!v6))) fun b3 => bif b3 then (Option.bind (bif (r2.2 == 2) then (some ((r2.1.Over == 0) && ((r2.1.Calm == 0) && ((r2.1.Off == false) && true)))) else (some false)) fun b4 => some b4) else (bif (r2.2 == 0) then (Option.bind (magnetoref39_Step g permitted actual) fun v7 => bif ((r2.1.Over == v7.Over) && ((r2.1.Calm == v7.Calm) && ((r2.1.Off == v7.Off) && true))) then (Option.bind (monitor_Valid r2.1) fun v8 => some v8) else (some false)) else (some false)))))
/-- magneto/monitor.Actual -/
noncomputable def monitor_Actual_b1 (_ : Int) (x : SFire) (n2 : Int) : Option (Fl Int Empty) :=
  bif (x.Inject != 0) then (some (.next (w64 (n2 + 1)))) else (some (.next n2))
noncomputable def monitor_Actual (t2 : STables) (speed : Int) (charge : Int) (l : List SFire) : Option (Int × Int) :=
  Option.bind (surface_Valid t2.Torque) fun v => bif (!v) then (some (0, 1)) else (bif (decide ((l.length : Int) > 8)) then (some (0, 5)) else (Option.bind (monitor_within speed 0 12000) fun v2 => Option.bind (bif (!v2) then (some true) else (Option.bind (monitor_within charge 0 1048576) fun v3 => some (!v3))) fun b2 => bif b2 then (some (0, 2)) else (bif ((l.length : Int) == 0) then (some (0, 0)) else (Option.bind (rangeM l (monitor_Actual_b1) 0) fun (t : Int ⊕ Empty) => match t with | .inl n3 => (Option.bind (monitor_corner t2.Torque speed charge) fun v4 => Option.bind (quoM .i64 (w64 ((w64 ((w64 ((minI (maxI v4 0) 10000) * n3)) + (l.length : Int))) - 1)) (l.length : Int)) fun q => some (q, 0)) | .inr r => r.elim))))
/-- magneto/magnetoref39.Actual -/
noncomputable def magnetoref39_Actual_b1 (l : List SFire) (s : Int × Int) : Option ((Int × Int) ⊕ ((Int × Int) ⊕ Empty)) :=
  bif (decide (s.2 < (l.length : Int))) then (Option.bind (getI l s.2) fun x => bif (x.Inject != 0) then (some (.inl (w64 (s.1 + 1), w64 (s.2 + 1)))) else (some (.inl (s.1, w64 (s.2 + 1))))) else (some (.inr (.inl (s.1, s.2))))
noncomputable def magnetoref39_Actual (t2 : STables) (speed : Int) (charge : Int) (l : List SFire) : Option Int :=
  bif ((l.length : Int) == 0) then (some 0) else (Option.bind (loopM (magnetoref39_Actual_b1 l) (0, 0)) fun (t : (Int × Int) ⊕ Empty) => match t with | .inl s2 => (Option.bind (magnetoref39_Corner t2.Torque speed charge) fun v => Option.bind (magnetoref39_limit v 0 10000) fun v2 => Option.bind (quoM .i64 (w64 ((w64 ((w64 (v2 * s2.1)) + (l.length : Int))) - 1)) (l.length : Int)) fun q => some q) | .inr r => r.elim)
/-- magneto/magnetolaw39.MonitorMeasures -/
noncomputable def magnetolaw39_MonitorMeasures (t2 : STables) (speed : Int) (charge : Int) (l : List SFire) : Option Bool :=
  Option.bind (magnetolaw39_awake) fun v => bif (!v) then (some false) else (bif (decide ((l.length : Int) > 20)) then (some true) else (Option.bind (monitor_Actual t2 speed charge l) fun r2 => Option.bind (magnetoref39_Map t2.Torque) fun v2 => bif (!v2) then (some ((r2.2 == 1) && (r2.1 == 0))) else (bif (decide ((l.length : Int) > 8)) then (some ((r2.2 == 5) && (r2.1 == 0))) else (Option.bind (magnetoref39_In speed 0 12000) fun v3 => Option.bind (bif (!v3) then (some true) else (Option.bind (magnetoref39_In charge 0 1048576) fun v4 => some (!v4))) fun b2 => bif b2 then (some ((r2.2 == 2) && (r2.1 == 0))) else (Option.bind (bif (r2.2 == 0) then (Option.bind (magnetoref39_Actual t2 speed charge l) fun v5 => some (r2.1 == v5)) else (some false)) fun b3 => some b3)))))
/-- slices.Clone[[]magneto/api.Fire,magneto/api.Fire] -/
noncomputable def slices_Clone_sFire (s : List SFire) : Option (List SFire) :=
  Option.bind (appendM ([] : List SFire) s) fun l => some l
/-- magneto/magnetolaw39.MonitorCut -/
noncomputable def magnetolaw39_MonitorCut_b1 (i : Int) (f2 : List SFire) : Option (Fl (List SFire) Empty) :=
  Option.bind (getI f2 i) fun x2 => Option.bind (setM f2 i (⟨x2.Cylinder, x2.Spark, x2.Dwell, x2.End, 0, x2.Gap, x2.Extra⟩ : SFire)) fun l3 => some (.next l3)
noncomputable def magnetolaw39_MonitorCut (t2 : STables) (speed : Int) (charge : Int) (l : List SFire) (k : Int) : Option Bool :=
  Option.bind (magnetolaw39_awake) fun v => bif (!v) then (some false) else (bif ((decide ((l.length : Int) < 1)) || (decide ((l.length : Int) > 8))) then (some true) else (Option.bind (monitor_Actual t2 speed charge l) fun r2 => Option.bind (slices_Clone_sFire l) fun v2 => Option.bind (slices_Clone_sFire l) fun v3 => Option.bind (remM (w64 k) (l.length : Int)) fun q => Option.bind (getI v2 q) fun x => Option.bind (setM v2 q (⟨x.Cylinder, x.Spark, x.Dwell, x.End, 0, x.Gap, x.Extra⟩ : SFire)) fun l2 => Option.bind (rangeN (v3.length : Int) (magnetolaw39_MonitorCut_b1) v3) fun (t : (List SFire) ⊕ Empty) => match t with | .inl f3 => (Option.bind (monitor_Actual t2 speed charge l2) fun r3 => Option.bind (monitor_Actual t2 speed charge f3) fun r4 => bif (r2.2 != 0) then (some ((r2.2 == r3.2) && (r3.2 == r4.2))) else (some (((((r3.2 == 0) && (r4.2 == 0)) && (decide (r3.1 ≤ r2.1))) && (r4.1 == 0)) && (decide (r2.1 ≤ 10000))))) | .inr r => r.elim))
/-- magneto/monitor.Run -/
noncomputable def monitor_Run_b1 (_ : Int) (x : (Int × Int)) (s : List Bool × SGuard) : Option (Fl (List Bool × SGuard) (List Bool × Int)) :=
  Option.bind (monitor_Step s.2 x.1 x.2) fun r2 => bif (r2.2 != 0) then (some (.ret (([] : List Bool), r2.2))) else (Option.bind (Option.bind (appendM s.1 ([r2.1.Off] : List Bool)) fun l2 => some (r2.1, l2)) fun (s2 : SGuard × List Bool) => some (.next (s2.2, s2.1)))
noncomputable def monitor_Run (l : List (Int × Int)) : Option (List Bool × Int) :=
  bif (decide ((l.length : Int) > 1000)) then (some (([] : List Bool), 5)) else (Option.bind (rangeM l (monitor_Run_b1) (([] : List Bool), (⟨0, 0, false⟩ : SGuard))) fun (t : (List Bool × SGuard) ⊕ (List Bool × Int)) => match t with | .inl s3 => (some (s3.1, 0)) | .inr r3 => some r3)
/-- slices.IndexFunc[[][2]int,[2]int] -/
noncomputable def slices_IndexFunc_s_2_int_b1 (s : List (Int × Int)) (f2 : (Int × Int) → Option Bool) (i : Int) (_ : Unit) : Option (Fl Unit Int) :=
  Option.bind (getI s i) fun x => Option.bind (f2 x) fun v => bif v then (some (.ret i)) else (some (.next ()))
noncomputable def slices_IndexFunc_s_2_int (s : List (Int × Int)) (f2 : (Int × Int) → Option Bool) : Option Int :=
  Option.bind (rangeN (s.length : Int) (slices_IndexFunc_s_2_int_b1 s f2) ()) fun (t : Unit ⊕ Int) => match t with | .inl _ => (some (-1)) | .inr r2 => some r2
/-- slices.ContainsFunc[[][2]int,[2]int] -/
noncomputable def slices_ContainsFunc_s_2_int (s : List (Int × Int)) (f2 : (Int × Int) → Option Bool) : Option Bool :=
  Option.bind (slices_IndexFunc_s_2_int s f2) fun v => some (decide (v ≥ 0))
/-- magneto/magnetolaw39.MonitorReacts$1 -/
noncomputable def magnetolaw39_MonitorReacts_1 (p2 : (Int × Int)) : Option Bool :=
  Option.bind (magnetoref39_Torque p2.1) fun v => Option.bind (bif (!v) then (some true) else (Option.bind (magnetoref39_Torque p2.2) fun v2 => some (!v2))) fun b2 => some b2
/-- magneto/magnetolaw39.MonitorReacts -/
noncomputable def magnetolaw39_MonitorReacts_b1 (l : List (Int × Int)) (r2 : List Bool × Int) (i : Int) (s : Int × Bool × SGuard) : Option (Fl (Int × Bool × SGuard) Bool) :=
  Option.bind (getI l i) fun x => Option.bind (bif (decide (x.2 ≤ x.1)) then (some 0) else (some (w64 (s.1 + 1)))) fun (row : Int) => Option.bind (bif s.2.1 then (some true) else (Option.bind (monitor_Steps) fun v3 => some (decide (row ≥ v3)))) fun b2 => Option.bind (monitor_Step s.2.2 x.1 x.2) fun r3 => Option.bind (bif ((r3.2 != 0) || (!(r3.1.Off == b2))) then (some true) else (Option.bind (getI r2.1 i) fun x2 => some (!(x2 == b2)))) fun b3 => bif b3 then (some (.ret false)) else (some (.next (row, b2, r3.1)))
noncomputable def magnetolaw39_MonitorReacts (l : List (Int × Int)) : Option Bool :=
  Option.bind (magnetolaw39_awake) fun v => bif (!v) then (some false) else (bif (decide ((l.length : Int) > 200)) then (some true) else (Option.bind (monitor_Run l) fun r2 => Option.bind (slices_ContainsFunc_s_2_int l magnetolaw39_MonitorReacts_1) fun v2 => bif v2 then (some ((r2.2 == 2) && ((r2.1.length : Int) == 0))) else (bif ((r2.2 != 0) || ((r2.1.length : Int) != (l.length : Int))) then (some false) else (Option.bind (rangeN (l.length : Int) (magnetolaw39_MonitorReacts_b1 l r2) (0, false, (⟨0, 0, false⟩ : SGuard))) fun (t : (Int × Bool × SGuard) ⊕ Bool) => match t with | .inl _ => (some true) | .inr r4 => some r4))))
/-- magneto/torque.within -/
noncomputable def torque_within (x : Int) (low : Int) (high : Int) : Option Bool :=
  some ((decide (x ≥ low)) && (decide (x ≤ high)))
/-- magneto/arith.Clamp -/
noncomputable def arith_Clamp (x : Int) (low : Int) (high : Int) : Option Int :=
  some (minI (maxI x low) high)
/-- sort.Search -/
noncomputable def sort_Search_b1 (f2 : Int → Option Bool) (s : Int × Int) : Option ((Int × Int) ⊕ ((Int × Int) ⊕ Empty)) :=
  bif (decide (s.1 < s.2)) then (Option.bind (f2 (w64 (bitShr .u64 (IntKind.u64.wrap (w64 (s.1 + s.2))) 1))) fun v => bif (!v) then (some (.inl (w64 ((w64 (bitShr .u64 (IntKind.u64.wrap (w64 (s.1 + s.2))) 1)) + 1), s.2))) else (some (.inl (s.1, w64 (bitShr .u64 (IntKind.u64.wrap (w64 (s.1 + s.2))) 1))))) else (some (.inr (.inl (s.1, s.2))))
noncomputable def sort_Search (n2 : Int) (f2 : Int → Option Bool) : Option Int :=
  Option.bind (loopM (sort_Search_b1 f2) (0, n2)) fun (t : (Int × Int) ⊕ Empty) => match t with | .inl s2 => (some s2.1) | .inr r => r.elim
/-- magneto/surface.segment$1 -/
noncomputable def surface_segment_1 (i : Int) (c : List Int) (c2 : Int) : Option Bool :=
  Option.bind (getI c i) fun x => some (decide (x > c2))
/-- magneto/surface.segment -/
noncomputable def surface_segment (l : List Int) (x : Int) : Option (Int × Int) :=
  Option.bind (getI l 0) fun x2 => Option.bind (getI l (w64 ((l.length : Int) - 1))) fun x3 => Option.bind (arith_Clamp x x2 x3) fun v => Option.bind (sort_Search (l.length : Int) (fun x0 => surface_segment_1 x0 l v)) fun v2 => some (minI (w64 (v2 - 1)) (w64 ((l.length : Int) - 2)), v)
/-- math/bits.Mul64 -/
noncomputable def math_bits_Mul64 (x : Int) (y : Int) : Option (Int × Int) :=
  mul64M x y
/-- magneto/arith.magnitude -/
noncomputable def arith_magnitude (n2 : Int) : Option Int :=
  bif (decide (n2 < 0)) then (some (IntKind.u64.wrap ((IntKind.u64.wrap (w64 (0 - (w64 (n2 + 1))))) + 1))) else (some (IntKind.u64.wrap n2))
/-- math/bits.Len64 -/
noncomputable def math_bits_Len64 (x : Int) : Option Int :=
  len64M x
/-- math/bits.LeadingZeros64 -/
noncomputable def math_bits_LeadingZeros64 (x : Int) : Option Int :=
  Option.bind (math_bits_Len64 x) fun v => some (w64 (64 - v))
/-- math/bits.Div64 -/
noncomputable def math_bits_Div64_b1 (q3 : Int) (q6 : Int) (s3 : Int × Int) : Option ((Int × Int) ⊕ ((Int × Int) ⊕ Empty)) :=
  bif ((decide (s3.1 ≥ 4294967296)) || (decide ((IntKind.u64.wrap (s3.1 * (bitAnd .u64 q3 4294967295))) > (IntKind.u64.wrap ((IntKind.u64.wrap (4294967296 * s3.2)) + (bitShr .u64 q6 32)))))) then (bif (decide ((IntKind.u64.wrap (s3.2 + (bitShr .u64 q3 32))) ≥ 4294967296)) then (some (.inr (.inl (IntKind.u64.wrap (s3.1 - 1), IntKind.u64.wrap (s3.2 + (bitShr .u64 q3 32)))))) else (some (.inl (IntKind.u64.wrap (s3.1 - 1), IntKind.u64.wrap (s3.2 + (bitShr .u64 q3 32)))))) else (some (.inr (.inl (s3.1, s3.2))))
noncomputable def math_bits_Div64_b2 (q3 : Int) (q6 : Int) (s5 : Int × Int) : Option ((Int × Int) ⊕ ((Int × Int) ⊕ Empty)) :=
  bif ((decide (s5.2 ≥ 4294967296)) || (decide ((IntKind.u64.wrap (s5.2 * (bitAnd .u64 q3 4294967295))) > (IntKind.u64.wrap ((IntKind.u64.wrap (4294967296 * s5.1)) + (bitAnd .u64 q6 4294967295)))))) then (bif (decide ((IntKind.u64.wrap (s5.1 + (bitShr .u64 q3 32))) ≥ 4294967296)) then (some (.inr (.inl (IntKind.u64.wrap (s5.1 + (bitShr .u64 q3 32)), IntKind.u64.wrap (s5.2 - 1))))) else (some (.inl (IntKind.u64.wrap (s5.1 + (bitShr .u64 q3 32)), IntKind.u64.wrap (s5.2 - 1))))) else (some (.inr (.inl (s5.1, s5.2))))
noncomputable def math_bits_Div64 (hi : Int) (lo : Int) (y : Int) : Option (Int × Int) :=
  Option.bind (bif (y == 0) then none else (some ())) fun (_ : Unit) => Option.bind (bif (decide (y ≤ hi)) then none else (some ())) fun (_ : Unit) => bif (hi == 0) then (Option.bind (quoM .u64 lo y) fun q => Option.bind (remM lo y) fun q2 => some (q, q2)) else (Option.bind (math_bits_LeadingZeros64 y) fun v => Option.bind (shlM .u64 y (IntKind.u64.wrap v)) fun q3 => Option.bind (shlM .u64 hi (IntKind.u64.wrap v)) fun q4 => Option.bind (shrM .u64 lo (IntKind.u64.wrap (64 - (IntKind.u64.wrap v)))) fun q5 => Option.bind (shlM .u64 lo (IntKind.u64.wrap v)) fun q6 => Option.bind (quoM .u64 (bitOr .u64 q4 q5) (bitShr .u64 q3 32)) fun q7 => Option.bind (loopM (math_bits_Div64_b1 q3 q6) (q7, IntKind.u64.wrap ((bitOr .u64 q4 q5) - (IntKind.u64.wrap (q7 * (bitShr .u64 q3 32)))))) fun (t : (Int × Int) ⊕ Empty) => match t with | .inl s4 => (Option.bind (quoM .u64 (IntKind.u64.wrap ((IntKind.u64.wrap ((IntKind.u64.wrap ((bitOr .u64 q4 q5) * 4294967296)) + (bitShr .u64 q6 32))) - (IntKind.u64.wrap (s4.1 * q3)))) (bitShr .u64 q3 32)) fun q8 => Option.bind (loopM (math_bits_Div64_b2 q3 q6) (IntKind.u64.wrap ((IntKind.u64.wrap ((IntKind.u64.wrap ((IntKind.u64.wrap ((bitOr .u64 q4 q5) * 4294967296)) + (bitShr .u64 q6 32))) - (IntKind.u64.wrap (s4.1 * q3)))) - (IntKind.u64.wrap (q8 * (bitShr .u64 q3 32)))), q8)) fun (t : (Int × Int) ⊕ Empty) => match t with | .inl s6 => (Option.bind (shrM .u64 (IntKind.u64.wrap ((IntKind.u64.wrap ((IntKind.u64.wrap ((IntKind.u64.wrap ((IntKind.u64.wrap ((IntKind.u64.wrap ((bitOr .u64 q4 q5) * 4294967296)) + (bitShr .u64 q6 32))) - (IntKind.u64.wrap (s4.1 * q3)))) * 4294967296)) + (bitAnd .u64 q6 4294967295))) - (IntKind.u64.wrap (s6.2 * q3)))) (IntKind.u64.wrap v)) fun q9 => some (IntKind.u64.wrap ((IntKind.u64.wrap (s4.1 * 4294967296)) + s6.2), q9)) | .inr r => r.elim) | .inr r => r.elim)
/-- magneto/arith.rounded -/
noncomputable def arith_rounded (r2 : Int) (c : Int) (negative : Bool) (mode : Int) : Option Bool :=
  bif (mode == 1) then (some (negative && (decide (r2 > 0)))) else (bif (mode == 2) then (some ((!negative) && (decide (r2 > 0)))) else (bif negative then (some (decide (r2 > (IntKind.u64.wrap (c - r2))))) else (some (decide (r2 ≥ (IntKind.u64.wrap (c - r2)))))))
/-- magneto/arith.MulDiv -/
noncomputable def arith_MulDiv (a : Int) (b2 : Int) (c : Int) (mode : Int) : Option (Int × Int) :=
  bif ((decide (mode < 1)) || (decide (mode > 3))) then (some (0, 1)) else (bif (c == 0) then (some (0, 10)) else (Option.bind (arith_magnitude a) fun v => Option.bind (arith_magnitude b2) fun v2 => Option.bind (math_bits_Mul64 v v2) fun r2 => Option.bind (arith_magnitude c) fun v3 => bif (decide (r2.1 ≥ v3)) then (some (0, 9)) else (Option.bind (math_bits_Div64 r2.1 r2.2 v3) fun r3 => bif (decide (r3.1 > 9223372036854775808)) then (some (0, 9)) else (Option.bind (arith_rounded r3.2 v3 (!((!((decide (a < 0)) == (decide (b2 < 0)))) == (decide (c < 0)))) mode) fun v4 => Option.bind (bif v4 then (some (IntKind.u64.wrap (r3.1 + 1))) else (some r3.1)) fun (q : Int) => bif ((!((!((decide (a < 0)) == (decide (b2 < 0)))) == (decide (c < 0)))) && (decide (q ≤ 9223372036854775808))) then (some (w64 ((w64 (0 - (w64 (IntKind.u64.wrap (q - 1))))) - 1), 0)) else (bif ((!(!((!((decide (a < 0)) == (decide (b2 < 0)))) == (decide (c < 0))))) && (decide (q < 9223372036854775808))) then (some (w64 q, 0)) else (some (0, 9)))))))
/-- magneto/arith.Div -/
noncomputable def arith_Div (a : Int) (b2 : Int) (mode : Int) : Option (Int × Int) :=
  Option.bind (arith_MulDiv a 1 b2 mode) fun r2 => some (r2.1, r2.2)
/-- magneto/arith.Floor -/
noncomputable def arith_Floor (a : Int) (b2 : Int) : Option Int :=
  Option.bind (arith_Div a b2 1) fun r2 => some r2.1
/-- magneto/surface.between -/
noncomputable def surface_between (x0 : Int) (x1 : Int) (y0 : Int) (y1 : Int) (x : Int) : Option Int :=
  Option.bind (arith_Floor (w64 ((w64 (x - x0)) * (w64 (y1 - y0)))) (w64 (x1 - x0))) fun v => some (w64 (y0 + v))
/-- magneto/surface.at$1 -/
noncomputable def surface_at_1 (j : Int) (c : SMap) (c2 : Int) (c3 : Int) : Option Int :=
  Option.bind (getI c.X c2) fun x => Option.bind (getI c.X (w64 (c2 + 1))) fun x2 => Option.bind (getI c.Z c2) fun x3 => Option.bind (getI x3 j) fun x4 => Option.bind (getI c.Z (w64 (c2 + 1))) fun x5 => Option.bind (getI x5 j) fun x6 => Option.bind (surface_between x x2 x4 x6 c3) fun v => some v
/-- magneto/surface.at -/
noncomputable def surface_at (m2 : SMap) (x : Int) (y : Int) : Option Int :=
  Option.bind (surface_segment m2.X x) fun r2 => Option.bind (surface_segment m2.Y y) fun r3 => Option.bind (getI m2.Y r3.1) fun x2 => Option.bind (getI m2.Y (w64 (r3.1 + 1))) fun x3 => Option.bind (surface_at_1 r3.1 m2 r2.1 r2.2) fun v => Option.bind (surface_at_1 (w64 (r3.1 + 1)) m2 r2.1 r2.2) fun v2 => Option.bind (surface_between x2 x3 v v2 r3.2) fun v3 => some v3
/-- magneto/surface.At -/
noncomputable def surface_At (m2 : SMap) (x : Int) (y : Int) : Option Int :=
  Option.bind (surface_Valid m2) fun v => bif (!v) then (some 0) else (Option.bind (surface_at m2 x y) fun v2 => some v2)
/-- magneto/curve.far -/
noncomputable def curve_far (n2 : Int) : Option Bool :=
  some ((decide (n2 < (-1073741824))) || (decide (n2 > 1073741824)))
/-- magneto/curve.axis -/
noncomputable def curve_axis_b1 (l : List Int) (i : Int) (_ : Unit) : Option (Fl Unit Bool) :=
  Option.bind (getI l i) fun x => Option.bind (getI l (w64 (i + 1))) fun x2 => bif (decide (x ≥ x2)) then (some (.ret false)) else (some (.next ()))
noncomputable def curve_axis (l : List Int) : Option Bool :=
  Option.bind (bif ((decide ((l.length : Int) < 2)) || (decide ((l.length : Int) > 32))) then (some true) else (Option.bind (slices_ContainsFunc_sint l curve_far) fun v => some v)) fun b2 => bif b2 then (some false) else (Option.bind (rangeN (w64 ((l.length : Int) - 1)) (curve_axis_b1 l) ()) fun (t : Unit ⊕ Bool) => match t with | .inl _ => (some true) | .inr r2 => some r2)
/-- magneto/curve.Valid -/
noncomputable def curve_Valid (c : SCurve) : Option Bool :=
  Option.bind (bif ((c.X.length : Int) == (c.Y.length : Int)) then (Option.bind (curve_axis c.X) fun v => some v) else (some false)) fun b2 => Option.bind (bif b2 then (Option.bind (slices_ContainsFunc_sint c.Y curve_far) fun v2 => some (!v2)) else (some false)) fun b3 => some b3
/-- magneto/torque.outside$1 -/
noncomputable def torque_outside_1 (x : Int) (c : Int) (c2 : Int) : Option Bool :=
  Option.bind (torque_within x c c2) fun v => some (!v)
/-- magneto/torque.outside -/
noncomputable def torque_outside (l : List Int) (low : Int) (high : Int) : Option Bool :=
  Option.bind (slices_ContainsFunc_sint l (fun x0 => torque_outside_1 x0 low high)) fun v => some v
/-- slices.IsSortedFunc[[]int,int] -/
noncomputable def slices_IsSortedFunc_sint_b1 (x : List Int) (cmp : Int → Int → Option Int) (i : Int) : Option (Int ⊕ (Int ⊕ Bool)) :=
  bif (decide (i > 0)) then (Option.bind (getI x i) fun x2 => Option.bind (getI x (w64 (i - 1))) fun x3 => Option.bind (cmp x2 x3) fun v => bif (decide (v < 0)) then (some (.inr (.inr false))) else (some (.inl (w64 (i - 1))))) else (some (.inr (.inl i)))
noncomputable def slices_IsSortedFunc_sint (x : List Int) (cmp : Int → Int → Option Int) : Option Bool :=
  Option.bind (loopM (slices_IsSortedFunc_sint_b1 x cmp) (w64 ((x.length : Int) - 1))) fun (t : Int ⊕ Bool) => match t with | .inl _ => (some true) | .inr r2 => some r2
/-- magneto/torque.Valid$1 -/
noncomputable def torque_Valid_1 (a : Int) (b2 : Int) : Option Int :=
  some (w64 (b2 - a))
/-- slices.IndexFunc[[][]int,[]int] -/
noncomputable def slices_IndexFunc_ssint_b1 (s : List (List Int)) (f2 : (List Int) → Option Bool) (i : Int) (_ : Unit) : Option (Fl Unit Int) :=
  Option.bind (getI s i) fun x => Option.bind (f2 x) fun v => bif v then (some (.ret i)) else (some (.next ()))
noncomputable def slices_IndexFunc_ssint (s : List (List Int)) (f2 : (List Int) → Option Bool) : Option Int :=
  Option.bind (rangeN (s.length : Int) (slices_IndexFunc_ssint_b1 s f2) ()) fun (t : Unit ⊕ Int) => match t with | .inl _ => (some (-1)) | .inr r2 => some r2
/-- slices.ContainsFunc[[][]int,[]int] -/
noncomputable def slices_ContainsFunc_ssint (s : List (List Int)) (f2 : (List Int) → Option Bool) : Option Bool :=
  Option.bind (slices_IndexFunc_ssint s f2) fun v => some (decide (v ≥ 0))
/-- cmp.isNaN[int] -/
noncomputable def cmp_isNaN_int (x : Int) : Option Bool :=
  some (x != x)
/-- cmp.Less[int] -/
noncomputable def cmp_Less_int (x : Int) (y : Int) : Option Bool :=
  Option.bind (cmp_isNaN_int x) fun v => Option.bind (bif v then (Option.bind (cmp_isNaN_int y) fun v2 => some (!v2)) else (some false)) fun b2 => some (b2 || (decide (x < y)))
/-- slices.IsSorted[[]int,int] -/
noncomputable def slices_IsSorted_sint_b1 (x : List Int) (i : Int) : Option (Int ⊕ (Int ⊕ Bool)) :=
  bif (decide (i > 0)) then (Option.bind (getI x i) fun x2 => Option.bind (getI x (w64 (i - 1))) fun x3 => Option.bind (cmp_Less_int x2 x3) fun v => bif v then (some (.inr (.inr false))) else (some (.inl (w64 (i - 1))))) else (some (.inr (.inl i)))
noncomputable def slices_IsSorted_sint (x : List Int) : Option Bool :=
  Option.bind (loopM (slices_IsSorted_sint_b1 x) (w64 ((x.length : Int) - 1))) fun (t : Int ⊕ Bool) => match t with | .inl _ => (some true) | .inr r2 => some r2
/-- magneto/torque.Valid$2 -/
noncomputable def torque_Valid_2 (row : List Int) : Option Bool :=
  Option.bind (torque_outside row 0 10000) fun v => Option.bind (bif v then (some true) else (Option.bind (slices_IsSorted_sint row) fun v2 => some (!v2))) fun b2 => some b2
/-- magneto/torque.Valid -/
noncomputable def torque_Valid (t2 : STables) : Option Bool :=
  Option.bind (surface_Valid t2.Torque) fun v => Option.bind (bif (!v) then (some true) else (Option.bind (curve_Valid t2.Efficiency) fun v2 => some (!v2))) fun b2 => Option.bind (bif b2 then (some true) else (Option.bind (torque_outside t2.Efficiency.Y 0 1000) fun v3 => some v3)) fun b3 => bif b3 then (some false) else (Option.bind (slices_IsSortedFunc_sint t2.Efficiency.Y torque_Valid_1) fun v4 => bif (!v4) then (some false) else (Option.bind (slices_ContainsFunc_ssint t2.Torque.Z torque_Valid_2) fun v5 => some (!v5)))
/-- magneto/torque.Optimal -/
noncomputable def torque_Optimal (t2 : STables) (speed : Int) (charge : Int) : Option (Int × Int) :=
  Option.bind (torque_Valid t2) fun v => bif (!v) then (some (0, 1)) else (Option.bind (torque_within speed 0 12000) fun v2 => Option.bind (bif (!v2) then (some true) else (Option.bind (torque_within charge 0 1048576) fun v3 => some (!v3))) fun b2 => bif b2 then (some (0, 2)) else (Option.bind (surface_At t2.Torque speed charge) fun v4 => some (v4, 0)))
/-- magneto/curve.segment$1 -/
noncomputable def curve_segment_1 (i : Int) (c : SCurve) (c2 : Int) : Option Bool :=
  Option.bind (getI c.X i) fun x => some (decide (x > c2))
/-- magneto/curve.segment -/
noncomputable def curve_segment (c : SCurve) (x : Int) : Option Int :=
  Option.bind (sort_Search (c.X.length : Int) (fun x0 => curve_segment_1 x0 c x)) fun v => some (w64 (v - 1))
/-- magneto/curve.value -/
noncomputable def curve_value (c : SCurve) (x : Int) : Option Int :=
  Option.bind (getI c.X 0) fun x2 => bif (decide (x ≤ x2)) then (Option.bind (getI c.Y 0) fun x3 => some x3) else (Option.bind (getI c.X (w64 ((c.X.length : Int) - 1))) fun x4 => bif (decide (x ≥ x4)) then (Option.bind (getI c.Y (w64 ((c.X.length : Int) - 1))) fun x5 => some x5) else (Option.bind (curve_segment c x) fun v => Option.bind (getI c.Y v) fun x6 => Option.bind (getI c.X v) fun x7 => Option.bind (getI c.Y (w64 (v + 1))) fun x8 => Option.bind (getI c.X (w64 (v + 1))) fun x9 => Option.bind (arith_Floor (w64 ((w64 (x - x7)) * (w64 (x8 - x6)))) (w64 (x9 - x7))) fun v2 => some (w64 (x6 + v2))))
/-- magneto/curve.At -/
noncomputable def curve_At (c : SCurve) (x : Int) : Option Int :=
  Option.bind (curve_Valid c) fun v => bif (!v) then (some 0) else (Option.bind (curve_value c x) fun v2 => some v2)
/-- magneto/torque.torque -/
noncomputable def torque_torque (t2 : STables) (optimal : Int) (late : Int) (fired : Int) (cylinders : Int) : Option Int :=
  Option.bind (curve_At t2.Efficiency late) fun v => Option.bind (quoM .i64 (w64 ((w64 (optimal * v)) * fired)) (w64 (1000 * cylinders))) fun q => some q
/-- magneto/torque.Torque -/
noncomputable def torque_Torque (t2 : STables) (speed : Int) (charge : Int) (late : Int) (fired : Int) (cylinders : Int) : Option (Int × Int) :=
  Option.bind (torque_Optimal t2 speed charge) fun r2 => bif (r2.2 != 0) then (some (0, r2.2)) else (Option.bind (torque_within late 0 2560) fun v => Option.bind (bif (!v) then (some true) else (Option.bind (torque_within cylinders 1 8) fun v2 => some (!v2))) fun b2 => Option.bind (bif b2 then (some true) else (Option.bind (torque_within fired 0 cylinders) fun v3 => some (!v3))) fun b3 => bif b3 then (some (0, 2)) else (Option.bind (torque_torque t2 r2.1 late fired cylinders) fun v4 => some (v4, 0)))
/-- magneto/magnetolaw39.MonitorSees -/
noncomputable def magnetolaw39_MonitorSees_b1 (_ : Int) (x : SFire) (fired : Int) : Option (Fl Int Empty) :=
  bif (x.Inject != 0) then (some (.next (w64 (fired + 1)))) else (some (.next fired))
noncomputable def magnetolaw39_MonitorSees (t2 : STables) (speed : Int) (charge : Int) (late : Int) (l : List SFire) : Option Bool :=
  Option.bind (magnetolaw39_awake) fun v => bif (!v) then (some false) else (bif ((decide ((l.length : Int) < 1)) || (decide ((l.length : Int) > 8))) then (some true) else (Option.bind (rangeM l (magnetolaw39_MonitorSees_b1) 0) fun (t : Int ⊕ Empty) => match t with | .inl fired2 => (Option.bind (monitor_Actual t2 speed charge l) fun r2 => Option.bind (torque_Torque t2 speed charge late fired2 (l.length : Int)) fun r3 => some (((r2.2 != 0) || (r3.2 != 0)) || (decide (r3.1 ≤ r2.1)))) | .inr r => r.elim))
/-- magneto/pedal.Wish -/
noncomputable def pedal_Wish (t2 : STables) (value : Int) (speed : Int) : Option (Int × Int) :=
  Option.bind (surface_Valid t2.Wish) fun v => bif (!v) then (some (0, 1)) else (bif ((((decide (value < 0)) || (decide (value > 1000))) || (decide (speed < 0))) || (decide (speed > 12000))) then (some (0, 2)) else (Option.bind (surface_At t2.Wish speed value) fun v2 => Option.bind (arith_Clamp v2 (-5000) 10000) fun v3 => some (v3, 0)))
/-- magneto/arbiter.given$1 -/
noncomputable def arbiter_given_1 (r2 : SRequest) : Option Bool :=
  Option.bind (arbiter_Valid r2) fun v => some (!v)
/-- magneto/arbiter.given -/
noncomputable def arbiter_given (l : List SRequest) (low : Int) (high : Int) : Option Int :=
  Option.bind (slices_ContainsFunc_sRequest l arbiter_given_1) fun v => bif v then (some 1) else (bif (decide ((l.length : Int) > 32)) then (some 5) else (Option.bind (arbiter_torque low) fun v2 => Option.bind (bif (!v2) then (some true) else (Option.bind (arbiter_torque high) fun v3 => some (!v3))) fun b2 => bif (b2 || (decide (low > high))) then (some 2) else (some 0)))
/-- slices.insertionSortCmpFunc[magneto/api.Request] -/
noncomputable def slices_insertionSortCmpFunc_Request_b2 (a : Int) (cmp : SRequest → SRequest → Option Int) (s2 : Int × List SRequest) : Option ((Int × List SRequest) ⊕ ((Int × List SRequest) ⊕ Empty)) :=
  Option.bind (bif (decide (s2.1 > a)) then (Option.bind (getI s2.2 s2.1) fun x => Option.bind (getI s2.2 (w64 (s2.1 - 1))) fun x2 => Option.bind (cmp x x2) fun v => some (decide (v < 0))) else (some false)) fun (v2 : Bool) => bif v2 then (Option.bind (Option.bind (getI s2.2 (w64 (s2.1 - 1))) fun x3 => Option.bind (getI s2.2 s2.1) fun x4 => Option.bind (setM s2.2 s2.1 x3) fun l => Option.bind (getI l (w64 (s2.1 - 1))) fun _ => Option.bind (setM l (w64 (s2.1 - 1)) x4) fun l2 => some l2) fun (f2 : List SRequest) => some (.inl (w64 (s2.1 - 1), f2))) else (some (.inr (.inl (s2.1, s2.2))))
noncomputable def slices_insertionSortCmpFunc_Request_b1 (a : Int) (b2 : Int) (cmp : SRequest → SRequest → Option Int) (s : Int × List SRequest) : Option ((Int × List SRequest) ⊕ ((Int × List SRequest) ⊕ Empty)) :=
  bif (decide (s.1 < b2)) then (Option.bind (loopM (slices_insertionSortCmpFunc_Request_b2 a cmp) (s.1, s.2)) fun (t : (Int × List SRequest) ⊕ Empty) => match t with | .inl s3 => (some (.inl (w64 (s.1 + 1), s3.2))) | .inr r => r.elim) else (some (.inr (.inl (s.1, s.2))))
noncomputable def slices_insertionSortCmpFunc_Request (data : List SRequest) (a : Int) (b2 : Int) (cmp : SRequest → SRequest → Option Int) : Option (List SRequest) :=
  Option.bind (loopM (slices_insertionSortCmpFunc_Request_b1 a b2 cmp) (w64 (a + 1), data)) fun (t : (Int × List SRequest) ⊕ Empty) => match t with | .inl s4 => (some s4.2) | .inr r => r.elim
/-- slices.swapRangeCmpFunc[magneto/api.Request] -/
noncomputable def slices_swapRangeCmpFunc_Request_b1 (a : Int) (b2 : Int) (n2 : Int) (s : Int × List SRequest) : Option ((Int × List SRequest) ⊕ ((Int × List SRequest) ⊕ Empty)) :=
  bif (decide (s.1 < n2)) then (Option.bind (Option.bind (getI s.2 (w64 (b2 + s.1))) fun x => Option.bind (getI s.2 (w64 (a + s.1))) fun x2 => Option.bind (setM s.2 (w64 (a + s.1)) x) fun l => Option.bind (getI l (w64 (b2 + s.1))) fun _ => Option.bind (setM l (w64 (b2 + s.1)) x2) fun l2 => some l2) fun (f2 : List SRequest) => some (.inl (w64 (s.1 + 1), f2))) else (some (.inr (.inl (s.1, s.2))))
noncomputable def slices_swapRangeCmpFunc_Request (data : List SRequest) (a : Int) (b2 : Int) (n2 : Int) (_ : SRequest → SRequest → Option Int) : Option (List SRequest) :=
  Option.bind (loopM (slices_swapRangeCmpFunc_Request_b1 a b2 n2) (0, data)) fun (t : (Int × List SRequest) ⊕ Empty) => match t with | .inl s2 => (some s2.2) | .inr r => r.elim
/-- slices.rotateCmpFunc[magneto/api.Request] -/
noncomputable def slices_rotateCmpFunc_Request_b1 (m2 : Int) (cmp : SRequest → SRequest → Option Int) (s : Int × Int × List SRequest) : Option ((Int × Int × List SRequest) ⊕ ((Int × Int × List SRequest) ⊕ Empty)) :=
  bif (s.1 != s.2.1) then (bif (decide (s.1 > s.2.1)) then (Option.bind (slices_swapRangeCmpFunc_Request s.2.2 (w64 (m2 - s.1)) m2 s.2.1 cmp) fun v => some (.inl (w64 (s.1 - s.2.1), s.2.1, v))) else (Option.bind (slices_swapRangeCmpFunc_Request s.2.2 (w64 (m2 - s.1)) (w64 ((w64 (m2 + s.2.1)) - s.1)) s.1 cmp) fun v2 => some (.inl (s.1, w64 (s.2.1 - s.1), v2)))) else (some (.inr (.inl (s.1, s.2.1, s.2.2))))
noncomputable def slices_rotateCmpFunc_Request (data : List SRequest) (a : Int) (m2 : Int) (b2 : Int) (cmp : SRequest → SRequest → Option Int) : Option (List SRequest) :=
  Option.bind (loopM (slices_rotateCmpFunc_Request_b1 m2 cmp) (w64 (m2 - a), w64 (b2 - m2), data)) fun (t : (Int × Int × List SRequest) ⊕ Empty) => match t with | .inl s2 => (Option.bind (slices_swapRangeCmpFunc_Request s2.2.2 (w64 (m2 - s2.1)) m2 s2.1 cmp) fun v3 => some v3) | .inr r => r.elim
/-- slices.symMergeCmpFunc[magneto/api.Request] -/
noncomputable def slices_symMergeCmpFunc_Request_b1 (data : List SRequest) (a : Int) (cmp : SRequest → SRequest → Option Int) (s : Int × Int) : Option ((Int × Int) ⊕ ((Int × Int) ⊕ Empty)) :=
  bif (decide (s.1 < s.2)) then (Option.bind (getI data (w64 (bitShr .u64 (IntKind.u64.wrap (w64 (s.1 + s.2))) 1))) fun x => Option.bind (getI data a) fun x2 => Option.bind (cmp x x2) fun v => bif (decide (v < 0)) then (some (.inl (w64 ((w64 (bitShr .u64 (IntKind.u64.wrap (w64 (s.1 + s.2))) 1)) + 1), s.2))) else (some (.inl (s.1, w64 (bitShr .u64 (IntKind.u64.wrap (w64 (s.1 + s.2))) 1))))) else (some (.inr (.inl (s.1, s.2))))
noncomputable def slices_symMergeCmpFunc_Request_b2 (s2 : Int × Int) (s3 : Int × List SRequest) : Option ((Int × List SRequest) ⊕ ((Int × List SRequest) ⊕ Empty)) :=
  bif (decide (s3.1 < (w64 (s2.1 - 1)))) then (Option.bind (Option.bind (getI s3.2 (w64 (s3.1 + 1))) fun x3 => Option.bind (getI s3.2 s3.1) fun x4 => Option.bind (setM s3.2 s3.1 x3) fun l => Option.bind (getI l (w64 (s3.1 + 1))) fun _ => Option.bind (setM l (w64 (s3.1 + 1)) x4) fun l2 => some l2) fun (f2 : List SRequest) => some (.inl (w64 (s3.1 + 1), f2))) else (some (.inr (.inl (s3.1, s3.2))))
noncomputable def slices_symMergeCmpFunc_Request_b3 (data : List SRequest) (m2 : Int) (cmp : SRequest → SRequest → Option Int) (s5 : Int × Int) : Option ((Int × Int) ⊕ ((Int × Int) ⊕ Empty)) :=
  bif (decide (s5.1 < s5.2)) then (Option.bind (getI data m2) fun x6 => Option.bind (getI data (w64 (bitShr .u64 (IntKind.u64.wrap (w64 (s5.1 + s5.2))) 1))) fun x7 => Option.bind (cmp x6 x7) fun v2 => bif (!(decide (v2 < 0))) then (some (.inl (w64 ((w64 (bitShr .u64 (IntKind.u64.wrap (w64 (s5.1 + s5.2))) 1)) + 1), s5.2))) else (some (.inl (s5.1, w64 (bitShr .u64 (IntKind.u64.wrap (w64 (s5.1 + s5.2))) 1))))) else (some (.inr (.inl (s5.1, s5.2))))
noncomputable def slices_symMergeCmpFunc_Request_b4 (s6 : Int × Int) (s7 : Int × List SRequest) : Option ((Int × List SRequest) ⊕ ((Int × List SRequest) ⊕ Empty)) :=
  bif (decide (s7.1 > s6.1)) then (Option.bind (Option.bind (getI s7.2 (w64 (s7.1 - 1))) fun x8 => Option.bind (getI s7.2 s7.1) fun x9 => Option.bind (setM s7.2 s7.1 x8) fun l3 => Option.bind (getI l3 (w64 (s7.1 - 1))) fun _ => Option.bind (setM l3 (w64 (s7.1 - 1)) x9) fun l4 => some l4) fun (f3 : List SRequest) => some (.inl (w64 (s7.1 - 1), f3))) else (some (.inr (.inl (s7.1, s7.2))))
noncomputable def slices_symMergeCmpFunc_Request_b5 (data : List SRequest) (a : Int) (m2 : Int) (b2 : Int) (cmp : SRequest → SRequest → Option Int) (s10 : Int × Int) : Option ((Int × Int) ⊕ ((Int × Int) ⊕ Empty)) :=
  bif (decide (s10.1 < s10.2)) then (Option.bind (getI data (w64 ((w64 ((w64 ((w64 (bitShr .u64 (IntKind.u64.wrap (w64 (a + b2))) 1)) + m2)) - 1)) - (w64 (bitShr .u64 (IntKind.u64.wrap (w64 (s10.1 + s10.2))) 1))))) fun x11 => Option.bind (getI data (w64 (bitShr .u64 (IntKind.u64.wrap (w64 (s10.1 + s10.2))) 1))) fun x12 => Option.bind (cmp x11 x12) fun v3 => bif (!(decide (v3 < 0))) then (some (.inl (w64 ((w64 (bitShr .u64 (IntKind.u64.wrap (w64 (s10.1 + s10.2))) 1)) + 1), s10.2))) else (some (.inl (s10.1, w64 (bitShr .u64 (IntKind.u64.wrap (w64 (s10.1 + s10.2))) 1))))) else (some (.inr (.inl (s10.1, s10.2))))
noncomputable def slices_symMergeCmpFunc_Request_s (rc : List SRequest → Int → Int → Int → (SRequest → SRequest → Option Int) → Option (List SRequest)) (data : List SRequest) (a : Int) (m2 : Int) (b2 : Int) (cmp : SRequest → SRequest → Option Int) : Option (List SRequest) :=
  bif ((w64 (m2 - a)) == 1) then (Option.bind (loopM (slices_symMergeCmpFunc_Request_b1 data a cmp) (m2, b2)) fun (t : (Int × Int) ⊕ Empty) => match t with | .inl s2 => (Option.bind (loopM (slices_symMergeCmpFunc_Request_b2 s2) (a, data)) fun (t : (Int × List SRequest) ⊕ Empty) => match t with | .inl s4 => (some s4.2) | .inr r => r.elim) | .inr r => r.elim) else (bif ((w64 (b2 - m2)) == 1) then (Option.bind (loopM (slices_symMergeCmpFunc_Request_b3 data m2 cmp) (a, m2)) fun (t : (Int × Int) ⊕ Empty) => match t with | .inl s6 => (Option.bind (loopM (slices_symMergeCmpFunc_Request_b4 s6) (m2, data)) fun (t : (Int × List SRequest) ⊕ Empty) => match t with | .inl s8 => (some s8.2) | .inr r => r.elim) | .inr r => r.elim) else (Option.bind (bif (decide (m2 > (w64 (bitShr .u64 (IntKind.u64.wrap (w64 (a + b2))) 1)))) then (some (w64 ((w64 ((w64 (bitShr .u64 (IntKind.u64.wrap (w64 (a + b2))) 1)) + m2)) - b2), w64 (bitShr .u64 (IntKind.u64.wrap (w64 (a + b2))) 1))) else (some (a, m2))) fun (s9 : Int × Int) => Option.bind (loopM (slices_symMergeCmpFunc_Request_b5 data a m2 b2 cmp) (s9.1, s9.2)) fun (t : (Int × Int) ⊕ Empty) => match t with | .inl s11 => (Option.bind (bif ((decide (s11.1 < m2)) && (decide (m2 < (w64 ((w64 ((w64 (bitShr .u64 (IntKind.u64.wrap (w64 (a + b2))) 1)) + m2)) - s11.1))))) then (Option.bind (slices_rotateCmpFunc_Request data s11.1 m2 (w64 ((w64 ((w64 (bitShr .u64 (IntKind.u64.wrap (w64 (a + b2))) 1)) + m2)) - s11.1)) cmp) fun v4 => some v4) else (some data)) fun (f4 : List SRequest) => Option.bind (bif ((decide (a < s11.1)) && (decide (s11.1 < (w64 (bitShr .u64 (IntKind.u64.wrap (w64 (a + b2))) 1))))) then (Option.bind (rc f4 a s11.1 (w64 (bitShr .u64 (IntKind.u64.wrap (w64 (a + b2))) 1)) cmp) fun v5 => some v5) else (some f4)) fun (f5 : List SRequest) => bif ((decide ((w64 (bitShr .u64 (IntKind.u64.wrap (w64 (a + b2))) 1)) < (w64 ((w64 ((w64 (bitShr .u64 (IntKind.u64.wrap (w64 (a + b2))) 1)) + m2)) - s11.1)))) && (decide ((w64 ((w64 ((w64 (bitShr .u64 (IntKind.u64.wrap (w64 (a + b2))) 1)) + m2)) - s11.1)) < b2))) then (Option.bind (rc f5 (w64 (bitShr .u64 (IntKind.u64.wrap (w64 (a + b2))) 1)) (w64 ((w64 ((w64 (bitShr .u64 (IntKind.u64.wrap (w64 (a + b2))) 1)) + m2)) - s11.1)) b2 cmp) fun v6 => some v6) else (some f5)) | .inr r => r.elim))
noncomputable def slices_symMergeCmpFunc_Request : Nat → List SRequest → Int → Int → Int → (SRequest → SRequest → Option Int) → Option (List SRequest)
  | 0 => fun _ _ _ _ _ => none
  | fu + 1 => slices_symMergeCmpFunc_Request_s (slices_symMergeCmpFunc_Request fu)
/-- slices.stableCmpFunc[magneto/api.Request] -/
noncomputable def slices_stableCmpFunc_Request_b1 (n2 : Int) (cmp : SRequest → SRequest → Option Int) (s : Int × Int × List SRequest) : Option ((Int × Int × List SRequest) ⊕ ((Int × Int × List SRequest) ⊕ Empty)) :=
  bif (decide (s.2.1 ≤ n2)) then (Option.bind (slices_insertionSortCmpFunc_Request s.2.2 s.1 s.2.1 cmp) fun v => some (.inl (s.2.1, w64 (s.2.1 + 20), v))) else (some (.inr (.inl (s.1, s.2.1, s.2.2))))
noncomputable def slices_stableCmpFunc_Request_b3 (n2 : Int) (cmp : SRequest → SRequest → Option Int) (s3 : Int × List SRequest) (s4 : Int × Int × List SRequest) : Option ((Int × Int × List SRequest) ⊕ ((Int × Int × List SRequest) ⊕ Empty)) :=
  bif (decide (s4.2.1 ≤ n2)) then (Option.bind (slices_symMergeCmpFunc_Request 64 s4.2.2 s4.1 (w64 (s4.1 + s3.1)) s4.2.1 cmp) fun v3 => some (.inl (s4.2.1, w64 (s4.2.1 + (w64 (2 * s3.1))), v3))) else (some (.inr (.inl (s4.1, s4.2.1, s4.2.2))))
noncomputable def slices_stableCmpFunc_Request_b2 (n2 : Int) (cmp : SRequest → SRequest → Option Int) (s3 : Int × List SRequest) : Option ((Int × List SRequest) ⊕ ((Int × List SRequest) ⊕ Empty)) :=
  bif (decide (s3.1 < n2)) then (Option.bind (loopM (slices_stableCmpFunc_Request_b3 n2 cmp s3) (0, w64 (2 * s3.1), s3.2)) fun (t : (Int × Int × List SRequest) ⊕ Empty) => match t with | .inl s5 => (bif (decide ((w64 (s5.1 + s3.1)) < n2)) then (Option.bind (slices_symMergeCmpFunc_Request 64 s5.2.2 s5.1 (w64 (s5.1 + s3.1)) n2 cmp) fun v4 => some (.inl (w64 (s3.1 * 2), v4))) else (some (.inl (w64 (s3.1 * 2), s5.2.2)))) | .inr r => r.elim) else (some (.inr (.inl (s3.1, s3.2))))
noncomputable def slices_stableCmpFunc_Request (data : List SRequest) (n2 : Int) (cmp : SRequest → SRequest → Option Int) : Option (List SRequest) :=
  Option.bind (loopM (slices_stableCmpFunc_Request_b1 n2 cmp) (0, 20, data)) fun (t : (Int × Int × List SRequest) ⊕ Empty) => match t with | .inl s2 => (Option.bind (slices_insertionSortCmpFunc_Request s2.2.2 s2.1 n2 cmp) fun v2 => Option.bind (loopM (slices_stableCmpFunc_Request_b2 n2 cmp) (20, v2)) fun (t : (Int × List SRequest) ⊕ Empty) => match t with | .inl s6 => (some s6.2) | .inr r => r.elim) | .inr r => r.elim
/-- slices.SortStableFunc[[]magneto/api.Request,magneto/api.Request] -/
noncomputable def slices_SortStableFunc_sRequest (x : List SRequest) (cmp : SRequest → SRequest → Option Int) : Option (List SRequest) :=
  Option.bind (slices_stableCmpFunc_Request x (x.length : Int) cmp) fun v => some v
/-- magneto/arbiter.decide$1 -/
noncomputable def arbiter_decide_1 (a : SRequest) (b2 : SRequest) : Option Int :=
  some (w64 (b2.Priority - a.Priority))
/-- (*magneto/arbiter.span).atMost -/
noncomputable def arbiter_span_atMost (s : Sarbiter_span) (t2 : Int) : Option Sarbiter_span :=
  some (⟨s.low, maxI s.low (minI s.high t2), s.source⟩ : Sarbiter_span)
/-- (*magneto/arbiter.span).atLeast -/
noncomputable def arbiter_span_atLeast (s : Sarbiter_span) (t2 : Int) : Option Sarbiter_span :=
  some (⟨minI s.high (maxI s.low t2), s.high, s.source⟩ : Sarbiter_span)
/-- (*magneto/arbiter.span).exactly -/
noncomputable def arbiter_span_exactly (s : Sarbiter_span) (t2 : Int) : Option Sarbiter_span :=
  Option.bind (arith_Clamp t2 s.low s.high) fun v => some (⟨v, v, s.source⟩ : Sarbiter_span)
/-- (*magneto/arbiter.span).narrow -/
noncomputable def arbiter_span_narrow (s : Sarbiter_span) (r2 : SRequest) : Option (Bool × Sarbiter_span) :=
  Option.bind (bif (r2.Kind == 1) then (Option.bind (arbiter_span_atMost s r2.Torque) fun v => some v) else (bif (r2.Kind == 2) then (Option.bind (arbiter_span_atLeast s r2.Torque) fun v2 => some v2) else (bif (r2.Kind == 3) then (Option.bind (arbiter_span_exactly s r2.Torque) fun v3 => some v3) else (some s)))) fun (f2 : Sarbiter_span) => Option.bind (bif (f2.low != s.low) then (some r2.Source) else (some f2.source)) fun (f3 : Int) => bif (f2.low != s.low) then (some (true, (⟨f2.low, f2.high, f3⟩ : Sarbiter_span))) else (some ((f2.high != s.high), (⟨f2.low, f2.high, f3⟩ : Sarbiter_span)))
/-- slices.Sort[[]int,int] -/
noncomputable def slices_Sort_sint (s : List Int) : Option (List Int) :=
  sortIM s
/-- slices.Compact[[]int,int] -/
noncomputable def slices_Compact_sint (s : List Int) : Option (List Int) :=
  compactM s
/-- magneto/arbiter.decide -/
noncomputable def arbiter_decide_b1 (_ : Int) (x : SRequest) (s : List Int × Sarbiter_span) : Option (Fl (List Int × Sarbiter_span) Empty) :=
  Option.bind (arbiter_span_narrow s.2 x) fun r2 => bif r2.1 then (Option.bind (appendM s.1 ([x.Source] : List Int)) fun l2 => some (.next (l2, r2.2))) else (some (.next (s.1, r2.2)))
noncomputable def arbiter_decide (l : List SRequest) (low : Int) (high : Int) : Option (Sarbiter_span × List Int) :=
  Option.bind (slices_Clone_sRequest l) fun v => Option.bind (slices_SortStableFunc_sRequest v arbiter_decide_1) fun v2 => Option.bind (rangeM v2 (arbiter_decide_b1) (([] : List Int), (⟨low, high, (-1)⟩ : Sarbiter_span))) fun (t : (List Int × Sarbiter_span) ⊕ Empty) => match t with | .inl s2 => (Option.bind (slices_Sort_sint s2.1) fun v3 => Option.bind (Option.bind (slices_Compact_sint v3) fun v4 => some (v4, s2.2)) fun (s3 : List Int × Sarbiter_span) => some (s3.2, s3.1)) | .inr r => r.elim
/-- magneto/arbiter.Decide -/
noncomputable def arbiter_Decide (l : List SRequest) (low : Int) (high : Int) : Option (SGrant × Int) :=
  Option.bind (arbiter_given l low high) fun v => bif (v != 0) then (some ((⟨0, 0⟩ : SGrant), v)) else (Option.bind (arbiter_decide l low high) fun r2 => some ((⟨r2.1.low, r2.1.source⟩ : SGrant), 0))
/-- magneto/magnetolaw39.MonitorGrants -/
noncomputable def magnetolaw39_MonitorGrants_b1 (r3 : Int × Int) (_ : Int) (x : SRequest) (_ : Unit) : Option (Fl Unit Bool) :=
  Option.bind (bif (x.Kind != 1) then (Option.bind (bif ((x.Source == 0) && (decide (x.Torque > r3.1))) then (some true) else (some ((x.Source == 1) && (decide (x.Torque > 1500))))) fun b2 => some b2) else (some false)) fun b3 => bif b3 then (some (.ret true)) else (some (.next ()))
noncomputable def magnetolaw39_MonitorGrants (t2 : STables) (value : Int) (speed : Int) (l : List SRequest) (low : Int) (high : Int) : Option Bool :=
  Option.bind (magnetolaw39_awake) fun v => bif (!v) then (some false) else (bif (decide ((l.length : Int) > 32)) then (some true) else (Option.bind (monitor_Permitted t2 value speed l) fun r2 => Option.bind (pedal_Wish t2 value speed) fun r3 => Option.bind (arbiter_Decide l low high) fun r4 => bif (((r2.2 != 0) || (r3.2 != 0)) || (r4.2 != 0)) then (some true) else (Option.bind (rangeM l (magnetolaw39_MonitorGrants_b1 r3) ()) fun (t : Unit ⊕ Bool) => match t with | .inl _ => (some (decide (r4.1.Torque ≤ (maxI low (w64 (r2.1 - 100)))))) | .inr r5 => some r5)))
end Go.Pv
namespace Go.Pv
open Go.RowKit Go.Sort Go.Shelf Go.Proofs

section
variable {α : Type} [Inhabited α] (enc : α → List Value) (k : Nat) (w : World) (β m : Nat) (d : Array α) (os : Array Obj)

theorem sw_size : (sortWorldK enc k w β 0 m d os).heap.size = w.heap.size + os.size := by
  simp [sortWorldK, putRowK, putRow, mapBlock, Sort.ahead, grow]

theorem sw_other (b : Nat) (hb : b < w.heap.size) (hne : b ≠ β) : (sortWorldK enc k w β 0 m d os).heap[b]? = w.heap[b]? := by
  simp only [sortWorldK, putRowK, putRow, mapBlock, Sort.ahead, grow]
  rw [Array.getElem?_append_left (by simpa using hb), Array.getElem?_modify, if_neg (Ne.symm hne)]

theorem sw_row {cs : Array Value} {elem : TypeId} (hh : w.heap[β]? = some (.cells cs elem (0, 0))) : (sortWorldK enc k w β 0 m d os).heap[β]? = some (.cells (putCells id 0 (flatK enc k d) cs) elem (0, 0)) := by
  have hb : β < w.heap.size := (Array.getElem?_eq_some_iff.1 hh).1
  simp only [sortWorldK, putRowK, putRow, mapBlock, Sort.ahead, grow]
  rw [Array.getElem?_append_left (by simpa using hb), Array.getElem?_modify, if_pos rfl, hh]
  rfl

theorem sw_keep (L : Nat → Prop) (hL : L β) : Keep L w (sortWorldK enc k w β 0 m d os) where
  os := rfl
  tape := rfl
  output := rfl
  size := by rw [sw_size]; omega
  block := fun b hb hn => sw_other enc k w β m d os b hb (fun e => hn (e ▸ hL))
  drawn := by simp [sortWorldK, putRowK, putRow, mapBlock, Sort.ahead, grow]
end

/-- What keeps all that was there has only drawn and laid. -/
theorem Keep.grown {w w' : World} (h : Keep (fun _ => False) w w') : ∃ q os, w' = grow (w.drewN q) os := by
  refine ⟨w'.drawn - w.drawn, w'.heap.extract w.heap.size w'.heap.size, ?_⟩
  have hd := h.drawn
  have hz := h.size
  obtain ⟨heap', tape', drawn', os', out'⟩ := w'
  have e1 := h.os; have e2 := h.tape; have e3 := h.output
  simp only at e1 e2 e3 hd hz
  subst e1 e2 e3
  simp only [grow, World.drewN, World.mk.injEq]
  refine ⟨?_, trivial, by omega, trivial, trivial⟩
  apply Array.ext_getElem?
  intro i
  by_cases hi : i < w.heap.size
  · rw [Array.getElem?_append_left hi]; exact h.block i hi (fun x => x)
  · rw [Array.getElem?_append_right (by omega), Array.getElem?_extract]
    split
    · congr 1; omega
    · rw [Array.getElem?_eq_none (by omega)]

theorem mergeSort_val {α : Type} {g : α → α → Option Int} (l : List α) : (l.attach.mergeSort fun x y => !ltM g y.1 x.1).map (·.1) = l.mergeSort fun x y => !ltM g y x := by
  have := List.map_mergeSort (r := fun (x y : {x // x ∈ l}) => !ltM g y.1 x.1) (s := fun x y => !ltM g y x) (f := fun x => x.1) (l := l.attach) (fun a _ b _ => rfl)
  rw [this]
  simp

theorem RTv {w : World} {S : Nat → Prop} {v u : Value} (h : RT w S v (.v u)) : v = u := by cases h; rfl

theorem sortFunc_tie {E : Type} {P : Program} {ρ : Ren} (L : SlLaysF0.n6 P ρ) {enc : E → List Tree} {k : Nat} (encV : E → List Value) (henc : ∀ x, enc x = (encV x).map Tree.v) (hk : ∀ x, (encV x).length = k) (h1 : ∀ x, ∀ v ∈ encV x, v.oneCell' = true)
    (aE : ∀ w, (isAgg (ρ.t 24)).run P w = .ok true w) (zE : ∀ w, (Go.sizeOf (ρ.t 24)).run P w = .ok k w) {e n : Nat} {cs : List (List Tree)} {A : E → T} (hA : ∀ x, A x = .agg ((enc x).map .t)) (g : E → E → Option Int)
    (hg : ∀ x y, TieF P n ([A x, A y] ++ cs.map T.el) (g x y) (fun r => .t (tI r))) (l : List E) :
    TieG P (ρ.f 6) [.own 1000000, .fz n cs] [(1000000, .rows e k l.length (l.map enc))] (sortM g l) (fun _ => .tup []) (fun r => [(1000000, .rows e k r.length (r.map enc))]) := by
  refine ⟨L.f6.enters rfl, fun r hr w S E vs hS hO hv => ?_⟩
  have hC : SortOk g l := by
    unfold sortM at hr; split at hr <;> first | assumption | cases hr
  rw [sortM_ok hC, Option.some.injEq] at hr
  subst hr
  obtain ⟨v0, v1, rfl⟩ : ∃ v0 v1, vs = [v0, v1] := by
    have := hv.1
    match vs, this with
    | [a, b], _ => exact ⟨a, b, rfl⟩
  have r0 : RV w S E v0 (.own 1000000) := hv.2 0 (by simp) (by simp)
  have r1 : RV w S E v1 (.fz n cs) := hv.2 1 (by simp) (by simp)
  cases r0 with
  | own _ _ hE =>
  cases r1 with
  | fz _ ps _ hpl hp =>
  have hblk := hO.blk 1000000 (.rows e k l.length (l.map enc)) rfl
  rw [hE] at hblk
  obtain ⟨hn, ⟨hx, hnil⟩ | ⟨β, cap, vs, hcm, hx, hh, hvl, hcap, hsz, hr⟩⟩ := hblk
  · -- no element
    have hl : l = [] := by simpa using hnil
    subst hl
    subst hx
    refine (AnyF.slices_SortFunc_none L none 0 (.func (.func n) #[] ps.toArray) w).mono fun e' w' ⟨he, hw⟩ => ?_
    subst hw
    refine ⟨_, S, E, he, .tup [] [] rfl fun j h1 => by simp at h1, Keep.refl _ _, hS, fun b hb => .inl hb, ?_, fun β hl => .inl ?_, fun _ _ => rfl⟩
    · simpa using hO
    · simpa using hl
  · have hl0 : l ≠ [] ∨ l = [] := by by_cases h : l = [] <;> simp [h]
    simp only [List.length_map] at hx hcap
    subst hx
    by_cases hl : l = []
    · subst hl
      refine (AnyF.slices_SortFunc_none L (some ⟨β, 0, none⟩) cap (.func (.func n) #[] ps.toArray) w).mono fun e' w' ⟨he, hw⟩ => ?_
      subst hw
      refine ⟨_, S, E, he, .tup [] [] rfl fun j h1 => by simp at h1, Keep.refl _ _, hS, fun b hb => .inl hb, ?_, fun β hl => .inl ?_, fun _ _ => rfl⟩
      · simpa using hO
      · simpa using hl
    obtain ⟨x0, hx0⟩ := List.exists_mem_of_ne_nil l hl
    haveI : Inhabited {x // x ∈ l} := ⟨⟨x0, hx0⟩⟩
    let enc' : {x // x ∈ l} → List Value := fun x => encV x.1
    let cf : {x // x ∈ l} → {x // x ∈ l} → Int := fun x y => (g x.1 y.1).getD 0
    let d : Array {x // x ∈ l} := l.attach.toArray
    have hds : d.size = l.length := by simp [d]
    have hlt : ∀ x y, ltOf cf x y = ltM g x.1 y.1 := fun x y => rfl
    have hO' : SWO (ltOf cf) := ⟨fun x => hC.irrefl _ x.2, fun x y z => hC.trans _ x.2 _ y.2 _ z.2, fun x y z => hC.ntrans _ x.2 _ y.2 _ z.2⟩
    have hβS : ¬ S β := (hO.own 1000000 (.rows e k l.length (l.map enc)) β rfl (by rw [hE]; rfl)).1
    have hβw : β < w.heap.size := (hO.own 1000000 (.rows e k l.length (l.map enc)) β rfl (by rw [hE]; rfl)).2
    have eg : ∀ args w, (callFunc n args).run P w = .ok (.enter n args) w := (hg x0 x0).1
    have hdget : ∀ i (hi : i < l.length), (d[i]!).1 = l[i] := fun i hi => by
      rw [getElem!_pos d i (by omega)]; simp [d]
    have hcmp : CmpLays P n ps.toArray enc' k cf β 0 d.size w := by
      intro m os dk hdk x y
      obtain ⟨c, hc⟩ := hC.ans _ x.2 _ y.2
      have hW := sw_keep enc' k w β m dk os (fun b => b = β) rfl
      have hSW : ∀ b, S b → (sortWorldK enc' k w β 0 m dk os).heap[b]? = w.heap[b]? := fun b hb => sw_other enc' k w β m dk os b (hS b hb) (fun e => hβS (e ▸ hb))
      have argA : ∀ z : {x // x ∈ l}, RV (sortWorldK enc' k w β 0 m dk os) S E (.agg (enc' z).toArray) (A z.1) := fun z => by
        rw [hA, henc]
        refine .agg _ _ (by simp [enc']) fun j h1 h2 => ?_
        simp only [List.getElem_map]
        exact .t (.v _)
      have hcall := (hg x.1 y.1).2 c hc (sortWorldK enc' k w β 0 m dk os) S E ([.agg (enc' x).toArray, .agg (enc' y).toArray] ++ ps) (fun b hb => Nat.lt_of_lt_of_le (hS b hb) hW.size) (by
        refine RVL.append (l := [A x.1, A y.1]) ⟨rfl, fun j h1 h2 => ?_⟩ ⟨by simpa using hpl, fun j h1 h2 => ?_⟩
        · match j, h1, h2 with
          | 0, _, _ => exact argA x
          | 1, _, _ => exact argA y
        · simp only [List.getElem_map]
          exact ((hp j h1 (by simpa using h2)).rv (E := E)).mono (fun _ x => x) hSW (fun _ _ => rfl))
      have e1 : (([.agg (enc' x).toArray, .agg (enc' y).toArray] : List Value) ++ ps).toArray = #[.agg (enc' x).toArray, .agg (enc' y).toArray] ++ ps.toArray := by simp
      rw [e1] at hcall
      refine hcall.mono fun e' w' ⟨v, S', he, hv', hkeep, _, _⟩ => ?_
      subst he
      have : v = .int .i64 c := by
        cases hv' with | t h => exact RTv h
      subst this
      exact ⟨by simp [cf, hc], hkeep.grown⟩
    have hcell : ∀ i (hi : i < l.length) j (hj : j < k), ∃ hb : i * k + j < vs.length, vs[i * k + j] = (encV l[i])[j]'(by rw [hk]; exact hj) := fun i hi j hj => by
      have h2 : i * k + j < vs.length := by
        have : (i + 1) * k ≤ cap * k := Nat.mul_le_mul_right _ (by omega)
        rw [Nat.succ_mul] at this; omega
      refine ⟨h2, ?_⟩
      have hlen : j < ((l.map enc)[i]'(by simpa using hi)).length := by simp [henc, hk]; exact hj
      have := hr i j (by simpa using hi) hlen h2
      have e2 : ((l.map enc)[i]'(by simpa using hi))[j]'hlen = .v ((encV l[i])[j]'(by rw [hk]; exact hj)) := by simp [henc]
      rw [e2] at this
      exact RTv this
    have hH : HoldsK enc' k w β 0 d := by
      intro t ht
      rw [size_flatK, hds] at ht
      have hk0 : 0 < k := by rcases Nat.eq_zero_or_pos k with h | h; · subst h; simp at ht
                             · exact h
      have hi : t / k < l.length := Nat.div_lt_of_lt_mul (by rw [Nat.mul_comm]; exact ht)
      have hj : t % k < k := Nat.mod_lt _ hk0
      obtain ⟨hb, hc⟩ := hcell _ hi _ hj
      have et : t / k * k + t % k = t := by rw [Nat.mul_comm]; exact Nat.div_add_mod t k
      refine ⟨?_, by simp [World.frozen?, hh]⟩
      rw [cell_of_row w β (0 + t) _ e _ hh, get_flatK _ _ _ t (by rw [hds]; exact ht)]
      have h2 : (enc' d[t / k]!)[t % k]! = vs[t / k * k + t % k] := by
        rw [hc, getElem!_pos _ _ (by simp only [enc']; rw [hk]; exact hj)]
        simp only [enc', hdget _ hi]
      rw [h2, Nat.zero_add]
      simp only [id_eq, List.getElem?_toArray]
      rw [List.getElem?_eq_getElem (by omega)]
      congr 2
      exact et.symm
    have hcon := AnyQ.slices_SortFunc_total L k aE zE enc' (fun x => hk _) (fun x => h1 _) cf hO' n ps.toArray β 0 cap d w eg hcmp hH hβw (by rw [hds]; exact hC.len) (fun x y a b => Subtype.ext (hC.tot _ x.2 _ y.2 a b))
    rw [hds] at hcon
    have hmap := mergeSort_val (g := g) l
    have hdl : d.toList = l.attach := by simp [d]
    rw [hdl] at hcon
    refine hcon.mono fun e' w' ⟨he, m, os, hw⟩ => ?_
    have hcong : (l.attach.mergeSort fun x y => !ltOf cf y x) = l.attach.mergeSort fun x y => !ltM g y.1 x.1 := rfl
    rw [hcong] at hw
    generalize (l.attach.mergeSort fun x y => !ltM g y.1 x.1) = q at hw hmap
    have hrl : (l.mergeSort fun x y => !ltM g y x).length = l.length := List.length_mergeSort l
    generalize (l.mergeSort fun x y => !ltM g y x) = r at hmap hrl ⊢
    have hql : q.length = r.length := by rw [← hmap]; simp
    have hlent : lentOf [(1000000, Blk.rows e k l.length (l.map enc))] E β := ⟨1000000, _, rfl, by rw [hE]; rfl⟩
    subst hw
    have hqget : ∀ i (hi : i < r.length), (q.toArray[i]!).1 = r[i] := fun i hi => by
      rw [getElem!_pos q.toArray i (by simpa using (by omega : i < q.length))]
      subst hmap
      simp
    refine ⟨.tuple #[], S, E, he, .tup [] [] rfl fun j h1 => by simp at h1, sw_keep enc' k w β m q.toArray os _ hlent, fun b hb => ?_, fun b hb => .inl hb, ⟨fun id b hl => ?_, fun id b β' hl hβ' => ?_, fun id id' b b' β' hl hl' _ _ => ?_⟩, fun β' ⟨id, b, hl, hβ'⟩ => .inl ?_, fun _ _ => rfl⟩
    · rw [sw_size]; exact Nat.lt_of_lt_of_le (hS b hb) (Nat.le_add_right _ _)
    · have : id = 1000000 ∧ b = .rows e k r.length (r.map enc) := by
        simp only [look] at hl
        by_cases hid : 1000000 = id
        · subst hid; simp at hl; exact ⟨rfl, hl.symm⟩
        · simp [beq_ne hid] at hl
      obtain ⟨rfl, rfl⟩ := this
      rw [hE]
      refine ⟨by simp, .inr ⟨β, cap, (putCells id 0 (flatK enc' k q.toArray) vs.toArray).toList, hcm, by simp [hrl], by rw [sw_row enc' k w β m q.toArray os hh], by simp [putCells, hvl], by simpa [hrl] using hcap, ?_, ?_⟩⟩
      · intro x hx
        obtain ⟨y, _, rfl⟩ := List.mem_map.1 hx
        simp [henc, hk]
      · intro i j hi hj hb
        have hi' : i < r.length := by simpa using hi
        have hj' : j < k := by simpa [henc, hk] using hj
        have hk0 : 0 < k := by omega
        have ht : i * k + j < r.length * k := by
          have : (i + 1) * k ≤ r.length * k := Nat.mul_le_mul_right _ (by omega)
          rw [Nat.succ_mul] at this; omega
        have hdiv : (i * k + j) / k = i := by rw [Nat.mul_comm, Nat.mul_add_div hk0, Nat.div_eq_of_lt hj', Nat.add_zero]
        have hmod : (i * k + j) % k = j := by rw [Nat.mul_comm, Nat.mul_add_mod, Nat.mod_eq_of_lt hj']
        have e1 : (putCells id 0 (flatK enc' k q.toArray) vs.toArray).toList[i * k + j] = (encV r[i])[j]'(by rw [hk]; exact hj') := by
          simp only [Array.getElem_toList]
          simp only [putCells, Array.getElem_mapIdx, Nat.zero_le, true_and, Nat.zero_add, Nat.sub_zero, size_flatK, List.size_toArray, id_eq]
          rw [if_pos (by rw [hql]; exact ht), get_flatK _ _ _ _ (by simp only [List.size_toArray]; rw [hql]; exact ht), hdiv, hmod, getElem!_pos _ _ (by simp only [enc']; rw [hk]; exact hj')]
          simp only [enc', hqget i hi']
        rw [e1]
        have e2 : ((r.map enc)[i]'hi)[j]'hj = .v ((encV r[i])[j]'(by rw [hk]; exact hj')) := by simp [henc]
        rw [e2]
        exact .v _
    · have : id = 1000000 := by
        simp only [look] at hl
        by_cases hid : 1000000 = id
        · exact hid.symm
        · simp [beq_ne hid] at hl
      subst this
      have : β' = β := by rw [hE] at hβ'; simpa [blkOf] using hβ'.symm
      subst this
      exact ⟨hβS, by rw [sw_size]; omega⟩
    · simp only [look] at hl hl'
      by_cases hid : 1000000 = id
      · by_cases hid' : 1000000 = id'
        · exact hid.symm.trans hid'
        · simp [beq_ne hid'] at hl'
      · simp [beq_ne hid] at hl
    · have : id = 1000000 := by
        simp only [look] at hl
        by_cases hid : 1000000 = id
        · exact hid.symm
        · simp [beq_ne hid] at hl
      subst this
      exact ⟨1000000, _, rfl, hβ'⟩
end Go.Pv
namespace Go.Pv
open Go.RowKit

section
variable {X : Cx} {ops : Array Oper} {fe fuel : Nat} {le l l' : List Bool} {σ' : St} {o : Oper} {α : Type}

theorem TieA.bin {d ty yt : Nat} {op : BinOp} {k k' : IntKind} {x y : Operand} {u v : Int} {V : T} {tm : List (Nat × T)} {hp : List (Nat × Blk)} (i : Nat) (l' : List Bool) (ho : ops[i]? = some o) (hl : l.set i true = l') (hop : o.op = .binOp op ty x y yt) (hd : o.dst = some d) (hdn : Nat.blt d X.nt = true) (hg : o.guard = none)
    (hs : Region.noSelect ops = true) (hf : Region.free .any ops l.toArray i = true) (hr : (Region.ready .any ops l.toArray).contains i = true)
    (hx : val tm x = some (.t (.v (.int k u)))) (hy : val tm y = some (.t (.v (.int k' v)))) (hk : (sameKind k k' || isShift op) = true) (hb : ((arith op k u v).map fun z => T.t (.v z)) = some V) (h : TieA X ops fe le fuel l' ⟨(d, V) :: tm, hp⟩ σ') :
    TieA X ops fe le (fuel + 1) l ⟨tm, hp⟩ σ' := TieA.take1 i l' ho hl hd hdn hg hs hf hr (fun S E a w hw => by
  have e1 := (hw.val hx).tv
  have e2 := (hw.val hy).tv
  cases ha : arith op k u v with
  | none => simp [ha] at hb
  | some z =>
    simp only [ha, Option.map_some, Option.some.injEq] at hb
    subst hb
    refine ⟨z, fun w' => ?_, .t (.v z)⟩
    obtain ⟨h1, h2⟩ := arith_ok (P := X.P) (w := w') (by simpa using hk) ha
    simp only [execOp, hop, e1, e2, Sem.run_bind, eqGuard_run op ty x y (.int k u) (.int k' v) (by simp) (by simp), Result.andThen_ok, h2, h1, Sem.run_pure]) h

theorem TieA.idx {ty e sz el n s0 : Nat} {x ix : Operand} {ik : IntKind} {j : Int} {z0 : List Value} {te : TI} {d id : Nat} {r : List α} {enc : α → List Tree} {y : α} {tm : List (Nat × T)} {hp : List (Nat × Blk)} (i : Nat) (l' : List Bool) (hy : getI r j = some y) (ho : ops[i]? = some o) (hl : l.set i true = l')
    (hop : o.op = .indexAddr ty x ix) (hd : o.dst = some d) (hdn : Nat.blt d X.nt = true) (hg : o.guard = none)
    (hs : Region.noSelect ops = true) (hf : Region.free .any ops l.toArray i = true) (hr : (Region.ready .any ops l.toArray).contains i = true)
    (hx : val tm x = some (.own id)) (hb : look hp id = some (.rows el sz n (r.map enc))) (hi : val tm ix = some (.t (.v (.int ik j))))
    (hty : look X.tab ty = some ⟨s0, .slice e, z0⟩) (hte : look X.tab e = some te) (hsz : te.size = sz) (h : TieA X ops fe le fuel l' ⟨(d, .pe id j.toNat sz 0) :: tm, hp⟩ σ') :
    TieA X ops fe le (fuel + 1) l ⟨tm, hp⟩ σ' := TieA.take1 i l' ho hl hd hdn hg hs hf hr (fun S E a w hk => by
  obtain ⟨h0, hgl, hlt⟩ := getI_some hy
  have hiv := (hk.val hi).tv
  have hll : j.toNat < r.length := by omega
  have hxv := hk.val hx
  generalize hxe : a.eval x = xv at hxv
  cases hxv with
  | own _ _ hE =>
    obtain ⟨hn, ⟨hE', hr⟩ | ⟨β, cap, vs, _, hE', hh, _⟩⟩ := hk.hp id _ hb
    · simp at hr; subst hr; simp at hll
    · subst hsz
      have hpe := RV.pe (w := w) (S := S) (E := E) id j.toNat te.size 0 β (r.map enc).length cap hE'
      refine ⟨_, fun w' => ?_, hpe⟩
      obtain ⟨dd, hdd, ho2⟩ := (X.htab ty _ hty).run_under w'
      simp only [TD.ok] at ho2
      subst ho2
      have hsw := (X.htab e _ hte).run_size w'
      rw [hE'] at hE
      subst hE
      simp only [execOp, hop, Instr.indexAt, hiv, asIntOf, Sem.run_bind, Sem.run_pure, Result.andThen_ok, hdd, hxe]
      have c1 : 0 ≤ j ∧ j < ((r.map enc).length : Int) := ⟨h0, by simpa using hlt⟩
      simp only [Sem.run_bind, Result.andThen_ok, Sem.run_pure, c1, and_self, if_true, hsw, addr_add, Nat.zero_add, Nat.add_zero]) h
end
end Go.Pv
namespace Go.Pv
open Go.RowKit Go.Sort Go.Shelf Go.Proofs

theorem compact_eq (zs : List Int) : Lib.compact zs = compL zs := by
  have key : ∀ m, m ≤ zs.length → Lib.compactUpTo zs.toArray m = compL (zs.take m) := by
    intro m
    induction m with
    | zero => intro _; rfl
    | succ m ih =>
      intro hm
      have hg : ∀ j (hj : j < zs.length), (zs.toArray)[j]! = zs[j] := fun j hj => by
        rw [getElem!_pos zs.toArray j (by simpa using hj)]; simp
      rw [Lib.compactUpTo_succ, ih (by omega), List.take_succ_eq_append_getElem (by omega : m < zs.length), hg m (by omega)]
      by_cases h0 : m = 0
      · subst h0; rfl
      · have hne : zs.take m ≠ [] := by
          intro h
          have := congrArg List.length h
          rw [List.length_take, List.length_nil] at this; omega
        rw [compL_snoc _ _ hne]
        have hl : (zs.take m).getLast hne = zs[m - 1] := by
          rw [List.getLast_eq_getElem, List.getElem_take]
          congr 1
          rw [List.length_take]; omega
        rw [hl]
        unfold Lib.keeps
        rw [hg m (by omega), hg (m - 1) (by omega)]
        by_cases he : zs[m] = zs[m - 1]
        · rw [if_pos he, if_neg (by simp [h0, he])]
        · rw [if_neg he, if_pos (by simp [h0, he])]
  unfold Lib.compact
  rw [key _ (Nat.le_refl _), List.take_length]

section
variable (w : World) (β m : Nat) (d : Array Int) (os : Array Obj)
/-- The world behind a turn of a row of ints. -/
def rowW : World := grow (putRow (Value.int .i64) (Sort.ahead w m) β 0 d) os

theorem rw_size : (rowW w β m d os).heap.size = w.heap.size + os.size := by
  simp [rowW, putRow, mapBlock, Sort.ahead, grow]
theorem rw_other (b : Nat) (hb : b < w.heap.size) (hne : b ≠ β) : (rowW w β m d os).heap[b]? = w.heap[b]? := by
  simp only [rowW, putRow, mapBlock, Sort.ahead, grow]
  rw [Array.getElem?_append_left (by simpa using hb), Array.getElem?_modify, if_neg (Ne.symm hne)]
theorem rw_row {cs : Array Value} {elem : TypeId} (hh : w.heap[β]? = some (.cells cs elem (0, 0))) : (rowW w β m d os).heap[β]? = some (.cells (putCells (Value.int .i64) 0 d cs) elem (0, 0)) := by
  have hb : β < w.heap.size := (Array.getElem?_eq_some_iff.1 hh).1
  simp only [rowW, putRow, mapBlock, Sort.ahead, grow]
  rw [Array.getElem?_append_left (by simpa using hb), Array.getElem?_modify, if_pos rfl, hh]
  rfl
theorem rw_keep (L : Nat → Prop) (hL : L β) : Keep L w (rowW w β m d os) where
  os := rfl
  tape := rfl
  output := rfl
  size := by rw [rw_size]; omega
  block := fun b hb hn => rw_other w β m d os b hb (fun e => hn (e ▸ hL))
  drawn := by simp [rowW, putRow, mapBlock, Sort.ahead, grow]
end

/-- The row that is handed back. -/
theorem row_back {w : World} {S : Nat → Prop} {E' : Nat → Value} {e id' β cap m : Nat} {r z : List Int} {vs : List Value} {os : Array Obj} (hcm : cap ≤ maxLen) (hh : w.heap[β]? = some (.cells vs.toArray e (0, 0))) (hvl : vs.length = cap * 1) (hrl : r.length ≤ cap)
    (hE' : E' id' = .slice (some ⟨β, 0, none⟩) r.length cap) (hS : ¬ S β) (hβ : β < w.heap.size) : Owned (rowW w β m (r ++ z).toArray os) S E' [(id', .rows e 1 r.length (r.map encI))] := by
  have one : ∀ id b, look [(id', Blk.rows e 1 r.length (r.map encI))] id = some b → id = id' ∧ b = .rows e 1 r.length (r.map encI) := fun id b hl => by
    simp only [look] at hl
    by_cases hid : id' = id
    · subst hid; simp at hl; exact ⟨rfl, hl.symm⟩
    · simp [beq_ne hid] at hl
  refine ⟨fun id b hl => ?_, fun id b β' hl hβ' => ?_, fun id id1 b b' β' hl hl' _ _ => ?_⟩
  · obtain ⟨rfl, rfl⟩ := one _ _ hl
    rw [hE']
    refine ⟨by simp, .inr ⟨β, cap, (putCells (Value.int .i64) 0 (r ++ z).toArray vs.toArray).toList, hcm, by simp, by rw [rw_row w β m _ os hh], by simp [putCells, hvl], by simpa using hrl, ?_, ?_⟩⟩
    · intro x hx
      obtain ⟨y, _, rfl⟩ := List.mem_map.1 hx
      rfl
    · intro i j hi hj hb
      have hi' : i < r.length := by simpa using hi
      have hj' : j = 0 := by
        rw [List.getElem_map] at hj
        have : (encI r[i]).length = 1 := rfl
        omega
      subst hj'
      have e1 : (putCells (Value.int .i64) 0 (r ++ z).toArray vs.toArray).toList[i * 1 + 0] = .int .i64 r[i] := by
        simp only [Array.getElem_toList, Nat.mul_one, Nat.add_zero]
        simp only [putCells, Array.getElem_mapIdx, Nat.zero_le, true_and, Nat.zero_add, Nat.sub_zero, List.size_toArray]
        rw [if_pos (by rw [List.length_append]; omega), getElem!_pos _ _ (by simp only [List.size_toArray, List.length_append]; omega)]
        simp only [List.getElem_toArray]
        rw [List.getElem_append_left hi']
      rw [e1]
      have e2 : ((r.map encI)[i]'hi)[0]'hj = .v (.int .i64 r[i]) := by simp [encI, tI]
      rw [e2]
      exact .v _
  · obtain ⟨rfl, rfl⟩ := one _ _ hl
    have : β' = β := by rw [hE'] at hβ'; simpa [blkOf] using hβ'.symm
    subst this
    exact ⟨hS, by rw [rw_size]; omega⟩
  · exact (one _ _ hl).1.trans (one _ _ hl').1.symm

/-- The row that is lent. -/
theorem row_lent {w : World} {β e cap : Nat} {l : List Int} {vs : List Value} (hh : w.heap[β]? = some (.cells vs.toArray e (0, 0))) (hvl : vs.length = cap * 1) (hcap : l.length ≤ cap) {S : Nat → Prop}
    (hr : ∀ i j (hi : i < (l.map encI).length) (hj : j < ((l.map encI)[i]).length) (hb : i * 1 + j < vs.length), RT w S (vs[i * 1 + j]) (((l.map encI)[i])[j])) : Holds (Value.int .i64) w β 0 l.toArray := by
  intro t ht
  have ht' : t < l.length := by simpa using ht
  refine ⟨?_, by simp [World.frozen?, hh]⟩
  rw [cell_of_row w β (0 + t) _ e _ hh, Nat.zero_add]
  have h1 := hr t 0 (by simpa using ht') (by simp [encI]) (by omega)
  have e2 : ((l.map encI)[t]'(by simpa using ht'))[0]'(by simp [encI]) = .v (.int .i64 l[t]) := by simp [encI, tI]
  rw [e2] at h1
  have h3 := RTv h1
  simp only [List.getElem?_toArray]
  rw [List.getElem?_eq_getElem (by omega), getElem!_pos l.toArray t ht]
  simp only [List.getElem_toArray]
  rw [← h3]
  congr 2
  omega

theorem sortInts_tie {P : Program} {ρ : Ren} (L : Lays.n189 P ρ) (hc : ∀ vs w, (callFunc (ρ.f 189) vs).run P w = .ok (.enter (ρ.f 189) vs) w) {e : Nat} (l : List Int) :
    TieG P (ρ.f 189) [.own 1000000] [(1000000, .rows e 1 l.length (l.map encI))] (sortIM l) (fun _ => .tup []) (fun r => [(1000000, .rows e 1 r.length (r.map encI))]) := by
  refine ⟨hc, fun r hr w S E vs hS hO hv => ?_⟩
  have hlen : l.length < 4611686018427387904 := by
    unfold sortIM at hr; split at hr <;> first | assumption | cases hr
  rw [sortIM_ok hlen, Option.some.injEq] at hr
  subst hr
  obtain ⟨v0, rfl⟩ : ∃ v0, vs = [v0] := by
    have := hv.1
    match vs, this with
    | [a], _ => exact ⟨a, rfl⟩
  have r0 : RV w S E v0 (.own 1000000) := hv.2 0 (by simp) (by simp)
  cases r0 with
  | own _ _ hE =>
  have hblk := hO.blk 1000000 (.rows e 1 l.length (l.map encI)) rfl
  rw [hE] at hblk
  obtain ⟨hn, ⟨hx, hnil⟩ | ⟨β, cap, vs, hcm, hx, hh, hvl, hcap, hsz, hr⟩⟩ := hblk
  · have hl : l = [] := by simpa using hnil
    subst hl
    subst hx
    refine (Any.slices_Sort_int_none L none 0 w).mono fun e' w' ⟨he, hw⟩ => ?_
    subst hw
    refine ⟨_, S, E, he, .tup [] [] rfl fun j h1 => by simp at h1, Keep.refl _ _, hS, fun b hb => .inl hb, ?_, fun β hl => .inl ?_, fun _ _ => rfl⟩
    · simpa using hO
    · simpa using hl
  · simp only [List.length_map] at hx hcap
    subst hx
    have hβ := hO.own 1000000 (.rows e 1 l.length (l.map encI)) β rfl (by rw [hE]; rfl)
    have hlent : lentOf [(1000000, Blk.rows e 1 l.length (l.map encI))] E β := ⟨1000000, _, rfl, by rw [hE]; rfl⟩
    refine (Any.slices_Sort_int L β 0 cap l w (row_lent hh hvl hcap hr) hβ.2 hlen).mono fun e' w' ⟨he, m, os, hw⟩ => ?_
    have hrl : (l.mergeSort fun x y => decide (x ≤ y)).length = l.length := List.length_mergeSort l
    generalize (l.mergeSort fun x y => decide (x ≤ y)) = r at hw hrl ⊢
    have hw2 : w' = rowW w β m (r ++ []).toArray os := by rw [List.append_nil]; exact hw
    subst hw2
    refine ⟨.tuple #[], S, E, he, .tup [] [] rfl fun j h1 => by simp at h1, rw_keep w β m _ os _ hlent, fun b hb => ?_, fun b hb => .inl hb, row_back hcm hh hvl (by omega) (by rw [hE, hrl]) hβ.1 hβ.2, fun β' ⟨id, b, hl, hβ'⟩ => .inl ?_, fun _ _ => rfl⟩
    · rw [rw_size]; exact Nat.lt_of_lt_of_le (hS b hb) (Nat.le_add_right _ _)
    · have : id = 1000000 := by
        simp only [look] at hl
        by_cases hid : 1000000 = id
        · exact hid.symm
        · simp [beq_ne hid] at hl
      subst this
      exact ⟨1000000, _, rfl, hβ'⟩

theorem compactInts_tie {P : Program} {ρ : Ren} (L : Lays2.n20 P ρ) (hc : ∀ vs w, (callFunc (ρ.f 20) vs).run P w = .ok (.enter (ρ.f 20) vs) w) {e : Nat} (l : List Int) :
    TieG P (ρ.f 20) [.own 1000000] [(1000000, .rows e 1 l.length (l.map encI))] (compactM l) (fun _ => .own 900000) (fun r => [(900000, .rows e 1 r.length (r.map encI))]) := by
  refine ⟨hc, fun r hr w S E vs hS hO hv => ?_⟩
  have hlen : l.length ≤ 9223372036854775807 := by
    unfold compactM at hr; split at hr <;> first | assumption | cases hr
  rw [compactM_ok hlen, Option.some.injEq] at hr
  obtain ⟨v0, rfl⟩ : ∃ v0, vs = [v0] := by
    have := hv.1
    match vs, this with
    | [a], _ => exact ⟨a, rfl⟩
  have r0 : RV w S E v0 (.own 1000000) := hv.2 0 (by simp) (by simp)
  have one : ∀ (r : List Int) id b, look [(900000, Blk.rows e 1 r.length (r.map encI))] id = some b → id = 900000 := fun r id b hl => by
    simp only [look] at hl
    by_cases hid : 900000 = id
    · exact hid.symm
    · simp [beq_ne hid] at hl
  cases r0 with
  | own _ _ hE =>
  have hblk := hO.blk 1000000 (.rows e 1 l.length (l.map encI)) rfl
  rw [hE] at hblk
  have hEb : ∀ v, ∀ id, big ≤ id → (fun id => if id = 900000 then v else E id) id = E id := fun v id h => by
    simp only
    rw [if_neg (by unfold big at h; omega)]
  obtain ⟨hn, ⟨hx, hnil⟩ | ⟨β, cap, vs, hcm, hx, hh, hvl, hcap, hsz, hrr⟩⟩ := hblk
  · have hl : l = [] := by simpa using hnil
    subst hl
    subst hx
    subst hr
    refine (Any.slices_Compact_int_empty L none 0 w).mono fun e' w' ⟨he, hw⟩ => ?_
    subst hw
    have hno : ∀ id b, look [(900000, Blk.rows e 1 (compL []).length ((compL []).map encI))] id = some b → blkOf ((fun id => if id = 900000 then Value.slice none 0 0 else E id) id) = none := fun id b hl => by
      rw [one _ _ _ hl]; rfl
    refine ⟨_, S, fun id => if id = 900000 then .slice none 0 0 else E id, he, .own _ _ (by simp), Keep.refl _ _, hS, fun b hb => .inl hb, ⟨fun id b hl => ?_, fun id b β' hl hβ' => ?_, fun id id1 b b' β' hl hl' _ _ => (one _ _ _ hl).trans (one _ _ _ hl').symm⟩, fun β ⟨id, b, hl, hβ⟩ => ?_, hEb _⟩
    · have := one _ _ _ hl
      subst this
      simp [look] at hl
      subst hl
      exact ⟨by simp, .inl ⟨by simp, by simp [compL]⟩⟩
    · rw [hno _ _ hl] at hβ'; cases hβ'
    · rw [hno _ _ hl] at hβ; cases hβ
  · simp only [List.length_map] at hx hcap
    subst hx
    have hβ := hO.own 1000000 (.rows e 1 l.length (l.map encI)) β rfl (by rw [hE]; rfl)
    have hlent : lentOf [(1000000, Blk.rows e 1 l.length (l.map encI))] E β := ⟨1000000, _, rfl, by rw [hE]; rfl⟩
    refine (Any.slices_Compact_int L β 0 cap l w (row_lent hh hvl hcap hrr) hlen hcap).mono fun e' w' ⟨he, m, hw⟩ => ?_
    rw [compact_eq] at he hw
    have hrl : (compL l).length ≤ l.length := by
      have key : ∀ (l : List Int) p, (compG p l).length ≤ l.length := by
        intro l
        induction l with
        | nil => intro p; exact Nat.le_refl _
        | cons y l ih =>
          intro p
          unfold compG
          have := ih y
          cases y == p
          · simp only [cond_false, List.length_cons]; omega
          · simp only [cond_true, List.length_cons]; omega
      cases l with
      | nil => exact Nat.le_refl _
      | cons x l => simp only [compL, List.length_cons]; have := key l x; omega
    rw [hr] at he hw hrl
    generalize List.replicate (l.length - r.length) (0 : Int) = z at hw
    have hw2 : w' = rowW w β m (r ++ z).toArray #[] := by rw [hw]; simp [rowW]
    subst hw2
    refine ⟨_, S, fun id => if id = 900000 then .slice (some ⟨β, 0, none⟩) r.length cap else E id, he, .own _ _ (by simp), rw_keep w β m _ _ _ hlent, fun b hb => ?_, fun b hb => .inl hb, row_back hcm hh hvl (by omega) (by simp) hβ.1 hβ.2, fun β' ⟨id, b, hl, hβ'⟩ => .inl ?_, hEb _⟩
    · rw [rw_size]; exact Nat.lt_of_lt_of_le (hS b hb) (Nat.le_add_right _ _)
    · have := one _ _ _ hl
      subst this
      have e1 : β' = β := by simpa [blkOf] using hβ'.symm
      subst e1
      exact hlent
end Go.Pv
namespace Go.Pv
open Go.RowKit

/-- Zeros behind nil. -/
theorem run_append_zeros {P : Program} {w : World} (t u ty e : TypeId) (i : TypeInfo) (z : Value) (kk ik : IntKind) (ht : P.underlying t = some (.slice e)) (hu : P.underlying u = some (.int kk)) (hi : P.info? e = some i) (hz : i.zero = some z) (n : Nat) (h0 : 0 < n) (hs0 : 0 < i.size) (hn : n ≤ 1073741824) (hb : n * i.bytes ≤ 140737488355328) :
    (Builtin.append_ #[t, u] ty #[.slice none 0 0, .int ik n]).run P w =
      .ok (.slice (some ⟨w.heap.size, 0, none⟩) n (grownCap w n 0 e)) (w.drew.alloc (.cells (Builtin.zeroCells z.cells n ++ Builtin.zeroCells z.cells (grownCap w n 0 e - n)) e)) := by
  have hn0 : n ≠ 0 := by omega
  have hs1 : i.size ≠ 0 := by omega
  have hw : IntKind.i64.wrap (n : Int) = (n : Int) := w64_of (by omega) (by omega)
  have hneg : ¬ ((n : Int) < 0) := by omega
  have hbi : ¬ ((281474976710656 : Int) < (n : Int) * (i.bytes : Int)) := by
    have : ((n * i.bytes : Nat) : Int) ≤ 140737488355328 := by omega
    rw [Int.natCast_mul] at this
    omega
  have h63' : ¬ (9223372036854775807 < (n : Int)) := by omega
  have h48' : ¬ (281474976710656 < Builtin.nextslicecap n 0 * i.bytes) := by rw [nextslicecap_zero h0]; omega
  simp [Builtin.append_, run_underlying ht, run_underlying hu, sizeOf, typeInfo, zeroValue, hi, hz, Builtin.lenOf, Builtin.firstCells, hn0, hs1, hw, hneg, hbi, h63', h48', asInt, asIntOf, Question.forced, newRow, grownCap]
  intro h
  exact absurd h (Nat.mul_ne_zero hn0 hs1)

section
variable {ρ α : Type} {X : Cx} {ks : List K} {tm tm' : List (Nat × T)} {hp hp' : List (Nat × Blk)} {m : Option ρ} {Q : ρ → Exit → St → Prop} {all : Array Oper} {o : Oper} {rest : List Oper} {w0 : World} {L : Lim} {nt : Nat} {S : Nat → Prop} {E : Nat → Value} {a : Act} {w : World}

theorem Ok.zeros {P : Program} (h : Ok w0 L nt ⟨tm, hp⟩ S E a w) {id t u ty e n : Nat} {kk ik : IntKind} {ti : TI} {c : List Tree} (hbig : Nat.blt id big = true) (hf : freshT id tm = true) (hb : freshB id hp = true) (ht : P.underlying t = some (.slice e)) (hu : P.underlying u = some (.int kk)) (hte : TIok P e ti) (hz : ti.zero.length = ti.size) (hpos : 0 < ti.size)
    (hc : c = ti.zero.map fun v => nilTree (.v v)) (h0 : 0 < n) (hmax : n ≤ 1073741824) :
    ∃ v' w' E', (Builtin.append_ #[t, u] ty #[.slice none 0 0, .int ik n]).run P w = .ok v' w' ∧ E' id = v' ∧ Ok w0 L nt ⟨tm, (id, .rows e ti.size n (List.replicate n c)) :: hp⟩ S E' a w' := by
  obtain ⟨i, d, hi, hs, _, _, ⟨z, hzz, hzc⟩, hby⟩ := hte
  have hcl : c.length = ti.size := by rw [hc, List.length_map, hz]
  have hzs : z.cells.size = i.size := by rw [hs, ← hz, ← hzc]; simp
  have hbytes : n * i.bytes ≤ 140737488355328 := by
    have := Nat.mul_le_mul hmax hby
    omega
  have hr := run_append_zeros (P := P) (w := w) t u ty e i z kk ik ht hu hi hzz n h0 (by omega) hmax hbytes
  have hge := grownCap_ge w n 0 e
  have hcm : grownCap w n 0 e ≤ maxLen := grownCap_le_maxLen w n 0 e (by simp only [maxLen]; omega)
  generalize grownCap w n 0 e = cap at hr hge hcm
  have hget : ∀ k (hk : k < n * i.size) (hk2 : k < (Builtin.zeroCells z.cells n ++ Builtin.zeroCells z.cells (cap - n)).toList.length), (Builtin.zeroCells z.cells n ++ Builtin.zeroCells z.cells (cap - n)).toList[k] = ti.zero[k % ti.size]'(by rw [hz]; exact Nat.mod_lt _ hpos) := by
    intro k hk hk2
    have hm : k % z.cells.size < z.cells.size := Nat.mod_lt _ (by omega)
    have hk3 : k < (Builtin.zeroCells z.cells n).size := by rw [size_zeroCells, hzs]; exact hk
    rw [Array.getElem_toList, Array.getElem_append_left hk3]
    simp only [Builtin.zeroCells, Array.getElem_map, Array.getElem_range]
    rw [getElem!_pos z.cells _ hm]
    have : z.cells[k % z.cells.size] = z.cells.toList[k % z.cells.size]'(by simpa using hm) := by simp
    rw [this]
    simp only [hzc, hzs, hs]
  obtain ⟨E', hE, hok⟩ := h.regrow (w' := w.drew.alloc (.cells (Builtin.zeroCells z.cells n ++ Builtin.zeroCells z.cells (cap - n)) e)) (v := .slice none 0 0) (v' := .slice (some ⟨w.heap.size, 0, none⟩) n cap) (b := .rows e ti.size n (List.replicate n c)) hbig hf hb (fun β hβ => by cases hβ) (fun _ _ β _ hβ => by cases hβ)
    ⟨rfl, rfl, rfl, by simp, fun k hk _ => Below.heap_alloc w.drew _ _ hk, Nat.le_succ _⟩ (fun β hβ => by cases hβ; simp) (fun E' => by
    refine ⟨by simp, .inr ⟨w.heap.size, cap, (Builtin.zeroCells z.cells n ++ Builtin.zeroCells z.cells (cap - n)).toList, hcm, by simp, by rw [Array.toArray_toList]; exact heap_alloc_new w.drew _, ?_, by simpa using hge, ?_, ?_⟩⟩
    · rw [Array.length_toList, Array.size_append, size_zeroCells, size_zeroCells, hzs, ← Nat.add_mul, hs]
      congr 1
      omega
    · intro r hr; rw [(List.mem_replicate.1 hr).2]; exact hcl
    · intro i' j hi' hj hb'
      have hi2 : i' < n := by simpa using hi'
      simp only [List.getElem_replicate] at hj ⊢
      have hj2 : j < ti.size := by rw [← hcl]; exact hj
      have hlt : i' * ti.size + j < n * i.size := by
        have : (i' + 1) * ti.size ≤ n * ti.size := Nat.mul_le_mul_right _ (by omega)
        rw [Nat.succ_mul] at this
        rw [hs]; omega
      have e1 : (Builtin.zeroCells z.cells n ++ Builtin.zeroCells z.cells (cap - n)).toList[i' * ti.size + j] = ti.zero[j]'(by rw [hz]; exact hj2) := by
        rw [hget _ hlt hb']
        have : (i' * ti.size + j) % ti.size = j := by rw [Nat.mul_comm, Nat.mul_add_mod, Nat.mod_eq_of_lt hj2]
        simp only [this]
      rw [e1]
      have e2 : c[j] = nilTree (.v (ti.zero[j]'(by rw [hz]; exact hj2))) := by subst hc; simp
      rw [e2]
      exact nilTree_ok (.v _))
  exact ⟨_, _, E', hr, hE, hok⟩

theorem TieO.appendN {t u e d s0 s1 : Nat} {z0 z1 : List Value} {te : TI} {s x : Operand} {kk ik : IntKind} {n : Int} {enc : α → List Tree} {k : List α → Option ρ} (id : Nat) (z : α)
    (ho : o.op = .call ⟨.builtin .append, #[s, x], #[t, u]⟩) (hd : o.dst = some d) (hdn : Nat.blt d X.nt = true) (hg : guardT all.toList tm o.guard = some true) (hs : val tm s = some (.t (.v (.slice none 0 0)))) (hx : val tm x = some (.t (.v (.int ik n))))
    (hty : look X.tab t = some ⟨s0, .slice e, z0⟩) (htu : look X.tab u = some ⟨s1, .int kk, z1⟩) (hte : look X.tab e = some te) (hz : te.zero.length = te.size) (hpos : Nat.blt 0 te.size = true) (henc : enc z = te.zero.map fun v => nilTree (.v v)) (hbig : Nat.blt id big = true) (hft : freshT id tm = true) (hfb : freshB id hp = true)
    (h : ∀ y, zerosM n z = some y → TieO X all rest ks ⟨(d, .own id) :: tm, (id, .rows e te.size y.length (y.map enc)) :: hp⟩ (k y) Q) :
    TieO X all (o :: rest) ks ⟨tm, hp⟩ ((zerosM n z).bind k) Q := fun y hy a w ⟨S, E, hk⟩ => by
  cases hmk : zerosM n z with
  | none => simp [hmk] at hy
  | some l =>
    have h0 := hmk
    unfold zerosM at h0
    split at h0 <;> try (cases h0; done)
    rename_i hn
    simp only [Option.some.injEq] at h0
    simp only [hmk, Option.bind_some] at hy
    obtain ⟨dd, hu, ho2⟩ : ∃ d, X.P.underlying t = some d ∧ TD.ok X.P (.slice e) d := by
      obtain ⟨i, d, _, _, hu, hdd, _⟩ := X.htab t _ hty
      exact ⟨d, hu, hdd⟩
    simp only [TD.ok] at ho2
    subst ho2
    obtain ⟨du, hu2, ho3⟩ : ∃ d, X.P.underlying u = some d ∧ TD.ok X.P (.int kk) d := by
      obtain ⟨i, d, _, _, hu, hdd, _⟩ := X.htab u _ htu
      exact ⟨d, hu, hdd⟩
    simp only [TD.ok] at ho3
    subst ho3
    obtain ⟨j, rfl⟩ : ∃ j : Nat, n = (j : Int) := ⟨n.toNat, by omega⟩
    simp only [Int.toNat_natCast] at h0
    obtain ⟨v', w', E', hr, hE, hok⟩ := hk.zeros (P := X.P) (n := j) (c := enc z) (ty := o.type) (ik := ik) hbig hft hfb hu hu2 (X.htab e _ hte) hz (Nat.le_of_ble_eq_true hpos) henc (by omega) (by omega)
    refine wpList_step fun K hK => ?_
    rw [guardT_ok hk hg, if_pos rfl]
    unfold Oper.wp
    have hexec : (execOp a.eval o).run X.P w = .ok (.value v') w' := by
      unfold execOp
      simp only [ho, resolve, invoke, builtin, Sem.run_bind, Sem.run_pure, Result.andThen_ok, List.map_toArray, List.map_cons, List.map_nil, (hk.val hs).tv, (hk.val hx).tv, hr]
    rw [hexec]
    refine hK _ _ (h l hmk y hy _ _ ⟨S, E', ?_⟩)
    rw [hd]
    have e1 : l.map enc = List.replicate j (enc z) := by rw [← h0]; simp
    have e2 : l.length = j := by rw [← h0]; simp
    rw [e1, e2]
    exact hok.put (Nat.le_of_ble_eq_true hdn) (.own id _ hE)

theorem TieO.capNil {t e d s0 : Nat} {z0 : List Value} {x : Operand} (ho : o.op = .call ⟨.builtin .cap, #[x], #[t]⟩) (hd : o.dst = some d) (hdn : Nat.blt d X.nt = true) (hg : guardT all.toList tm o.guard = some true) (hx : val tm x = some (.t (.v (.slice none 0 0))))
    (hty : look X.tab t = some ⟨s0, .slice e, z0⟩) (h : TieO X all rest ks ⟨(d, .t (.v (.int .i64 0))) :: tm, hp⟩ m Q) : TieO X all (o :: rest) ks ⟨tm, hp⟩ m Q := by
  have := TieO.one (k := fun (_ : Unit) => m) (m₁ := some ()) (rest := rest) (ks := ks) (Q := Q) (all := all) (tm := tm) (hp := hp) hd hdn hg (fun _ => .t (.v (.int .i64 0))) (fun _ S E a w _ hk => by
    obtain ⟨dd, hdd, ho2⟩ := (X.htab t _ hty).run_under w
    simp only [TD.ok] at ho2
    subst ho2
    have hxv := (hk.val hx).tv
    refine ⟨.int .i64 0, ?_, .t (.v _)⟩
    unfold execOp
    simp [ho, resolve, invoke, builtin, hxv, Builtin.cap_, hdd, goInt]) (fun _ _ => h)
  exact this

theorem TieO.sliceNil {t e d s0 : Nat} {z0 : List Value} {te : TI} {x hi : Operand} {ik : IntKind} (ho : o.op = .slice t x none (some hi) none) (hd : o.dst = some d) (hdn : Nat.blt d X.nt = true) (hg : guardT all.toList tm o.guard = some true) (hx : val tm x = some (.t (.v (.slice none 0 0)))) (hh : val tm hi = some (.t (.v (.int ik 0))))
    (hty : look X.tab t = some ⟨s0, .slice e, z0⟩) (hte : look X.tab e = some te) (h : TieO X all rest ks ⟨(d, .t (.v (.slice none 0 0))) :: tm, hp⟩ m Q) : TieO X all (o :: rest) ks ⟨tm, hp⟩ m Q := by
  have := TieO.one (k := fun (_ : Unit) => m) (m₁ := some ()) (rest := rest) (ks := ks) (Q := Q) (all := all) (tm := tm) (hp := hp) hd hdn hg (fun _ => .t (.v (.slice none 0 0))) (fun _ S E a w _ hk => by
    obtain ⟨dd, hdd, ho2⟩ := (X.htab t _ hty).run_under w
    simp only [TD.ok] at ho2
    subst ho2
    have hsz := (X.htab e _ hte).run_size w
    have hxv := (hk.val hx).tv
    have hhv := (hk.val hh).tv
    refine ⟨.slice none 0 0, ?_, .t (.v _)⟩
    unfold execOp
    simp [ho, hxv, hhv, Instr.sliceAt, Instr.slice, Instr.sliceBounds, Instr.sliceBound, hdd, hsz, asIntOf]) (fun _ _ => h)
  exact this
end
end Go.Pv
namespace Go.Pv
open Go.RowKit Go.Shelf Go.Proofs

theorem RVL.get1 {w : World} {S : Nat → Prop} {E : Nat → Value} {vs : List Value} {a : Value} (h : RVL w S E vs [.t (.v a)]) : vs = [a] := by
  match vs, h with
  | [x], h => have e : x = a := RV.tv (h.2 0 (by simp) (by simp)); rw [e]
  | [], h => exact absurd h.1 (by simp)
  | _ :: _ :: _, h => exact absurd h.1 (by simp)

theorem RVL.get2 {w : World} {S : Nat → Prop} {E : Nat → Value} {vs : List Value} {a b : Value} (h : RVL w S E vs [.t (.v a), .t (.v b)]) : vs = [a, b] := by
  match vs, h with
  | [x, y], h => have e : x = a := RV.tv (h.2 0 (by simp) (by simp)); have f : y = b := RV.tv (h.2 1 (by simp) (by simp)); rw [e, f]
  | [], h => exact absurd h.1 (by simp)
  | [_], h => exact absurd h.1 (by simp)
  | _ :: _ :: _ :: _, h => exact absurd h.1 (by simp)

theorem len64_tie {P : Program} {ρ : Ren} (L : Lays.n129 P ρ) (hc : ∀ vs w, (callFunc (ρ.f 129) vs).run P w = .ok (.enter (ρ.f 129) vs) w) (x : Int) :
    TieF P (ρ.f 129) [.t (tK .u64 x)] (len64M x) (fun r => .t (tI r)) := by
  refine ⟨hc, fun r hr w S E vs hS hv => ?_⟩
  obtain rfl := hv.get1
  unfold len64M at hr
  by_cases h : 0 ≤ x ∧ x ≤ 18446744073709551615
  · rw [if_pos h] at hr; cases hr
    refine (Any.bits_Len64 L x w h.1 h.2).mono fun e w' ⟨he, hw⟩ => ?_
    subst hw
    exact ⟨_, S, he, .t (.v _), .refl _ _, hS, fun b hb => .inl hb⟩
  · rw [if_neg h] at hr; cases hr

theorem mul64_tie {P : Program} {ρ : Ren} (L : Lays.n264 P ρ) (hc : ∀ vs w, (callFunc (ρ.f 264) vs).run P w = .ok (.enter (ρ.f 264) vs) w) (x y : Int) :
    TieF P (ρ.f 264) [.t (tK .u64 x), .t (tK .u64 y)] (mul64M x y) (fun r => .tup [.t (tK .u64 r.1), .t (tK .u64 r.2)]) := by
  refine ⟨hc, fun r hr w S E vs hS hv => ?_⟩
  obtain rfl := hv.get2
  unfold mul64M at hr
  by_cases h : (0 ≤ x ∧ x ≤ 18446744073709551615) ∧ (0 ≤ y ∧ y ≤ 18446744073709551615)
  · rw [if_pos h] at hr; cases hr
    obtain ⟨a, rfl⟩ : ∃ a : Nat, x = a := ⟨x.toNat, by omega⟩
    obtain ⟨b, rfl⟩ : ∃ b : Nat, y = b := ⟨y.toNat, by omega⟩
    refine (Any.bits_Mul64 L a b (by omega) (by omega) w).mono fun e w' ⟨he, hw⟩ => ?_
    subst hw
    refine ⟨_, S, he, .tup [_, _] _ rfl fun j h1 h2 => ?_, .refl _ _, hS, fun b hb => .inl hb⟩
    match j, h1 with
    | 0, _ => exact .t (.v _)
    | 1, _ => exact .t (.v _)
  · rw [if_neg h] at hr; cases hr

section
variable {ρ : Type} {X : Cx} {ks : List K} {tm tmMin : List (Nat × T)} {hp : List (Nat × Blk)} {Q : ρ → Exit → St → Prop} {all : Array Oper} {o : Oper} {rest : List Oper}

theorem TieO.shl {ty yt d : Nat} {x y : Operand} {ik jk : IntKind} {i j : Int} {k : Int → Option ρ} (ho : o.op = .binOp .shl ty x y yt) (hd : o.dst = some d) (hdn : Nat.blt d X.nt = true) (hg : guardT all.toList tm o.guard = some true)
    (hx : val tm x = some (.t (.v (.int ik i)))) (hy : val tm y = some (.t (.v (.int jk j)))) (h : ∀ q, TieO X all rest ks ⟨(d, .t (.v (.int ik q))) :: tm, hp⟩ (k q) Q) :
    TieO X all (o :: rest) ks ⟨tm, hp⟩ ((shlM ik i j).bind k) Q :=
  TieO.one hd hdn hg (fun q => .t (.v (.int ik q))) (fun q S E a w hm hk => by
    unfold shlM at hm
    split at hm
    · cases hm
    · rename_i hj
      cases hm
      refine ⟨_, ?_, .t (.v _)⟩
      simp only [execOp, ho, Sem.run_bind, (hk.val hx).tv, (hk.val hy).tv, eqGuard_run .shl ty x y (.int ik i) (.int jk j) (by simp) (by simp), Result.andThen_ok]
      simp [binOp, Op.shift, hj, bitShl]) (fun q _ => h q)

theorem TieO.shr {ty yt d : Nat} {x y : Operand} {ik jk : IntKind} {i j : Int} {k : Int → Option ρ} (ho : o.op = .binOp .shr ty x y yt) (hd : o.dst = some d) (hdn : Nat.blt d X.nt = true) (hg : guardT all.toList tm o.guard = some true)
    (hx : val tm x = some (.t (.v (.int ik i)))) (hy : val tm y = some (.t (.v (.int jk j)))) (h : ∀ q, TieO X all rest ks ⟨(d, .t (.v (.int ik q))) :: tm, hp⟩ (k q) Q) :
    TieO X all (o :: rest) ks ⟨tm, hp⟩ ((shrM ik i j).bind k) Q :=
  TieO.one hd hdn hg (fun q => .t (.v (.int ik q))) (fun q S E a w hm hk => by
    unfold shrM at hm
    split at hm
    · cases hm
    · rename_i hj
      cases hm
      refine ⟨_, ?_, .t (.v _)⟩
      simp only [execOp, ho, Sem.run_bind, (hk.val hx).tv, (hk.val hy).tv, eqGuard_run .shr ty x y (.int ik i) (.int jk j) (by simp) (by simp), Result.andThen_ok]
      simp [binOp, Op.shift, hj, bitShr]) (fun q _ => h q)

theorem StepQ.op1 {V : T} (hg : guardT all.toList tmMin o.guard = some true)
    (hrun : ∀ tm, more tmMin tm → ∀ (a : Act) w S E, Ok X.w0 X.L X.nt ⟨tm, hp⟩ S E a w → ∃ v, (execOp a.eval o).run X.P w = .ok (.value v) w ∧ RV w S E v V) : StepQ X all o tmMin hp V := by
  intro tm hm a w S E hk K Q' hK
  obtain ⟨v, h1, h2⟩ := hrun tm hm a w S E hk
  rw [guardT_ok hk (guardT_more hm hg), if_pos rfl]
  unfold Oper.wp
  rw [h1]
  exact hK _ _ _ _ hk h2

theorem StepQ.rem {ty yt : Nat} {x y : Operand} {ik : IntKind} {i j q : Int} (hq : remM i j = some q) (ho : o.op = .binOp .rem ty x y yt) (hg : guardT all.toList tmMin o.guard = some true)
    (hx : val tmMin x = some (.t (.v (.int ik i)))) (hy : val tmMin y = some (.t (.v (.int ik j)))) : StepQ X all o tmMin hp (.t (.v (.int ik q))) :=
  .op1 hg fun tm hm a w S E hk => ⟨.int ik q, by
    unfold remM at hq
    split at hq
    · cases hq
    · rename_i hj
      cases hq
      simp only [execOp, ho, Sem.run_bind, (hk.val (val_more hm hx)).tv, (hk.val (val_more hm hy)).tv, eqGuard_run .rem ty x y (.int ik i) (.int ik j) (by simp) (by simp), Result.andThen_ok]
      simp [binOp, Op.intDiv, hj], .t (.v _)⟩

theorem StepQ.shl {ty yt : Nat} {x y : Operand} {ik jk : IntKind} {i j q : Int} (hq : shlM ik i j = some q) (ho : o.op = .binOp .shl ty x y yt) (hg : guardT all.toList tmMin o.guard = some true)
    (hx : val tmMin x = some (.t (.v (.int ik i)))) (hy : val tmMin y = some (.t (.v (.int jk j)))) : StepQ X all o tmMin hp (.t (.v (.int ik q))) :=
  .op1 hg fun tm hm a w S E hk => ⟨.int ik q, by
    unfold shlM at hq
    split at hq
    · cases hq
    · rename_i hj
      cases hq
      simp only [execOp, ho, Sem.run_bind, (hk.val (val_more hm hx)).tv, (hk.val (val_more hm hy)).tv, eqGuard_run .shl ty x y (.int ik i) (.int jk j) (by simp) (by simp), Result.andThen_ok]
      simp [binOp, Op.shift, hj, bitShl], .t (.v _)⟩

theorem StepQ.shr {ty yt : Nat} {x y : Operand} {ik jk : IntKind} {i j q : Int} (hq : shrM ik i j = some q) (ho : o.op = .binOp .shr ty x y yt) (hg : guardT all.toList tmMin o.guard = some true)
    (hx : val tmMin x = some (.t (.v (.int ik i)))) (hy : val tmMin y = some (.t (.v (.int jk j)))) : StepQ X all o tmMin hp (.t (.v (.int ik q))) :=
  .op1 hg fun tm hm a w S E hk => ⟨.int ik q, by
    unfold shrM at hq
    split at hq
    · cases hq
    · rename_i hj
      cases hq
      simp only [execOp, ho, Sem.run_bind, (hk.val (val_more hm hx)).tv, (hk.val (val_more hm hy)).tv, eqGuard_run .shr ty x y (.int ik i) (.int jk j) (by simp) (by simp), Result.andThen_ok]
      simp [binOp, Op.shift, hj, bitShr], .t (.v _)⟩
end
end Go.Pv

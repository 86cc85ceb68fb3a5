/- This file joins: Types and models, printed by gen.py: plain Lean; nothing of the loaded program stands here. The value machine, part Xf: slices.SortFunc, by the kit's contract. The value machine, part Xh: quiet steps of regions that draw their order, taken at once. The value machine, part Xj: slices.Sort and slices.Compact at int, by the kit's contracts. The value machine, part Xl: what grows from nil by zeros; cap and slicing of nil. The value machine, part Xm: math/bits.Len64 and Mul64, by the kit's contracts. The value machine, part Xn: parts of rows of the call's own: copied within, cleared. -/
import Derived.Test.YtalanclpiojanaaGreatControlStatesB
import Derived.Shelf.SlSortCmp.NoneTotal
import Derived.Deep.Draws
import Derived.Shelf.Sort.Plain
import Derived.Shelf.Slices.In.SortNone
import Derived.Shelf.Slices.CompactI
import Derived.Shelf.Strconv.Itoa0
import Derived.Shelf.Bits.Mul64
import Derived.Scope
set_option linter.unusedSimpArgs false
set_option linter.unusedVariables false
namespace Go.Pv
open Go
def enc_u32 (n : Int) : List Tree := [tK .u32 n]
def enc_u64 (n : Int) : List Tree := [tK .u64 n]
@[ext] structure SMap where
  X : List Int
  Y : List Int
  Z : List (List Int)
def enc_SMap (x : SMap) : List Tree := [tS Pv.encI x.X, tS Pv.encI x.Y, tS (Pv.encS Pv.encI) x.Z]
abbrev A_SMap (x : SMap) : T := .agg [.t (tS Pv.encI x.X), .t (tS Pv.encI x.Y), .t (tS (Pv.encS Pv.encI) x.Z)]
@[ext] structure SCurve where
  X : List Int
  Y : List Int
def enc_SCurve (x : SCurve) : List Tree := [tS Pv.encI x.X, tS Pv.encI x.Y]
abbrev A_SCurve (x : SCurve) : T := .agg [.t (tS Pv.encI x.X), .t (tS Pv.encI x.Y)]
@[ext] structure SGain where
  P : Int
  I : Int
  Low : Int
  High : Int
def enc_SGain (x : SGain) : List Tree := [tI x.P, tI x.I, tI x.Low, tI x.High]
abbrev A_SGain (x : SGain) : T := .agg [.t (tI x.P), .t (tI x.I), .t (tI x.Low), .t (tI x.High)]
@[ext] structure STables where
  Air : SMap
  Spark : SMap
  Torque : SMap
  Wish : SMap
  AirTemp : SCurve
  Dwell : SCurve
  Dead : SCurve
  Efficiency : SCurve
  Idle : SGain
def enc_STables (x : STables) : List Tree := [tS Pv.encI x.Air.X, tS Pv.encI x.Air.Y, tS (Pv.encS Pv.encI) x.Air.Z, tS Pv.encI x.Spark.X, tS Pv.encI x.Spark.Y, tS (Pv.encS Pv.encI) x.Spark.Z, tS Pv.encI x.Torque.X, tS Pv.encI x.Torque.Y, tS (Pv.encS Pv.encI) x.Torque.Z, tS Pv.encI x.Wish.X, tS Pv.encI x.Wish.Y, tS (Pv.encS Pv.encI) x.Wish.Z, tS Pv.encI x.AirTemp.X, tS Pv.encI x.AirTemp.Y, tS Pv.encI x.Dwell.X, tS Pv.encI x.Dwell.Y, tS Pv.encI x.Dead.X, tS Pv.encI x.Dead.Y, tS Pv.encI x.Efficiency.X, tS Pv.encI x.Efficiency.Y, tI x.Idle.P, tI x.Idle.I, tI x.Idle.Low, tI x.Idle.High]
abbrev A_STables (x : STables) : T := .agg [.t (tS Pv.encI x.Air.X), .t (tS Pv.encI x.Air.Y), .t (tS (Pv.encS Pv.encI) x.Air.Z), .t (tS Pv.encI x.Spark.X), .t (tS Pv.encI x.Spark.Y), .t (tS (Pv.encS Pv.encI) x.Spark.Z), .t (tS Pv.encI x.Torque.X), .t (tS Pv.encI x.Torque.Y), .t (tS (Pv.encS Pv.encI) x.Torque.Z), .t (tS Pv.encI x.Wish.X), .t (tS Pv.encI x.Wish.Y), .t (tS (Pv.encS Pv.encI) x.Wish.Z), .t (tS Pv.encI x.AirTemp.X), .t (tS Pv.encI x.AirTemp.Y), .t (tS Pv.encI x.Dwell.X), .t (tS Pv.encI x.Dwell.Y), .t (tS Pv.encI x.Dead.X), .t (tS Pv.encI x.Dead.Y), .t (tS Pv.encI x.Efficiency.X), .t (tS Pv.encI x.Efficiency.Y), .t (tI x.Idle.P), .t (tI x.Idle.I), .t (tI x.Idle.Low), .t (tI x.Idle.High)]
abbrev B_STables (x : STables) : List T := [.t (tS Pv.encI x.Air.X), .t (tS Pv.encI x.Air.Y), .t (tS (Pv.encS Pv.encI) x.Air.Z), .t (tS Pv.encI x.Spark.X), .t (tS Pv.encI x.Spark.Y), .t (tS (Pv.encS Pv.encI) x.Spark.Z), .t (tS Pv.encI x.Torque.X), .t (tS Pv.encI x.Torque.Y), .t (tS (Pv.encS Pv.encI) x.Torque.Z), .t (tS Pv.encI x.Wish.X), .t (tS Pv.encI x.Wish.Y), .t (tS (Pv.encS Pv.encI) x.Wish.Z), .t (tS Pv.encI x.AirTemp.X), .t (tS Pv.encI x.AirTemp.Y), .t (tS Pv.encI x.Dwell.X), .t (tS Pv.encI x.Dwell.Y), .t (tS Pv.encI x.Dead.X), .t (tS Pv.encI x.Dead.Y), .t (tS Pv.encI x.Efficiency.X), .t (tS Pv.encI x.Efficiency.Y), .t (tI x.Idle.P), .t (tI x.Idle.I), .t (tI x.Idle.Low), .t (tI x.Idle.High)]
@[ext] structure SEngine where
  Order : List Int
  First : Int
def enc_SEngine (x : SEngine) : List Tree := [tS Pv.encI x.Order, tI x.First]
abbrev A_SEngine (x : SEngine) : T := .agg [.t (tS Pv.encI x.Order), .t (tI x.First)]
@[ext] structure SPedal where
  Value : Int
  Differ : Int
  Fault : Bool
def enc_SPedal (x : SPedal) : List Tree := [tI x.Value, tI x.Differ, tB x.Fault]
abbrev A_SPedal (x : SPedal) : T := .agg [.t (tI x.Value), .t (tI x.Differ), .t (tB x.Fault)]
@[ext] structure SIntegral where
  Sum : Int
def enc_SIntegral (x : SIntegral) : List Tree := [tI x.Sum]
abbrev A_SIntegral (x : SIntegral) : T := .agg [.t (tI x.Sum)]
@[ext] structure SKnock where
  Retard : Int
  Noise : Int
  Quiet : Int
def enc_SKnock (x : SKnock) : List Tree := [tI x.Retard, tI x.Noise, tI x.Quiet]
abbrev A_SKnock (x : SKnock) : T := .agg [.t (tI x.Retard), .t (tI x.Noise), .t (tI x.Quiet)]
@[ext] structure SCell where
  Value : Int
  Count : Int
def enc_SCell (x : SCell) : List Tree := [tI x.Value, tI x.Count]
abbrev A_SCell (x : SCell) : T := .agg [.t (tI x.Value), .t (tI x.Count)]
@[ext] structure SProbe where
  Active : Bool
  Rich : Bool
  Factor : Int
  Wait : Int
  Cells : List SCell
def enc_SProbe (x : SProbe) : List Tree := [tB x.Active, tB x.Rich, tI x.Factor, tI x.Wait, tS enc_SCell x.Cells]
abbrev A_SProbe (x : SProbe) : T := .agg [.t (tB x.Active), .t (tB x.Rich), .t (tI x.Factor), .t (tI x.Wait), .t (tS enc_SCell x.Cells)]
@[ext] structure SGrant where
  Torque : Int
  Source : Int
def enc_SGrant (x : SGrant) : List Tree := [tI x.Torque, tI x.Source]
abbrev A_SGrant (x : SGrant) : T := .agg [.t (tI x.Torque), .t (tI x.Source)]
@[ext] structure SControls where
  Pedal : SPedal
  Idle : SIntegral
  Knock : List SKnock
  Probe : SProbe
  Film : Int
  Grant : SGrant
def enc_SControls (x : SControls) : List Tree := [tI x.Pedal.Value, tI x.Pedal.Differ, tB x.Pedal.Fault, tI x.Idle.Sum, tS enc_SKnock x.Knock, tB x.Probe.Active, tB x.Probe.Rich, tI x.Probe.Factor, tI x.Probe.Wait, tS enc_SCell x.Probe.Cells, tI x.Film, tI x.Grant.Torque, tI x.Grant.Source]
abbrev A_SControls (x : SControls) : T := .agg [.t (tI x.Pedal.Value), .t (tI x.Pedal.Differ), .t (tB x.Pedal.Fault), .t (tI x.Idle.Sum), .t (tS enc_SKnock x.Knock), .t (tB x.Probe.Active), .t (tB x.Probe.Rich), .t (tI x.Probe.Factor), .t (tI x.Probe.Wait), .t (tS enc_SCell x.Probe.Cells), .t (tI x.Film), .t (tI x.Grant.Torque), .t (tI x.Grant.Source)]
abbrev B_SControls (x : SControls) : List T := [.t (tI x.Pedal.Value), .t (tI x.Pedal.Differ), .t (tB x.Pedal.Fault), .t (tI x.Idle.Sum), .t (tS enc_SKnock x.Knock), .t (tB x.Probe.Active), .t (tB x.Probe.Rich), .t (tI x.Probe.Factor), .t (tI x.Probe.Wait), .t (tS enc_SCell x.Probe.Cells), .t (tI x.Film), .t (tI x.Grant.Torque), .t (tI x.Grant.Source)]
@[ext] structure SRequest where
  Source : Int
  Kind : Int
  Torque : Int
  Priority : Int
def enc_SRequest (x : SRequest) : List Tree := [tI x.Source, tI x.Kind, tI x.Torque, tI x.Priority]
abbrev A_SRequest (x : SRequest) : T := .agg [.t (tI x.Source), .t (tI x.Kind), .t (tI x.Torque), .t (tI x.Priority)]
@[ext] structure SInputs where
  Pedal1 : Int
  Pedal2 : Int
  Speed : Int
  Pressure : Int
  AirTemp : Int
  Voltage : Int
  Lambda : Int
  Coolant : Int
  Intensity : List Int
  Requests : List SRequest
def enc_SInputs (x : SInputs) : List Tree := [tI x.Pedal1, tI x.Pedal2, tI x.Speed, tI x.Pressure, tI x.AirTemp, tI x.Voltage, tI x.Lambda, tI x.Coolant, tS Pv.encI x.Intensity, tS enc_SRequest x.Requests]
abbrev A_SInputs (x : SInputs) : T := .agg [.t (tI x.Pedal1), .t (tI x.Pedal2), .t (tI x.Speed), .t (tI x.Pressure), .t (tI x.AirTemp), .t (tI x.Voltage), .t (tI x.Lambda), .t (tI x.Coolant), .t (tS Pv.encI x.Intensity), .t (tS enc_SRequest x.Requests)]
abbrev B_SInputs (x : SInputs) : List T := [.t (tI x.Pedal1), .t (tI x.Pedal2), .t (tI x.Speed), .t (tI x.Pressure), .t (tI x.AirTemp), .t (tI x.Voltage), .t (tI x.Lambda), .t (tI x.Coolant), .t (tS Pv.encI x.Intensity), .t (tS enc_SRequest x.Requests)]
/-- magneto/events.angle -/
noncomputable def events_angle (a : Int) : Option Bool :=
  some ((decide (a ≥ 0)) && (decide (a < 46080)))
/-- slices.Index[[]int,int] -/
noncomputable def slices_Index_sint_b1 (s : List Int) (v : Int) (i : Int) (_ : Unit) : Option (Fl Unit Int) :=
  Option.bind (getI s i) fun x => bif (v == x) then (some (.ret i)) else (some (.next ()))
noncomputable def slices_Index_sint (s : List Int) (v : Int) : Option Int :=
  Option.bind (rangeN (s.length : Int) (slices_Index_sint_b1 s v) ()) fun (t : Unit ⊕ Int) => match t with | .inl _ => (some (-1)) | .inr r2 => some r2
/-- slices.Contains[[]int,int] -/
noncomputable def slices_Contains_sint (s : List Int) (v : Int) : Option Bool :=
  Option.bind (slices_Index_sint s v) fun v2 => some (decide (v2 ≥ 0))
/-- magneto/events.Valid -/
noncomputable def events_Valid_b1 (e2 : SEngine) (i : Int) : Option (Int ⊕ (Int ⊕ Bool)) :=
  bif (decide (i ≤ (e2.Order.length : Int))) then (Option.bind (slices_Contains_sint e2.Order i) fun v2 => bif (!v2) then (some (.inr (.inr false))) else (some (.inl (w64 (i + 1))))) else (some (.inr (.inl i)))
noncomputable def events_Valid (e2 : SEngine) : Option Bool :=
  Option.bind (bif ((decide ((e2.Order.length : Int) < 1)) || (decide ((e2.Order.length : Int) > 8))) then (some true) else (Option.bind (events_angle e2.First) fun v => some (!v))) fun b2 => bif b2 then (some false) else (Option.bind (loopM (events_Valid_b1 e2) 1) fun (t : Int ⊕ Bool) => match t with | .inl _ => (some true) | .inr r2 => some r2)
/-- math/bits.Mul64 -/
noncomputable def math_bits_Mul64 (x : Int) (y : Int) : Option (Int × Int) :=
  mul64M x y
/-- math/bits.Mul -/
noncomputable def math_bits_Mul (x : Int) (y : Int) : Option (Int × Int) :=
  Option.bind (math_bits_Mul64 x y) fun r2 => some (r2.1, r2.2)
/-- slices.Repeat[[]magneto/api.Knock,magneto/api.Knock] -/
noncomputable def slices_Repeat_sKnock_b1 (s3 : Int × List SKnock) : Option ((Int × List SKnock) ⊕ ((Int × List SKnock) ⊕ Empty)) :=
  bif (decide (s3.1 < (s3.2.length : Int))) then (Option.bind (Option.bind (chkM s3.1 (s3.2.length : Int) s3.2.length) fun _ => Option.bind (chkM 0 s3.1 s3.2.length) fun _ => some (w64 (s3.1 + ((min (Int.toNat s3.1 - Int.toNat 0) (Int.toNat (s3.2.length : Int) - Int.toNat s3.1) : Nat) : Int)), copyVM s3.2 s3.1 (s3.2.length : Int) 0 s3.1)) fun (s4 : Int × List SKnock) => some (.inl (s4.1, s4.2))) else (some (.inr (.inl (s3.1, s3.2))))
noncomputable def slices_Repeat_sKnock (x : List SKnock) (count : Int) : Option (List SKnock) :=
  Option.bind (bif (decide (count < 0)) then none else (some ())) fun (_ : Unit) => Option.bind (math_bits_Mul (IntKind.u64.wrap (x.length : Int)) (IntKind.u64.wrap count)) fun r2 => Option.bind (bif ((decide (r2.1 > 0)) || (decide (r2.2 > 9223372036854775807))) then none else (some ())) fun (_ : Unit) => Option.bind (makeM (w64 r2.2) (⟨0, 0, 0⟩ : SKnock)) fun l => Option.bind (loopM (slices_Repeat_sKnock_b1) ((min (x).length (l).length : Nat), copyL l x)) fun (t : (Int × List SKnock) ⊕ Empty) => match t with | .inl s5 => (some s5.2) | .inr r => r.elim
/-- magneto/knock.New -/
noncomputable def knock_New (n2 : Int) : Option (List SKnock × Int) :=
  bif ((decide (n2 < 1)) || (decide (n2 > 8))) then (some (([] : List SKnock), 2)) else (Option.bind (slices_Repeat_sKnock ([(⟨0, 100, 0⟩ : SKnock)] : List SKnock) n2) fun v => some (v, 0))
/-- magneto/pedal.New -/
noncomputable def pedal_New : Option SPedal :=
  some (⟨0, 0, false⟩ : SPedal)
/-- magneto/mixture.New -/
noncomputable def mixture_New : Option SProbe :=
  Option.bind (makeM 9 (⟨0, 0⟩ : SCell)) fun l => some (⟨false, false, 1000, 0, l⟩ : SProbe)
/-- magneto/control.New -/
noncomputable def control_New (e2 : SEngine) : Option (SControls × Int) :=
  Option.bind (events_Valid e2) fun v => bif (!v) then (some ((⟨(⟨0, 0, false⟩ : SPedal), (⟨0⟩ : SIntegral), ([] : List SKnock), (⟨false, false, 0, 0, ([] : List SCell)⟩ : SProbe), 0, (⟨0, 0⟩ : SGrant)⟩ : SControls), 1)) else (Option.bind (knock_New (e2.Order.length : Int)) fun r2 => bif (r2.2 != 0) then (some ((⟨(⟨0, 0, false⟩ : SPedal), (⟨0⟩ : SIntegral), ([] : List SKnock), (⟨false, false, 0, 0, ([] : List SCell)⟩ : SProbe), 0, (⟨0, 0⟩ : SGrant)⟩ : SControls), 1)) else (Option.bind (pedal_New) fun v2 => Option.bind (mixture_New) fun v3 => some ((⟨v2, (⟨0⟩ : SIntegral), r2.1, v3, 0, (⟨0, (-1)⟩ : SGrant)⟩ : SControls), 0)))
/-- magneto/pedal.Valid -/
noncomputable def pedal_Valid (p2 : SPedal) : Option Bool :=
  Option.bind (bif p2.Fault then (some 200) else (some 1000)) fun (most : Int) => some (((((decide (p2.Value ≥ 0)) && (decide (p2.Value ≤ most))) && (decide (p2.Differ ≥ 0))) && (decide (p2.Differ ≤ 3))) && (p2.Fault == (p2.Differ == 3)))
/-- magneto/mixture.in -/
noncomputable def mixture_in (x : Int) (low : Int) (high : Int) : Option Bool :=
  some ((decide (x ≥ low)) && (decide (x ≤ high)))
/-- slices.IndexFunc[[]magneto/api.Cell,magneto/api.Cell] -/
noncomputable def slices_IndexFunc_sCell_b1 (s : List SCell) (f2 : SCell → Option Bool) (i : Int) (_ : Unit) : Option (Fl Unit Int) :=
  Option.bind (getI s i) fun x => Option.bind (f2 x) fun v => bif v then (some (.ret i)) else (some (.next ()))
noncomputable def slices_IndexFunc_sCell (s : List SCell) (f2 : SCell → Option Bool) : Option Int :=
  Option.bind (rangeN (s.length : Int) (slices_IndexFunc_sCell_b1 s f2) ()) fun (t : Unit ⊕ Int) => match t with | .inl _ => (some (-1)) | .inr r2 => some r2
/-- slices.ContainsFunc[[]magneto/api.Cell,magneto/api.Cell] -/
noncomputable def slices_ContainsFunc_sCell (s : List SCell) (f2 : SCell → Option Bool) : Option Bool :=
  Option.bind (slices_IndexFunc_sCell s f2) fun v => some (decide (v ≥ 0))
/-- magneto/mixture.Valid$1 -/
noncomputable def mixture_Valid_1 (c : SCell) : Option Bool :=
  Option.bind (mixture_in c.Value (-100) 100) fun v => Option.bind (bif (!v) then (some true) else (Option.bind (mixture_in c.Count 0 1000) fun v2 => some (!v2))) fun b2 => some b2
/-- magneto/mixture.Valid -/
noncomputable def mixture_Valid (p2 : SProbe) : Option Bool :=
  Option.bind (mixture_in p2.Factor 750 1250) fun v => Option.bind (bif (!v) then (some true) else (Option.bind (mixture_in p2.Wait 0 1000) fun v2 => some (!v2))) fun b2 => bif (b2 || ((p2.Cells.length : Int) != 9)) then (some false) else (Option.bind (bif (!p2.Active) then (some (((p2.Factor != 1000) || (p2.Wait != 0)) || p2.Rich)) else (some false)) fun b3 => bif b3 then (some false) else (Option.bind (slices_ContainsFunc_sCell p2.Cells mixture_Valid_1) fun v3 => some (!v3)))
/-- slices.IndexFunc[[]magneto/api.Knock,magneto/api.Knock] -/
noncomputable def slices_IndexFunc_sKnock_b1 (s : List SKnock) (f2 : SKnock → Option Bool) (i : Int) (_ : Unit) : Option (Fl Unit Int) :=
  Option.bind (getI s i) fun x => Option.bind (f2 x) fun v => bif v then (some (.ret i)) else (some (.next ()))
noncomputable def slices_IndexFunc_sKnock (s : List SKnock) (f2 : SKnock → Option Bool) : Option Int :=
  Option.bind (rangeN (s.length : Int) (slices_IndexFunc_sKnock_b1 s f2) ()) fun (t : Unit ⊕ Int) => match t with | .inl _ => (some (-1)) | .inr r2 => some r2
/-- slices.ContainsFunc[[]magneto/api.Knock,magneto/api.Knock] -/
noncomputable def slices_ContainsFunc_sKnock (s : List SKnock) (f2 : SKnock → Option Bool) : Option Bool :=
  Option.bind (slices_IndexFunc_sKnock s f2) fun v => some (decide (v ≥ 0))
/-- magneto/knock.intensity -/
noncomputable def knock_intensity (n2 : Int) : Option Bool :=
  some ((decide (n2 ≥ 0)) && (decide (n2 ≤ 4095)))
/-- magneto/knock.Valid -/
noncomputable def knock_Valid (k : SKnock) : Option Bool :=
  Option.bind (bif ((decide (k.Retard ≥ 0)) && (decide (k.Retard ≤ 960))) then (Option.bind (knock_intensity k.Noise) fun v => some v) else (some false)) fun b2 => some ((b2 && (decide (k.Quiet ≥ 0))) && (decide (k.Quiet < 100)))
/-- magneto/control.Good$1 -/
noncomputable def control_Good_1 (k : SKnock) : Option Bool :=
  Option.bind (knock_Valid k) fun v => some (!v)
/-- magneto/control.in -/
noncomputable def control_in (x : Int) (low : Int) (high : Int) : Option Bool :=
  some ((decide (x ≥ low)) && (decide (x ≤ high)))
/-- magneto/control.Good -/
noncomputable def control_Good (e2 : SEngine) (c : SControls) : Option Bool :=
  Option.bind (events_Valid e2) fun v => Option.bind (bif (!v) then (some true) else (Option.bind (pedal_Valid c.Pedal) fun v2 => some (!v2))) fun b2 => Option.bind (bif b2 then (some true) else (Option.bind (mixture_Valid c.Probe) fun v3 => some (!v3))) fun b3 => bif (b3 || ((c.Knock.length : Int) != (e2.Order.length : Int))) then (some false) else (Option.bind (slices_ContainsFunc_sKnock c.Knock control_Good_1) fun v4 => bif v4 then (some false) else (Option.bind (control_in c.Idle.Sum (-4398046511104) 4398046511104) fun v5 => Option.bind (bif v5 then (Option.bind (control_in c.Film 0 1073741824) fun v6 => some v6) else (some false)) fun b4 => Option.bind (bif b4 then (Option.bind (control_in c.Grant.Torque (-5000) 10000) fun v7 => some v7) else (some false)) fun b5 => Option.bind (bif b5 then (Option.bind (control_in c.Grant.Source (-1) 15) fun v8 => some v8) else (some false)) fun b6 => some b6))
/-- magneto/magnetolaw38.awake -/
noncomputable def magnetolaw38_awake : Option Bool :=
  Option.bind (control_New (⟨([1] : List Int), 0⟩ : SEngine)) fun r2 => Option.bind (bif (r2.2 == 0) then (Option.bind (control_Good (⟨([1] : List Int), 0⟩ : SEngine) (⟨(⟨r2.1.Pedal.Value, r2.1.Pedal.Differ, r2.1.Pedal.Fault⟩ : SPedal), (⟨r2.1.Idle.Sum⟩ : SIntegral), r2.1.Knock, (⟨r2.1.Probe.Active, r2.1.Probe.Rich, r2.1.Probe.Factor, r2.1.Probe.Wait, r2.1.Probe.Cells⟩ : SProbe), r2.1.Film, (⟨r2.1.Grant.Torque, r2.1.Grant.Source⟩ : SGrant)⟩ : SControls)) fun v => some v) else (some false)) fun b2 => Option.bind (bif b2 then (Option.bind (control_Good (⟨([1] : List Int), 0⟩ : SEngine) (⟨(⟨0, 0, false⟩ : SPedal), (⟨0⟩ : SIntegral), ([] : List SKnock), (⟨false, false, 0, 0, ([] : List SCell)⟩ : SProbe), 0, (⟨0, 0⟩ : SGrant)⟩ : SControls)) fun v2 => some (!v2)) else (some false)) fun b3 => some (b3 && (r2.1.Grant.Source == (-1)))
/-- slices.IndexFunc[[]magneto/api.Map,magneto/api.Map] -/
noncomputable def slices_IndexFunc_sMap_b1 (s : List SMap) (f2 : SMap → Option Bool) (i : Int) (_ : Unit) : Option (Fl Unit Int) :=
  Option.bind (getI s i) fun x => Option.bind (f2 x) fun v => bif v then (some (.ret i)) else (some (.next ()))
noncomputable def slices_IndexFunc_sMap (s : List SMap) (f2 : SMap → Option Bool) : Option Int :=
  Option.bind (rangeN (s.length : Int) (slices_IndexFunc_sMap_b1 s f2) ()) fun (t : Unit ⊕ Int) => match t with | .inl _ => (some (-1)) | .inr r2 => some r2
/-- slices.ContainsFunc[[]magneto/api.Map,magneto/api.Map] -/
noncomputable def slices_ContainsFunc_sMap (s : List SMap) (f2 : SMap → Option Bool) : Option Bool :=
  Option.bind (slices_IndexFunc_sMap s f2) fun v => some (decide (v ≥ 0))
/-- slices.IndexFunc[[][]int,[]int] -/
noncomputable def slices_IndexFunc_ssint_b1 (s : List (List Int)) (f2 : (List Int) → Option Bool) (i : Int) (_ : Unit) : Option (Fl Unit Int) :=
  Option.bind (getI s i) fun x => Option.bind (f2 x) fun v => bif v then (some (.ret i)) else (some (.next ()))
noncomputable def slices_IndexFunc_ssint (s : List (List Int)) (f2 : (List Int) → Option Bool) : Option Int :=
  Option.bind (rangeN (s.length : Int) (slices_IndexFunc_ssint_b1 s f2) ()) fun (t : Unit ⊕ Int) => match t with | .inl _ => (some (-1)) | .inr r2 => some r2
/-- slices.ContainsFunc[[][]int,[]int] -/
noncomputable def slices_ContainsFunc_ssint (s : List (List Int)) (f2 : (List Int) → Option Bool) : Option Bool :=
  Option.bind (slices_IndexFunc_ssint s f2) fun v => some (decide (v ≥ 0))
/-- magneto/magnetolaw38.few$1$1 -/
noncomputable def magnetolaw38_few_1_1 (l : List Int) : Option Bool :=
  some (decide ((l.length : Int) > 40))
/-- magneto/magnetolaw38.few$1 -/
noncomputable def magnetolaw38_few_1 (m2 : SMap) : Option Bool :=
  Option.bind (bif (((decide ((m2.X.length : Int) > 40)) || (decide ((m2.Y.length : Int) > 40))) || (decide ((m2.Z.length : Int) > 40))) then (some true) else (Option.bind (slices_ContainsFunc_ssint m2.Z magnetolaw38_few_1_1) fun v => some v)) fun b2 => some b2
/-- slices.IndexFunc[[]magneto/api.Curve,magneto/api.Curve] -/
noncomputable def slices_IndexFunc_sCurve_b1 (s : List SCurve) (f2 : SCurve → Option Bool) (i : Int) (_ : Unit) : Option (Fl Unit Int) :=
  Option.bind (getI s i) fun x => Option.bind (f2 x) fun v => bif v then (some (.ret i)) else (some (.next ()))
noncomputable def slices_IndexFunc_sCurve (s : List SCurve) (f2 : SCurve → Option Bool) : Option Int :=
  Option.bind (rangeN (s.length : Int) (slices_IndexFunc_sCurve_b1 s f2) ()) fun (t : Unit ⊕ Int) => match t with | .inl _ => (some (-1)) | .inr r2 => some r2
/-- slices.ContainsFunc[[]magneto/api.Curve,magneto/api.Curve] -/
noncomputable def slices_ContainsFunc_sCurve (s : List SCurve) (f2 : SCurve → Option Bool) : Option Bool :=
  Option.bind (slices_IndexFunc_sCurve s f2) fun v => some (decide (v ≥ 0))
/-- magneto/magnetolaw38.few$2 -/
noncomputable def magnetolaw38_few_2 (c : SCurve) : Option Bool :=
  some ((decide ((c.X.length : Int) > 40)) || (decide ((c.Y.length : Int) > 40)))
/-- magneto/magnetolaw38.few -/
noncomputable def magnetolaw38_few (t2 : STables) : Option Bool :=
  Option.bind (slices_ContainsFunc_sMap ([t2.Air, t2.Spark, t2.Torque, t2.Wish] : List SMap) magnetolaw38_few_1) fun v => Option.bind (bif (!v) then (Option.bind (slices_ContainsFunc_sCurve ([t2.AirTemp, t2.Dwell, t2.Dead, t2.Efficiency] : List SCurve) magnetolaw38_few_2) fun v2 => some (!v2)) else (some false)) fun b2 => some b2
/-- magneto/magnetolaw38.small -/
noncomputable def magnetolaw38_small (e2 : SEngine) (c : SControls) (v_in : SInputs) : Option Bool :=
  some (((((decide ((e2.Order.length : Int) ≤ 40)) && (decide ((c.Knock.length : Int) ≤ 40))) && (decide ((c.Probe.Cells.length : Int) ≤ 40))) && (decide ((v_in.Intensity.length : Int) ≤ 40))) && (decide ((v_in.Requests.length : Int) ≤ 40)))
/-- magneto/magnetoref23.Angle -/
noncomputable def magnetoref23_Angle (a : Int) : Option Bool :=
  some ((decide (a ≥ 0)) && (decide (a < 46080)))
/-- magneto/magnetoref23.Valid -/
noncomputable def magnetoref23_Valid_b2 (e2 : SEngine) (i : Int) (x : Int) (k : Int) : Option (Int ⊕ (Int ⊕ Bool)) :=
  bif (decide (k < i)) then (Option.bind (getI e2.Order k) fun x2 => bif (x2 == x) then (some (.inr (.inr false))) else (some (.inl (w64 (k + 1))))) else (some (.inr (.inl k)))
noncomputable def magnetoref23_Valid_b1 (e2 : SEngine) (i : Int) : Option (Int ⊕ (Int ⊕ Bool)) :=
  bif (decide (i < (e2.Order.length : Int))) then (Option.bind (getI e2.Order i) fun x => Option.bind (bif (decide (x < 1)) then (some true) else (some (decide (x > (e2.Order.length : Int))))) fun b3 => bif b3 then (some (.inr (.inr false))) else (Option.bind (loopM (magnetoref23_Valid_b2 e2 i x) 0) fun (t : Int ⊕ Bool) => match t with | .inl _ => (some (.inl (w64 (i + 1)))) | .inr r2 => some (.inr (.inr r2)))) else (some (.inr (.inl i)))
noncomputable def magnetoref23_Valid (e2 : SEngine) : Option Bool :=
  Option.bind (bif ((decide ((e2.Order.length : Int) < 1)) || (decide ((e2.Order.length : Int) > 8))) then (some true) else (Option.bind (magnetoref23_Angle e2.First) fun v => some (!v))) fun b2 => bif b2 then (some false) else (Option.bind (loopM (magnetoref23_Valid_b1 e2) 0) fun (t : Int ⊕ Bool) => match t with | .inl _ => (some true) | .inr r3 => some r3)
/-- magneto/magnetoref34.New -/
noncomputable def magnetoref34_New : Option SProbe :=
  Option.bind (makeM 9 (⟨0, 0⟩ : SCell)) fun l => some (⟨false, false, 1000, 0, l⟩ : SProbe)
/-- magneto/magnetoref38.New -/
noncomputable def magnetoref38_New_b1 (e2 : SEngine) (s : Int × List SKnock) : Option ((Int × List SKnock) ⊕ ((Int × List SKnock) ⊕ Empty)) :=
  bif (decide (s.1 < (e2.Order.length : Int))) then (Option.bind (appendM s.2 ([(⟨0, 100, 0⟩ : SKnock)] : List SKnock)) fun l => some (.inl (w64 (s.1 + 1), l))) else (some (.inr (.inl (s.1, s.2))))
noncomputable def magnetoref38_New (e2 : SEngine) : Option (SControls × Int) :=
  Option.bind (magnetoref23_Valid e2) fun v => bif (!v) then (some ((⟨(⟨0, 0, false⟩ : SPedal), (⟨0⟩ : SIntegral), ([] : List SKnock), (⟨false, false, 0, 0, ([] : List SCell)⟩ : SProbe), 0, (⟨0, 0⟩ : SGrant)⟩ : SControls), 1)) else (Option.bind (magnetoref34_New) fun v2 => Option.bind (loopM (magnetoref38_New_b1 e2) (0, ([] : List SKnock))) fun (t : (Int × List SKnock) ⊕ Empty) => match t with | .inl s2 => (some ((⟨(⟨0, 0, false⟩ : SPedal), (⟨0⟩ : SIntegral), s2.2, v2, 0, (⟨0, (-1)⟩ : SGrant)⟩ : SControls), 0)) | .inr r => r.elim)
/-- slices.IndexFunc[[]int,int] -/
noncomputable def slices_IndexFunc_sint_b1 (s : List Int) (f2 : Int → Option Bool) (i : Int) (_ : Unit) : Option (Fl Unit Int) :=
  Option.bind (getI s i) fun x => Option.bind (f2 x) fun v => bif v then (some (.ret i)) else (some (.next ()))
noncomputable def slices_IndexFunc_sint (s : List Int) (f2 : Int → Option Bool) : Option Int :=
  Option.bind (rangeN (s.length : Int) (slices_IndexFunc_sint_b1 s f2) ()) fun (t : Unit ⊕ Int) => match t with | .inl _ => (some (-1)) | .inr r2 => some r2
/-- slices.ContainsFunc[[]int,int] -/
noncomputable def slices_ContainsFunc_sint (s : List Int) (f2 : Int → Option Bool) : Option Bool :=
  Option.bind (slices_IndexFunc_sint s f2) fun v => some (decide (v ≥ 0))
/-- magneto/surface.element -/
noncomputable def surface_element (n2 : Int) : Option Bool :=
  some ((decide (n2 ≥ (-1073741824))) && (decide (n2 ≤ 1073741824)))
/-- magneto/surface.axis -/
noncomputable def surface_axis_b1 (l : List Int) (i : Int) (_ : Unit) : Option (Fl Unit Bool) :=
  Option.bind (getI l i) fun x => Option.bind (surface_element x) fun v => Option.bind (bif (!v) then (some true) else (Option.bind (bif (decide (i > 0)) then (Option.bind (getI l (w64 (i - 1))) fun x2 => some (decide (x ≤ x2))) else (some false)) fun b2 => some b2)) fun b3 => bif b3 then (some (.ret false)) else (some (.next ()))
noncomputable def surface_axis (l : List Int) : Option Bool :=
  bif ((decide ((l.length : Int) < 2)) || (decide ((l.length : Int) > 32))) then (some false) else (Option.bind (rangeN (l.length : Int) (surface_axis_b1 l) ()) fun (t : Unit ⊕ Bool) => match t with | .inl _ => (some true) | .inr r2 => some r2)
/-- magneto/surface.Valid$1 -/
noncomputable def surface_Valid_1 (z : Int) : Option Bool :=
  Option.bind (surface_element z) fun v => some (!v)
/-- magneto/surface.Valid -/
noncomputable def surface_Valid_b1 (m2 : SMap) (_ : Int) (x : List Int) (_ : Unit) : Option (Fl Unit Bool) :=
  Option.bind (bif ((x.length : Int) != (m2.Y.length : Int)) then (some true) else (Option.bind (slices_ContainsFunc_sint x surface_Valid_1) fun v3 => some v3)) fun b3 => bif b3 then (some (.ret false)) else (some (.next ()))
noncomputable def surface_Valid (m2 : SMap) : Option Bool :=
  Option.bind (surface_axis m2.X) fun v => Option.bind (bif (!v) then (some true) else (Option.bind (surface_axis m2.Y) fun v2 => some (!v2))) fun b2 => bif (b2 || ((m2.Z.length : Int) != (m2.X.length : Int))) then (some false) else (Option.bind (rangeM m2.Z (surface_Valid_b1 m2) ()) fun (t : Unit ⊕ Bool) => match t with | .inl _ => (some true) | .inr r2 => some r2)
/-- magneto/curve.far -/
noncomputable def curve_far (n2 : Int) : Option Bool :=
  some ((decide (n2 < (-1073741824))) || (decide (n2 > 1073741824)))
/-- magneto/curve.axis -/
noncomputable def curve_axis_b1 (l : List Int) (i : Int) (_ : Unit) : Option (Fl Unit Bool) :=
  Option.bind (getI l i) fun x => Option.bind (getI l (w64 (i + 1))) fun x2 => bif (decide (x ≥ x2)) then (some (.ret false)) else (some (.next ()))
noncomputable def curve_axis (l : List Int) : Option Bool :=
  Option.bind (bif ((decide ((l.length : Int) < 2)) || (decide ((l.length : Int) > 32))) then (some true) else (Option.bind (slices_ContainsFunc_sint l curve_far) fun v => some v)) fun b2 => bif b2 then (some false) else (Option.bind (rangeN (w64 ((l.length : Int) - 1)) (curve_axis_b1 l) ()) fun (t : Unit ⊕ Bool) => match t with | .inl _ => (some true) | .inr r2 => some r2)
/-- magneto/curve.Valid -/
noncomputable def curve_Valid (c : SCurve) : Option Bool :=
  Option.bind (bif ((c.X.length : Int) == (c.Y.length : Int)) then (Option.bind (curve_axis c.X) fun v => some v) else (some false)) fun b2 => Option.bind (bif b2 then (Option.bind (slices_ContainsFunc_sint c.Y curve_far) fun v2 => some (!v2)) else (some false)) fun b3 => some b3
/-- cmp.isNaN[int] -/
noncomputable def cmp_isNaN_int (x : Int) : Option Bool :=
  some (x != x)
/-- cmp.Less[int] -/
noncomputable def cmp_Less_int (x : Int) (y : Int) : Option Bool :=
  Option.bind (cmp_isNaN_int x) fun v => Option.bind (bif v then (Option.bind (cmp_isNaN_int y) fun v2 => some (!v2)) else (some false)) fun b2 => some (b2 || (decide (x < y)))
/-- slices.IsSorted[[]int,int] -/
noncomputable def slices_IsSorted_sint_b1 (x : List Int) (i : Int) : Option (Int ⊕ (Int ⊕ Bool)) :=
  bif (decide (i > 0)) then (Option.bind (getI x i) fun x2 => Option.bind (getI x (w64 (i - 1))) fun x3 => Option.bind (cmp_Less_int x2 x3) fun v => bif v then (some (.inr (.inr false))) else (some (.inl (w64 (i - 1))))) else (some (.inr (.inl i)))
noncomputable def slices_IsSorted_sint (x : List Int) : Option Bool :=
  Option.bind (loopM (slices_IsSorted_sint_b1 x) (w64 ((x.length : Int) - 1))) fun (t : Int ⊕ Bool) => match t with | .inl _ => (some true) | .inr r2 => some r2
/-- magneto/air.between -/
noncomputable def air_between (n2 : Int) (low : Int) (high : Int) : Option Bool :=
  some ((decide (n2 ≥ low)) && (decide (n2 ≤ high)))
/-- magneto/air.Valid$1 -/
noncomputable def air_Valid_1 (y : Int) : Option Bool :=
  Option.bind (air_between y 100 3000) fun v => some (!v)
/-- magneto/air.Valid -/
noncomputable def air_Valid_b1 (_ : Int) (x : List Int) (_ : Unit) : Option (Fl Unit Bool) :=
  Option.bind (slices_IsSorted_sint x) fun v3 => Option.bind (bif (!v3) then (some true) else (Option.bind (getI x 0) fun x2 => Option.bind (air_between x2 0 1048576) fun v4 => some (!v4))) fun b3 => Option.bind (bif b3 then (some true) else (Option.bind (getI x (w64 ((x.length : Int) - 1))) fun x3 => Option.bind (air_between x3 0 1048576) fun v5 => some (!v5))) fun b4 => bif b4 then (some (.ret false)) else (some (.next ()))
noncomputable def air_Valid (t2 : STables) : Option Bool :=
  Option.bind (surface_Valid t2.Air) fun v => Option.bind (bif (!v) then (some true) else (Option.bind (curve_Valid t2.AirTemp) fun v2 => some (!v2))) fun b2 => bif b2 then (some false) else (Option.bind (rangeM t2.Air.Z (air_Valid_b1) ()) fun (t : Unit ⊕ Bool) => match t with | .inl _ => (Option.bind (slices_ContainsFunc_sint t2.AirTemp.Y air_Valid_1) fun v6 => some (!v6)) | .inr r2 => some r2)
/-- magneto/torque.within -/
noncomputable def torque_within (x : Int) (low : Int) (high : Int) : Option Bool :=
  some ((decide (x ≥ low)) && (decide (x ≤ high)))
/-- magneto/torque.outside$1 -/
noncomputable def torque_outside_1 (x : Int) (c : Int) (c2 : Int) : Option Bool :=
  Option.bind (torque_within x c c2) fun v => some (!v)
/-- magneto/torque.outside -/
noncomputable def torque_outside (l : List Int) (low : Int) (high : Int) : Option Bool :=
  Option.bind (slices_ContainsFunc_sint l (fun x0 => torque_outside_1 x0 low high)) fun v => some v
/-- slices.IsSortedFunc[[]int,int] -/
noncomputable def slices_IsSortedFunc_sint_b1 (x : List Int) (cmp : Int → Int → Option Int) (i : Int) : Option (Int ⊕ (Int ⊕ Bool)) :=
  bif (decide (i > 0)) then (Option.bind (getI x i) fun x2 => Option.bind (getI x (w64 (i - 1))) fun x3 => Option.bind (cmp x2 x3) fun v => bif (decide (v < 0)) then (some (.inr (.inr false))) else (some (.inl (w64 (i - 1))))) else (some (.inr (.inl i)))
noncomputable def slices_IsSortedFunc_sint (x : List Int) (cmp : Int → Int → Option Int) : Option Bool :=
  Option.bind (loopM (slices_IsSortedFunc_sint_b1 x cmp) (w64 ((x.length : Int) - 1))) fun (t : Int ⊕ Bool) => match t with | .inl _ => (some true) | .inr r2 => some r2
/-- magneto/torque.Valid$1 -/
noncomputable def torque_Valid_1 (a : Int) (b2 : Int) : Option Int :=
  some (w64 (b2 - a))
/-- magneto/torque.Valid$2 -/
noncomputable def torque_Valid_2 (row : List Int) : Option Bool :=
  Option.bind (torque_outside row 0 10000) fun v => Option.bind (bif v then (some true) else (Option.bind (slices_IsSorted_sint row) fun v2 => some (!v2))) fun b2 => some b2
/-- magneto/torque.Valid -/
noncomputable def torque_Valid (t2 : STables) : Option Bool :=
  Option.bind (surface_Valid t2.Torque) fun v => Option.bind (bif (!v) then (some true) else (Option.bind (curve_Valid t2.Efficiency) fun v2 => some (!v2))) fun b2 => Option.bind (bif b2 then (some true) else (Option.bind (torque_outside t2.Efficiency.Y 0 1000) fun v3 => some v3)) fun b3 => bif b3 then (some false) else (Option.bind (slices_IsSortedFunc_sint t2.Efficiency.Y torque_Valid_1) fun v4 => bif (!v4) then (some false) else (Option.bind (slices_ContainsFunc_ssint t2.Torque.Z torque_Valid_2) fun v5 => some (!v5)))
/-- magneto/control.all$1 -/
noncomputable def control_all_1 (x : Int) (c : Int) (c2 : Int) : Option Bool :=
  Option.bind (control_in x c c2) fun v => some (!v)
/-- magneto/control.all -/
noncomputable def control_all (l : List Int) (low : Int) (high : Int) : Option Bool :=
  Option.bind (slices_ContainsFunc_sint l (fun x0 => control_all_1 x0 low high)) fun v => some (!v)
/-- magneto/filter.ValidGain -/
noncomputable def filter_ValidGain (g : SGain) : Option Bool :=
  some (((((((decide (g.P ≥ 0)) && (decide (g.P ≤ 65536))) && (decide (g.I ≥ 0))) && (decide (g.I ≤ 65536))) && (decide (g.Low ≥ (-1073741824)))) && (decide (g.Low ≤ g.High))) && (decide (g.High ≤ 1073741824)))
/-- magneto/control.Valid -/
noncomputable def control_Valid_b1 (_ : Int) (x : List Int) (_ : Unit) : Option (Fl Unit Bool) :=
  Option.bind (control_all x (-1280) 3840) fun v7 => bif (!v7) then (some (.ret false)) else (some (.next ()))
noncomputable def control_Valid (t2 : STables) : Option Bool :=
  Option.bind (air_Valid t2) fun v => Option.bind (bif (!v) then (some true) else (Option.bind (torque_Valid t2) fun v2 => some (!v2))) fun b2 => Option.bind (bif b2 then (some true) else (Option.bind (surface_Valid t2.Spark) fun v3 => some (!v3))) fun b3 => Option.bind (bif b3 then (some true) else (Option.bind (surface_Valid t2.Wish) fun v4 => some (!v4))) fun b4 => Option.bind (bif b4 then (some true) else (Option.bind (curve_Valid t2.Dwell) fun v5 => some (!v5))) fun b5 => Option.bind (bif b5 then (some true) else (Option.bind (curve_Valid t2.Dead) fun v6 => some (!v6))) fun b6 => bif b6 then (some false) else (Option.bind (rangeM t2.Spark.Z (control_Valid_b1) ()) fun (t : Unit ⊕ Bool) => match t with | .inl _ => (Option.bind (control_all t2.Dwell.Y 500 10000) fun v8 => Option.bind (bif v8 then (Option.bind (control_all t2.Dead.Y 0 10000) fun v9 => some v9) else (some false)) fun b7 => Option.bind (bif b7 then (Option.bind (filter_ValidGain t2.Idle) fun v10 => some v10) else (some false)) fun b8 => some b8) | .inr r2 => some r2)
/-- magneto/magnetoref06.far -/
noncomputable def magnetoref06_far (n2 : Int) : Option Bool :=
  some ((decide (n2 < (-1073741824))) || (decide (n2 > 1073741824)))
/-- magneto/magnetoref06.Axis -/
noncomputable def magnetoref06_Axis_b1 (l : List Int) (i : Int) : Option (Int ⊕ (Int ⊕ Bool)) :=
  bif (decide (i < (l.length : Int))) then (Option.bind (Option.bind (getI l i) fun x => Option.bind (magnetoref06_far x) fun v => bif v then (some true) else (bif (decide (i > 0)) then (Option.bind (getI l (w64 (i - 1))) fun x2 => some (decide (x ≤ x2))) else (some false))) fun (v2 : Bool) => bif v2 then (some (.inr (.inr false))) else (some (.inl (w64 (i + 1))))) else (some (.inr (.inl i)))
noncomputable def magnetoref06_Axis (l : List Int) : Option Bool :=
  bif ((decide ((l.length : Int) < 2)) || (decide ((l.length : Int) > 32))) then (some false) else (Option.bind (loopM (magnetoref06_Axis_b1 l) 0) fun (t : Int ⊕ Bool) => match t with | .inl _ => (some true) | .inr r2 => some r2)
/-- magneto/magnetoref06.Valid -/
noncomputable def magnetoref06_Valid_b2 (m2 : SMap) (x : List Int) (j : Int) : Option (Int ⊕ (Int ⊕ Bool)) :=
  bif (decide (j < (m2.Y.length : Int))) then (Option.bind (getI x j) fun x2 => Option.bind (magnetoref06_far x2) fun v3 => bif v3 then (some (.inr (.inr false))) else (some (.inl (w64 (j + 1))))) else (some (.inr (.inl j)))
noncomputable def magnetoref06_Valid_b1 (m2 : SMap) (i : Int) : Option (Int ⊕ (Int ⊕ Bool)) :=
  bif (decide (i < (m2.Z.length : Int))) then (Option.bind (getI m2.Z i) fun x => bif ((x.length : Int) != (m2.Y.length : Int)) then (some (.inr (.inr false))) else (Option.bind (loopM (magnetoref06_Valid_b2 m2 x) 0) fun (t : Int ⊕ Bool) => match t with | .inl _ => (some (.inl (w64 (i + 1)))) | .inr r2 => some (.inr (.inr r2)))) else (some (.inr (.inl i)))
noncomputable def magnetoref06_Valid (m2 : SMap) : Option Bool :=
  Option.bind (magnetoref06_Axis m2.X) fun v => Option.bind (bif (!v) then (some true) else (Option.bind (magnetoref06_Axis m2.Y) fun v2 => some (!v2))) fun b2 => bif (b2 || ((m2.Z.length : Int) != (m2.X.length : Int))) then (some false) else (Option.bind (loopM (magnetoref06_Valid_b1 m2) 0) fun (t : Int ⊕ Bool) => match t with | .inl _ => (some true) | .inr r3 => some r3)
/-- magneto/magnetoref05.Fits -/
noncomputable def magnetoref05_Fits (x : Int) : Option Bool :=
  some ((decide (x ≥ (-1073741824))) && (decide (x ≤ 1073741824)))
/-- magneto/magnetoref05.Axis -/
noncomputable def magnetoref05_Axis_b1 (l : List Int) (i : Int) : Option (Int ⊕ (Int ⊕ Bool)) :=
  bif (decide (i < (l.length : Int))) then (Option.bind (Option.bind (getI l i) fun x => Option.bind (magnetoref05_Fits x) fun v => bif (!v) then (some true) else (bif (decide (i > 0)) then (Option.bind (getI l (w64 (i - 1))) fun x2 => some (decide (x ≤ x2))) else (some false))) fun (v2 : Bool) => bif v2 then (some (.inr (.inr false))) else (some (.inl (w64 (i + 1))))) else (some (.inr (.inl i)))
noncomputable def magnetoref05_Axis (l : List Int) : Option Bool :=
  bif ((decide ((l.length : Int) < 2)) || (decide ((l.length : Int) > 32))) then (some false) else (Option.bind (loopM (magnetoref05_Axis_b1 l) 0) fun (t : Int ⊕ Bool) => match t with | .inl _ => (some true) | .inr r2 => some r2)
/-- magneto/magnetoref05.Valid -/
noncomputable def magnetoref05_Valid_b1 (c : SCurve) (i : Int) : Option (Int ⊕ (Int ⊕ Bool)) :=
  bif (decide (i < (c.Y.length : Int))) then (Option.bind (getI c.Y i) fun x => Option.bind (magnetoref05_Fits x) fun v2 => bif (!v2) then (some (.inr (.inr false))) else (some (.inl (w64 (i + 1))))) else (some (.inr (.inl i)))
noncomputable def magnetoref05_Valid (c : SCurve) : Option Bool :=
  Option.bind (magnetoref05_Axis c.X) fun v => bif ((!v) || ((c.Y.length : Int) != (c.X.length : Int))) then (some false) else (Option.bind (loopM (magnetoref05_Valid_b1 c) 0) fun (t : Int ⊕ Bool) => match t with | .inl _ => (some true) | .inr r2 => some r2)
/-- magneto/magnetoref29.in -/
noncomputable def magnetoref29_in (x : Int) (low : Int) (high : Int) : Option Bool :=
  some ((decide (x ≥ low)) && (decide (x ≤ high)))
/-- magneto/magnetoref29.Valid -/
noncomputable def magnetoref29_Valid_b2 (t2 : STables) (i : Int) (j : Int) : Option (Int ⊕ (Int ⊕ Bool)) :=
  Option.bind (getI t2.Air.Z i) fun x => bif (decide (j < (x.length : Int))) then (Option.bind (Option.bind (getI x j) fun x2 => Option.bind (magnetoref29_in x2 0 1048576) fun v3 => bif (!v3) then (some true) else (bif (decide (j > 0)) then (Option.bind (getI x (w64 (j - 1))) fun x3 => some (decide (x2 < x3))) else (some false))) fun (v4 : Bool) => bif v4 then (some (.inr (.inr false))) else (some (.inl (w64 (j + 1))))) else (some (.inr (.inl j)))
noncomputable def magnetoref29_Valid_b1 (t2 : STables) (i : Int) : Option (Int ⊕ (Int ⊕ Bool)) :=
  bif (decide (i < (t2.Air.Z.length : Int))) then (Option.bind (loopM (magnetoref29_Valid_b2 t2 i) 0) fun (t : Int ⊕ Bool) => match t with | .inl _ => (some (.inl (w64 (i + 1)))) | .inr r2 => some (.inr (.inr r2))) else (some (.inr (.inl i)))
noncomputable def magnetoref29_Valid_b3 (t2 : STables) (i3 : Int) : Option (Int ⊕ (Int ⊕ Bool)) :=
  bif (decide (i3 < (t2.AirTemp.Y.length : Int))) then (Option.bind (getI t2.AirTemp.Y i3) fun x4 => Option.bind (magnetoref29_in x4 100 3000) fun v5 => bif (!v5) then (some (.inr (.inr false))) else (some (.inl (w64 (i3 + 1))))) else (some (.inr (.inl i3)))
noncomputable def magnetoref29_Valid (t2 : STables) : Option Bool :=
  Option.bind (magnetoref06_Valid t2.Air) fun v => Option.bind (bif (!v) then (some true) else (Option.bind (magnetoref05_Valid t2.AirTemp) fun v2 => some (!v2))) fun b2 => bif b2 then (some false) else (Option.bind (loopM (magnetoref29_Valid_b1 t2) 0) fun (t : Int ⊕ Bool) => match t with | .inl _ => (Option.bind (loopM (magnetoref29_Valid_b3 t2) 0) fun (t : Int ⊕ Bool) => match t with | .inl _ => (some true) | .inr r3 => some r3) | .inr r4 => some r4)
/-- magneto/magnetoref38.between -/
noncomputable def magnetoref38_between (n2 : Int) (low : Int) (high : Int) : Option Bool :=
  some ((decide (n2 ≥ low)) && (decide (n2 ≤ high)))
/-- magneto/magnetoref38.spark -/
noncomputable def magnetoref38_spark_b2 (t2 : STables) (i : Int) (j : Int) : Option (Int ⊕ (Int ⊕ Bool)) :=
  Option.bind (getI t2.Spark.Z i) fun x => bif (decide (j < (x.length : Int))) then (Option.bind (getI x j) fun x2 => Option.bind (magnetoref38_between x2 (-1280) 3840) fun v3 => bif (!v3) then (some (.inr (.inr false))) else (some (.inl (w64 (j + 1))))) else (some (.inr (.inl j)))
noncomputable def magnetoref38_spark_b1 (t2 : STables) (i : Int) : Option (Int ⊕ (Int ⊕ Bool)) :=
  bif (decide (i < (t2.Spark.Z.length : Int))) then (Option.bind (loopM (magnetoref38_spark_b2 t2 i) 0) fun (t : Int ⊕ Bool) => match t with | .inl _ => (some (.inl (w64 (i + 1)))) | .inr r2 => some (.inr (.inr r2))) else (some (.inr (.inl i)))
noncomputable def magnetoref38_spark_b3 (t2 : STables) (i3 : Int) : Option (Int ⊕ (Int ⊕ Bool)) :=
  bif (decide (i3 < (t2.Dwell.Y.length : Int))) then (Option.bind (getI t2.Dwell.Y i3) fun x3 => Option.bind (magnetoref38_between x3 500 10000) fun v4 => bif (!v4) then (some (.inr (.inr false))) else (some (.inl (w64 (i3 + 1))))) else (some (.inr (.inl i3)))
noncomputable def magnetoref38_spark (t2 : STables) : Option Bool :=
  Option.bind (magnetoref06_Valid t2.Spark) fun v => Option.bind (bif (!v) then (some true) else (Option.bind (magnetoref05_Valid t2.Dwell) fun v2 => some (!v2))) fun b2 => bif b2 then (some false) else (Option.bind (loopM (magnetoref38_spark_b1 t2) 0) fun (t : Int ⊕ Bool) => match t with | .inl _ => (Option.bind (loopM (magnetoref38_spark_b3 t2) 0) fun (t : Int ⊕ Bool) => match t with | .inl _ => (some true) | .inr r3 => some r3) | .inr r4 => some r4)
/-- magneto/magnetoref31.Falls -/
noncomputable def magnetoref31_Falls_b1 (l : List Int) (i : Int) : Option (Int ⊕ (Int ⊕ Bool)) :=
  bif (decide (i < (l.length : Int))) then (Option.bind (getI l i) fun x => Option.bind (getI l (w64 (i - 1))) fun x2 => bif (decide (x > x2)) then (some (.inr (.inr false))) else (some (.inl (w64 (i + 1))))) else (some (.inr (.inl i)))
noncomputable def magnetoref31_Falls (l : List Int) : Option Bool :=
  Option.bind (loopM (magnetoref31_Falls_b1 l) 1) fun (t : Int ⊕ Bool) => match t with | .inl _ => (some true) | .inr r2 => some r2
/-- magneto/magnetoref31.In -/
noncomputable def magnetoref31_In (x : Int) (low : Int) (high : Int) : Option Bool :=
  some ((decide (x ≥ low)) && (decide (x ≤ high)))
/-- magneto/magnetoref31.all -/
noncomputable def magnetoref31_all_b1 (l : List Int) (low : Int) (high : Int) (i : Int) : Option (Int ⊕ (Int ⊕ Bool)) :=
  bif (decide (i < (l.length : Int))) then (Option.bind (getI l i) fun x => Option.bind (magnetoref31_In x low high) fun v => bif (!v) then (some (.inr (.inr false))) else (some (.inl (w64 (i + 1))))) else (some (.inr (.inl i)))
noncomputable def magnetoref31_all (l : List Int) (low : Int) (high : Int) : Option Bool :=
  Option.bind (loopM (magnetoref31_all_b1 l low high) 0) fun (t : Int ⊕ Bool) => match t with | .inl _ => (some true) | .inr r2 => some r2
/-- magneto/magnetoref31.Curve -/
noncomputable def magnetoref31_Curve (c : SCurve) : Option Bool :=
  Option.bind (magnetoref05_Valid c) fun v => Option.bind (bif v then (Option.bind (magnetoref31_Falls c.Y) fun v2 => some v2) else (some false)) fun b2 => Option.bind (bif b2 then (Option.bind (magnetoref31_all c.Y 0 1000) fun v3 => some v3) else (some false)) fun b3 => some b3
/-- magneto/magnetoref35.Valid -/
noncomputable def magnetoref35_Valid_b2 (t2 : STables) (i : Int) (j : Int) : Option (Int ⊕ (Int ⊕ Bool)) :=
  bif (decide (j < (t2.Torque.Y.length : Int))) then (Option.bind (getI t2.Torque.Z i) fun x => Option.bind (getI x j) fun x2 => Option.bind (bif ((decide (x2 < 0)) || (decide (x2 > 10000))) then (some true) else (Option.bind (bif (decide (j > 0)) then (Option.bind (getI x (w64 (j - 1))) fun x3 => some (decide (x2 < x3))) else (some false)) fun b3 => some b3)) fun b4 => bif b4 then (some (.inr (.inr false))) else (some (.inl (w64 (j + 1))))) else (some (.inr (.inl j)))
noncomputable def magnetoref35_Valid_b1 (t2 : STables) (i : Int) : Option (Int ⊕ (Int ⊕ Bool)) :=
  bif (decide (i < (t2.Torque.Z.length : Int))) then (Option.bind (loopM (magnetoref35_Valid_b2 t2 i) 0) fun (t : Int ⊕ Bool) => match t with | .inl _ => (some (.inl (w64 (i + 1)))) | .inr r2 => some (.inr (.inr r2))) else (some (.inr (.inl i)))
noncomputable def magnetoref35_Valid (t2 : STables) : Option Bool :=
  Option.bind (magnetoref06_Valid t2.Torque) fun v => Option.bind (bif (!v) then (some true) else (Option.bind (magnetoref31_Curve t2.Efficiency) fun v2 => some (!v2))) fun b2 => bif b2 then (some false) else (Option.bind (loopM (magnetoref35_Valid_b1 t2) 0) fun (t : Int ⊕ Bool) => match t with | .inl _ => (some true) | .inr r3 => some r3)
/-- magneto/magnetoref30.Dead -/
noncomputable def magnetoref30_Dead_b1 (t2 : STables) (i : Int) : Option (Int ⊕ (Int ⊕ Bool)) :=
  bif (decide (i < (t2.Dead.Y.length : Int))) then (Option.bind (getI t2.Dead.Y i) fun x => Option.bind (bif (decide (x < 0)) then (some true) else (some (decide (x > 10000)))) fun b2 => bif b2 then (some (.inr (.inr false))) else (some (.inl (w64 (i + 1))))) else (some (.inr (.inl i)))
noncomputable def magnetoref30_Dead (t2 : STables) : Option Bool :=
  Option.bind (magnetoref05_Valid t2.Dead) fun v => bif (!v) then (some false) else (Option.bind (loopM (magnetoref30_Dead_b1 t2) 0) fun (t : Int ⊕ Bool) => match t with | .inl _ => (some true) | .inr r2 => some r2)
/-- magneto/magnetoref07.Gain -/
noncomputable def magnetoref07_Gain (g : SGain) : Option Bool :=
  some (((((((decide (g.P ≥ 0)) && (decide (g.P ≤ 65536))) && (decide (g.I ≥ 0))) && (decide (g.I ≤ 65536))) && (decide (g.Low ≥ (-1073741824)))) && (decide (g.Low ≤ g.High))) && (decide (g.High ≤ 1073741824)))
/-- magneto/magnetoref38.Valid -/
noncomputable def magnetoref38_Valid (t2 : STables) : Option Bool :=
  Option.bind (magnetoref29_Valid t2) fun v => Option.bind (bif v then (Option.bind (magnetoref38_spark t2) fun v2 => some v2) else (some false)) fun b2 => Option.bind (bif b2 then (Option.bind (magnetoref35_Valid t2) fun v3 => some v3) else (some false)) fun b3 => Option.bind (bif b3 then (Option.bind (magnetoref30_Dead t2) fun v4 => some v4) else (some false)) fun b4 => Option.bind (bif b4 then (Option.bind (magnetoref06_Valid t2.Wish) fun v5 => some v5) else (some false)) fun b5 => Option.bind (bif b5 then (Option.bind (magnetoref07_Gain t2.Idle) fun v6 => some v6) else (some false)) fun b6 => some b6
/-- magneto/magnetoref34.Same -/
noncomputable def magnetoref34_Same_b1 (a : SProbe) (b2 : SProbe) (i : Int) : Option (Int ⊕ (Int ⊕ Bool)) :=
  bif (decide (i < (a.Cells.length : Int))) then (Option.bind (getI a.Cells i) fun x => Option.bind (getI b2.Cells i) fun x2 => bif (!((x.Value == x2.Value) && ((x.Count == x2.Count) && true))) then (some (.inr (.inr false))) else (some (.inl (w64 (i + 1))))) else (some (.inr (.inl i)))
noncomputable def magnetoref34_Same (a : SProbe) (b2 : SProbe) : Option Bool :=
  bif (((((!(a.Active == b2.Active)) || (!(a.Rich == b2.Rich))) || (a.Factor != b2.Factor)) || (a.Wait != b2.Wait)) || ((a.Cells.length : Int) != (b2.Cells.length : Int))) then (some false) else (Option.bind (loopM (magnetoref34_Same_b1 a b2) 0) fun (t : Int ⊕ Bool) => match t with | .inl _ => (some true) | .inr r2 => some r2)
/-- magneto/magnetoref38.Same -/
noncomputable def magnetoref38_Same_b1 (a : SControls) (b2 : SControls) (i : Int) : Option (Int ⊕ (Int ⊕ Bool)) :=
  bif (decide (i < (a.Knock.length : Int))) then (Option.bind (getI a.Knock i) fun x => Option.bind (getI b2.Knock i) fun x2 => bif (!((x.Retard == x2.Retard) && ((x.Noise == x2.Noise) && ((x.Quiet == x2.Quiet) && true)))) then (some (.inr (.inr false))) else (some (.inl (w64 (i + 1))))) else (some (.inr (.inl i)))
noncomputable def magnetoref38_Same (a : SControls) (b2 : SControls) : Option Bool :=
  Option.bind (bif (!((a.Pedal.Value == b2.Pedal.Value) && ((a.Pedal.Differ == b2.Pedal.Differ) && ((a.Pedal.Fault == b2.Pedal.Fault) && true)))) then (some true) else (some (!((a.Idle.Sum == b2.Idle.Sum) && true)))) fun b3 => Option.bind (bif b3 then (some true) else (Option.bind (magnetoref34_Same a.Probe b2.Probe) fun v => some (!v))) fun b4 => Option.bind (bif (b4 || (a.Film != b2.Film)) then (some true) else (some (!((a.Grant.Torque == b2.Grant.Torque) && ((a.Grant.Source == b2.Grant.Source) && true))))) fun b5 => bif (b5 || ((a.Knock.length : Int) != (b2.Knock.length : Int))) then (some false) else (Option.bind (loopM (magnetoref38_Same_b1 a b2) 0) fun (t : Int ⊕ Bool) => match t with | .inl _ => (some true) | .inr r2 => some r2)
/-- magneto/magnetoref37.Valid -/
noncomputable def magnetoref37_Valid (p2 : SPedal) : Option Bool :=
  bif (((((decide (p2.Value < 0)) || (decide (p2.Value > 1000))) || (decide (p2.Differ < 0))) || (decide (p2.Differ > 3))) || (!(p2.Fault == (p2.Differ == 3)))) then (some false) else (some ((!p2.Fault) || (decide (p2.Value ≤ 200))))
/-- magneto/magnetoref34.between -/
noncomputable def magnetoref34_between (n2 : Int) (low : Int) (high : Int) : Option Bool :=
  some ((decide (n2 ≥ low)) && (decide (n2 ≤ high)))
/-- magneto/magnetoref34.Valid -/
noncomputable def magnetoref34_Valid_b1 (p2 : SProbe) (i : Int) : Option (Int ⊕ (Int ⊕ Bool)) :=
  bif (decide (i < 9)) then (Option.bind (getI p2.Cells i) fun x => Option.bind (magnetoref34_between x.Value (-100) 100) fun v3 => Option.bind (bif (!v3) then (some true) else (Option.bind (magnetoref34_between x.Count 0 1000) fun v4 => some (!v4))) fun b3 => bif b3 then (some (.inr (.inr false))) else (some (.inl (w64 (i + 1))))) else (some (.inr (.inl i)))
noncomputable def magnetoref34_Valid (p2 : SProbe) : Option Bool :=
  Option.bind (magnetoref34_between p2.Factor 750 1250) fun v => Option.bind (bif (!v) then (some true) else (Option.bind (magnetoref34_between p2.Wait 0 1000) fun v2 => some (!v2))) fun b2 => bif (b2 || ((p2.Cells.length : Int) != 9)) then (some false) else (Option.bind (loopM (magnetoref34_Valid_b1 p2) 0) fun (t : Int ⊕ Bool) => match t with | .inl _ => (Option.bind (bif p2.Active then (some true) else (some (((p2.Factor == 1000) && (p2.Wait == 0)) && (!p2.Rich)))) fun b4 => some b4) | .inr r2 => some r2)
/-- magneto/magnetoref07.Integral -/
noncomputable def magnetoref07_Integral (s : SIntegral) : Option Bool :=
  some ((decide (s.Sum ≥ (-4398046511104))) && (decide (s.Sum ≤ 4398046511104)))
/-- magneto/magnetoref32.Intensity -/
noncomputable def magnetoref32_Intensity (n2 : Int) : Option Bool :=
  some ((decide (n2 ≥ 0)) && (decide (n2 ≤ 4095)))
/-- magneto/magnetoref32.Valid -/
noncomputable def magnetoref32_Valid (k : SKnock) : Option Bool :=
  Option.bind (bif ((decide (k.Retard ≥ 0)) && (decide (k.Retard ≤ 960))) then (Option.bind (magnetoref32_Intensity k.Noise) fun v => some v) else (some false)) fun b2 => some ((b2 && (decide (k.Quiet ≥ 0))) && (decide (k.Quiet ≤ 99)))
/-- magneto/magnetoref36.Torque -/
noncomputable def magnetoref36_Torque (t2 : Int) : Option Bool :=
  some ((decide (t2 ≥ (-5000))) && (decide (t2 ≤ 10000)))
/-- magneto/magnetoref38.Good -/
noncomputable def magnetoref38_Good_b1 (c : SControls) (i : Int) : Option (Int ⊕ (Int ⊕ Bool)) :=
  bif (decide (i < (c.Knock.length : Int))) then (Option.bind (getI c.Knock i) fun x => Option.bind (magnetoref32_Valid x) fun v6 => bif (!v6) then (some (.inr (.inr false))) else (some (.inl (w64 (i + 1))))) else (some (.inr (.inl i)))
noncomputable def magnetoref38_Good (e2 : SEngine) (c : SControls) : Option Bool :=
  Option.bind (magnetoref23_Valid e2) fun v => Option.bind (bif (!v) then (some true) else (Option.bind (magnetoref37_Valid c.Pedal) fun v2 => some (!v2))) fun b2 => Option.bind (bif b2 then (some true) else (Option.bind (magnetoref34_Valid c.Probe) fun v3 => some (!v3))) fun b3 => Option.bind (bif b3 then (some true) else (Option.bind (magnetoref07_Integral c.Idle) fun v4 => some (!v4))) fun b4 => Option.bind (bif (b4 || ((c.Knock.length : Int) != (e2.Order.length : Int))) then (some true) else (Option.bind (magnetoref38_between c.Film 0 1073741824) fun v5 => some (!v5))) fun b5 => bif b5 then (some false) else (Option.bind (loopM (magnetoref38_Good_b1 c) 0) fun (t : Int ⊕ Bool) => match t with | .inl _ => (Option.bind (magnetoref36_Torque c.Grant.Torque) fun v7 => Option.bind (bif v7 then (Option.bind (magnetoref38_between c.Grant.Source (-1) 15) fun v8 => some v8) else (some false)) fun b6 => some b6) | .inr r2 => some r2)
/-- slices.IndexFunc[[]magneto/api.Request,magneto/api.Request] -/
noncomputable def slices_IndexFunc_sRequest_b1 (s : List SRequest) (f2 : SRequest → Option Bool) (i : Int) (_ : Unit) : Option (Fl Unit Int) :=
  Option.bind (getI s i) fun x => Option.bind (f2 x) fun v => bif v then (some (.ret i)) else (some (.next ()))
noncomputable def slices_IndexFunc_sRequest (s : List SRequest) (f2 : SRequest → Option Bool) : Option Int :=
  Option.bind (rangeN (s.length : Int) (slices_IndexFunc_sRequest_b1 s f2) ()) fun (t : Unit ⊕ Int) => match t with | .inl _ => (some (-1)) | .inr r2 => some r2
/-- slices.ContainsFunc[[]magneto/api.Request,magneto/api.Request] -/
noncomputable def slices_ContainsFunc_sRequest (s : List SRequest) (f2 : SRequest → Option Bool) : Option Bool :=
  Option.bind (slices_IndexFunc_sRequest s f2) fun v => some (decide (v ≥ 0))
/-- magneto/arbiter.torque -/
noncomputable def arbiter_torque (t2 : Int) : Option Bool :=
  some ((decide (t2 ≥ (-5000))) && (decide (t2 ≤ 10000)))
/-- magneto/arbiter.Valid -/
noncomputable def arbiter_Valid (r2 : SRequest) : Option Bool :=
  Option.bind (bif ((((decide (r2.Source < 0)) || (decide (r2.Source > 15))) || (decide (r2.Priority < 0))) || (decide (r2.Priority > 15))) then (some true) else (Option.bind (arbiter_torque r2.Torque) fun v => some (!v))) fun b2 => bif b2 then (some false) else (Option.bind (bif (r2.Kind == 1) then (some true) else (Option.bind (bif (decide (r2.Source ≤ 1)) then (some ((r2.Kind == 2) || (r2.Kind == 3))) else (some false)) fun b3 => some b3)) fun b4 => some b4)
/-- magneto/control.Check$1 -/
noncomputable def control_Check_1 (r2 : SRequest) : Option Bool :=
  Option.bind (arbiter_Valid r2) fun v => some (!v)
/-- magneto/control.Check -/
noncomputable def control_Check (i : SInputs) (cylinders : Int) : Option Bool :=
  Option.bind (control_in cylinders 1 8) fun v => bif (((!v) || ((i.Intensity.length : Int) != cylinders)) || (decide ((i.Requests.length : Int) > 30))) then (some false) else (Option.bind (control_in i.Speed 0 12000) fun v2 => Option.bind (bif v2 then (Option.bind (control_in i.Pressure 50 3000) fun v3 => some v3) else (some false)) fun b2 => Option.bind (bif b2 then (Option.bind (control_in i.AirTemp (-40) 150) fun v4 => some v4) else (some false)) fun b3 => Option.bind (bif b3 then (Option.bind (control_in i.Coolant (-40) 150) fun v5 => some v5) else (some false)) fun b4 => Option.bind (bif b4 then (Option.bind (control_in i.Voltage 0 20000) fun v6 => some v6) else (some false)) fun b5 => Option.bind (bif b5 then (Option.bind (control_in i.Lambda 0 20000) fun v7 => some v7) else (some false)) fun b6 => Option.bind (bif b6 then (Option.bind (control_all i.Intensity 0 4095) fun v8 => some v8) else (some false)) fun b7 => Option.bind (bif b7 then (Option.bind (slices_ContainsFunc_sRequest i.Requests control_Check_1) fun v9 => some (!v9)) else (some false)) fun b8 => some b8)
/-- magneto/magnetoref36.Valid -/
noncomputable def magnetoref36_Valid (r2 : SRequest) : Option Bool :=
  Option.bind (bif ((((decide (r2.Source < 0)) || (decide (r2.Source > 15))) || (decide (r2.Priority < 0))) || (decide (r2.Priority > 15))) then (some true) else (Option.bind (magnetoref36_Torque r2.Torque) fun v => some (!v))) fun b2 => bif ((b2 || (decide (r2.Kind < 1))) || (decide (r2.Kind > 3))) then (some false) else (some ((decide (r2.Source ≤ 1)) || (r2.Kind == 1)))
/-- magneto/magnetoref38.Check -/
noncomputable def magnetoref38_Check_b1 (v_in : SInputs) (n2 : Int) (i : Int) : Option (Int ⊕ (Int ⊕ Bool)) :=
  bif (decide (i < n2)) then (Option.bind (getI v_in.Intensity i) fun x => Option.bind (magnetoref32_Intensity x) fun v8 => bif (!v8) then (some (.inr (.inr false))) else (some (.inl (w64 (i + 1))))) else (some (.inr (.inl i)))
noncomputable def magnetoref38_Check_b2 (v_in : SInputs) (i3 : Int) : Option (Int ⊕ (Int ⊕ Bool)) :=
  bif (decide (i3 < (v_in.Requests.length : Int))) then (Option.bind (getI v_in.Requests i3) fun x2 => Option.bind (magnetoref36_Valid x2) fun v9 => bif (!v9) then (some (.inr (.inr false))) else (some (.inl (w64 (i3 + 1))))) else (some (.inr (.inl i3)))
noncomputable def magnetoref38_Check (v_in : SInputs) (n2 : Int) : Option Bool :=
  Option.bind (magnetoref38_between n2 1 8) fun v => Option.bind (bif (!v) then (some true) else (Option.bind (magnetoref38_between v_in.Speed 0 12000) fun v2 => some (!v2))) fun b2 => Option.bind (bif b2 then (some true) else (Option.bind (magnetoref38_between v_in.Pressure 50 3000) fun v3 => some (!v3))) fun b3 => Option.bind (bif b3 then (some true) else (Option.bind (magnetoref38_between v_in.AirTemp (-40) 150) fun v4 => some (!v4))) fun b4 => Option.bind (bif b4 then (some true) else (Option.bind (magnetoref38_between v_in.Coolant (-40) 150) fun v5 => some (!v5))) fun b5 => Option.bind (bif b5 then (some true) else (Option.bind (magnetoref38_between v_in.Voltage 0 20000) fun v6 => some (!v6))) fun b6 => Option.bind (bif b6 then (some true) else (Option.bind (magnetoref38_between v_in.Lambda 0 20000) fun v7 => some (!v7))) fun b7 => bif b7 then (some false) else (bif (((v_in.Intensity.length : Int) != n2) || (decide ((v_in.Requests.length : Int) > 30))) then (some false) else (Option.bind (loopM (magnetoref38_Check_b1 v_in n2) 0) fun (t : Int ⊕ Bool) => match t with | .inl _ => (Option.bind (loopM (magnetoref38_Check_b2 v_in) 0) fun (t : Int ⊕ Bool) => match t with | .inl _ => (some true) | .inr r2 => some r2) | .inr r3 => some r3))
/-- magneto/magnetolaw38.ControlStates -/
noncomputable def magnetolaw38_ControlStates (t2 : STables) (e2 : SEngine) (c : SControls) (v_in : SInputs) (cylinders : Int) : Option Bool :=
  Option.bind (magnetolaw38_awake) fun v => bif (!v) then (some false) else (Option.bind (magnetolaw38_few t2) fun v2 => Option.bind (bif (!v2) then (some true) else (Option.bind (magnetolaw38_small e2 c v_in) fun v3 => some (!v3))) fun b2 => bif b2 then (some true) else (Option.bind (control_New e2) fun r2 => Option.bind (magnetoref38_New e2) fun r3 => Option.bind (control_Valid t2) fun v4 => Option.bind (magnetoref38_Valid t2) fun v5 => bif (v4 == v5) then (bif (r2.2 == r3.2) then (Option.bind (magnetoref38_Same (⟨(⟨r2.1.Pedal.Value, r2.1.Pedal.Differ, r2.1.Pedal.Fault⟩ : SPedal), (⟨r2.1.Idle.Sum⟩ : SIntegral), r2.1.Knock, (⟨r2.1.Probe.Active, r2.1.Probe.Rich, r2.1.Probe.Factor, r2.1.Probe.Wait, r2.1.Probe.Cells⟩ : SProbe), r2.1.Film, (⟨r2.1.Grant.Torque, r2.1.Grant.Source⟩ : SGrant)⟩ : SControls) (⟨(⟨r3.1.Pedal.Value, r3.1.Pedal.Differ, r3.1.Pedal.Fault⟩ : SPedal), (⟨r3.1.Idle.Sum⟩ : SIntegral), r3.1.Knock, (⟨r3.1.Probe.Active, r3.1.Probe.Rich, r3.1.Probe.Factor, r3.1.Probe.Wait, r3.1.Probe.Cells⟩ : SProbe), r3.1.Film, (⟨r3.1.Grant.Torque, r3.1.Grant.Source⟩ : SGrant)⟩ : SControls)) fun v6 => bif v6 then (Option.bind (control_Good e2 c) fun v7 => Option.bind (magnetoref38_Good e2 c) fun v8 => bif (v7 == v8) then (Option.bind (control_Check v_in cylinders) fun v9 => Option.bind (magnetoref38_Check v_in cylinders) fun v10 => some (v9 == v10)) else (some false)) else (some false)) else (some false)) else (some false)))
end Go.Pv
namespace Go.Pv
open Go.RowKit Go.Sort Go.Shelf Go.Proofs

section
variable {α : Type} [Inhabited α] (enc : α → List Value) (k : Nat) (w : World) (β m : Nat) (d : Array α) (os : Array Obj)

theorem sw_size : (sortWorldK enc k w β 0 m d os).heap.size = w.heap.size + os.size := by
  simp [sortWorldK, putRowK, putRow, mapBlock, Sort.ahead, grow]

theorem sw_other (b : Nat) (hb : b < w.heap.size) (hne : b ≠ β) : (sortWorldK enc k w β 0 m d os).heap[b]? = w.heap[b]? := by
  simp only [sortWorldK, putRowK, putRow, mapBlock, Sort.ahead, grow]
  rw [Array.getElem?_append_left (by simpa using hb), Array.getElem?_modify, if_neg (Ne.symm hne)]

theorem sw_row {cs : Array Value} {elem : TypeId} (hh : w.heap[β]? = some (.cells cs elem (0, 0))) : (sortWorldK enc k w β 0 m d os).heap[β]? = some (.cells (putCells id 0 (flatK enc k d) cs) elem (0, 0)) := by
  have hb : β < w.heap.size := (Array.getElem?_eq_some_iff.1 hh).1
  simp only [sortWorldK, putRowK, putRow, mapBlock, Sort.ahead, grow]
  rw [Array.getElem?_append_left (by simpa using hb), Array.getElem?_modify, if_pos rfl, hh]
  rfl

theorem sw_keep (L : Nat → Prop) (hL : L β) : Keep L w (sortWorldK enc k w β 0 m d os) where
  os := rfl
  tape := rfl
  output := rfl
  size := by rw [sw_size]; omega
  block := fun b hb hn => sw_other enc k w β m d os b hb (fun e => hn (e ▸ hL))
  drawn := by simp [sortWorldK, putRowK, putRow, mapBlock, Sort.ahead, grow]
end

/-- What keeps all that was there has only drawn and laid. -/
theorem Keep.grown {w w' : World} (h : Keep (fun _ => False) w w') : ∃ q os, w' = grow (w.drewN q) os := by
  refine ⟨w'.drawn - w.drawn, w'.heap.extract w.heap.size w'.heap.size, ?_⟩
  have hd := h.drawn
  have hz := h.size
  obtain ⟨heap', tape', drawn', os', out'⟩ := w'
  have e1 := h.os; have e2 := h.tape; have e3 := h.output
  simp only at e1 e2 e3 hd hz
  subst e1 e2 e3
  simp only [grow, World.drewN, World.mk.injEq]
  refine ⟨?_, trivial, by omega, trivial, trivial⟩
  apply Array.ext_getElem?
  intro i
  by_cases hi : i < w.heap.size
  · rw [Array.getElem?_append_left hi]; exact h.block i hi (fun x => x)
  · rw [Array.getElem?_append_right (by omega), Array.getElem?_extract]
    split
    · congr 1; omega
    · rw [Array.getElem?_eq_none (by omega)]

theorem mergeSort_val {α : Type} {g : α → α → Option Int} (l : List α) : (l.attach.mergeSort fun x y => !ltM g y.1 x.1).map (·.1) = l.mergeSort fun x y => !ltM g y x := by
  have := List.map_mergeSort (r := fun (x y : {x // x ∈ l}) => !ltM g y.1 x.1) (s := fun x y => !ltM g y x) (f := fun x => x.1) (l := l.attach) (fun a _ b _ => rfl)
  rw [this]
  simp

theorem RTv {w : World} {S : Nat → Prop} {v u : Value} (h : RT w S v (.v u)) : v = u := by cases h; rfl

theorem sortFunc_tie {E : Type} {P : Program} {ρ : Ren} (L : SlLaysF0.n6 P ρ) {enc : E → List Tree} {k : Nat} (encV : E → List Value) (henc : ∀ x, enc x = (encV x).map Tree.v) (hk : ∀ x, (encV x).length = k) (h1 : ∀ x, ∀ v ∈ encV x, v.oneCell' = true)
    (aE : ∀ w, (isAgg (ρ.t 24)).run P w = .ok true w) (zE : ∀ w, (Go.sizeOf (ρ.t 24)).run P w = .ok k w) {e n : Nat} {cs : List (List Tree)} {A : E → T} (hA : ∀ x, A x = .agg ((enc x).map .t)) (g : E → E → Option Int)
    (hg : ∀ x y, TieF P n ([A x, A y] ++ cs.map T.el) (g x y) (fun r => .t (tI r))) (l : List E) :
    TieG P (ρ.f 6) [.own 1000000, .fz n cs] [(1000000, .rows e k l.length (l.map enc))] (sortM g l) (fun _ => .tup []) (fun r => [(1000000, .rows e k r.length (r.map enc))]) := by
  refine ⟨L.f6.enters rfl, fun r hr w S E vs hS hO hv => ?_⟩
  have hC : SortOk g l := by
    unfold sortM at hr; split at hr <;> first | assumption | cases hr
  rw [sortM_ok hC, Option.some.injEq] at hr
  subst hr
  obtain ⟨v0, v1, rfl⟩ : ∃ v0 v1, vs = [v0, v1] := by
    have := hv.1
    match vs, this with
    | [a, b], _ => exact ⟨a, b, rfl⟩
  have r0 : RV w S E v0 (.own 1000000) := hv.2 0 (by simp) (by simp)
  have r1 : RV w S E v1 (.fz n cs) := hv.2 1 (by simp) (by simp)
  cases r0 with
  | own _ _ hE =>
  cases r1 with
  | fz _ ps _ hpl hp =>
  have hblk := hO.blk 1000000 (.rows e k l.length (l.map enc)) rfl
  rw [hE] at hblk
  obtain ⟨hn, ⟨hx, hnil⟩ | ⟨β, cap, vs, hcm, hx, hh, hvl, hcap, hsz, hr⟩⟩ := hblk
  · -- no element
    have hl : l = [] := by simpa using hnil
    subst hl
    subst hx
    refine (AnyF.slices_SortFunc_none L none 0 (.func (.func n) #[] ps.toArray) w).mono fun e' w' ⟨he, hw⟩ => ?_
    subst hw
    refine ⟨_, S, E, he, .tup [] [] rfl fun j h1 => by simp at h1, Keep.refl _ _, hS, fun b hb => .inl hb, ?_, fun β hl => .inl ?_, fun _ _ => rfl⟩
    · simpa using hO
    · simpa using hl
  · have hl0 : l ≠ [] ∨ l = [] := by by_cases h : l = [] <;> simp [h]
    simp only [List.length_map] at hx hcap
    subst hx
    by_cases hl : l = []
    · subst hl
      refine (AnyF.slices_SortFunc_none L (some ⟨β, 0, none⟩) cap (.func (.func n) #[] ps.toArray) w).mono fun e' w' ⟨he, hw⟩ => ?_
      subst hw
      refine ⟨_, S, E, he, .tup [] [] rfl fun j h1 => by simp at h1, Keep.refl _ _, hS, fun b hb => .inl hb, ?_, fun β hl => .inl ?_, fun _ _ => rfl⟩
      · simpa using hO
      · simpa using hl
    obtain ⟨x0, hx0⟩ := List.exists_mem_of_ne_nil l hl
    haveI : Inhabited {x // x ∈ l} := ⟨⟨x0, hx0⟩⟩
    let enc' : {x // x ∈ l} → List Value := fun x => encV x.1
    let cf : {x // x ∈ l} → {x // x ∈ l} → Int := fun x y => (g x.1 y.1).getD 0
    let d : Array {x // x ∈ l} := l.attach.toArray
    have hds : d.size = l.length := by simp [d]
    have hlt : ∀ x y, ltOf cf x y = ltM g x.1 y.1 := fun x y => rfl
    have hO' : SWO (ltOf cf) := ⟨fun x => hC.irrefl _ x.2, fun x y z => hC.trans _ x.2 _ y.2 _ z.2, fun x y z => hC.ntrans _ x.2 _ y.2 _ z.2⟩
    have hβS : ¬ S β := (hO.own 1000000 (.rows e k l.length (l.map enc)) β rfl (by rw [hE]; rfl)).1
    have hβw : β < w.heap.size := (hO.own 1000000 (.rows e k l.length (l.map enc)) β rfl (by rw [hE]; rfl)).2
    have eg : ∀ args w, (callFunc n args).run P w = .ok (.enter n args) w := (hg x0 x0).1
    have hdget : ∀ i (hi : i < l.length), (d[i]!).1 = l[i] := fun i hi => by
      rw [getElem!_pos d i (by omega)]; simp [d]
    have hcmp : CmpLays P n ps.toArray enc' k cf β 0 d.size w := by
      intro m os dk hdk x y
      obtain ⟨c, hc⟩ := hC.ans _ x.2 _ y.2
      have hW := sw_keep enc' k w β m dk os (fun b => b = β) rfl
      have hSW : ∀ b, S b → (sortWorldK enc' k w β 0 m dk os).heap[b]? = w.heap[b]? := fun b hb => sw_other enc' k w β m dk os b (hS b hb) (fun e => hβS (e ▸ hb))
      have argA : ∀ z : {x // x ∈ l}, RV (sortWorldK enc' k w β 0 m dk os) S E (.agg (enc' z).toArray) (A z.1) := fun z => by
        rw [hA, henc]
        refine .agg _ _ (by simp [enc']) fun j h1 h2 => ?_
        simp only [List.getElem_map]
        exact .t (.v _)
      have hcall := (hg x.1 y.1).2 c hc (sortWorldK enc' k w β 0 m dk os) S E ([.agg (enc' x).toArray, .agg (enc' y).toArray] ++ ps) (fun b hb => Nat.lt_of_lt_of_le (hS b hb) hW.size) (by
        refine RVL.append (l := [A x.1, A y.1]) ⟨rfl, fun j h1 h2 => ?_⟩ ⟨by simpa using hpl, fun j h1 h2 => ?_⟩
        · match j, h1, h2 with
          | 0, _, _ => exact argA x
          | 1, _, _ => exact argA y
        · simp only [List.getElem_map]
          exact ((hp j h1 (by simpa using h2)).rv (E := E)).mono (fun _ x => x) hSW (fun _ _ => rfl))
      have e1 : (([.agg (enc' x).toArray, .agg (enc' y).toArray] : List Value) ++ ps).toArray = #[.agg (enc' x).toArray, .agg (enc' y).toArray] ++ ps.toArray := by simp
      rw [e1] at hcall
      refine hcall.mono fun e' w' ⟨v, S', he, hv', hkeep, _, _⟩ => ?_
      subst he
      have : v = .int .i64 c := by
        cases hv' with | t h => exact RTv h
      subst this
      exact ⟨by simp [cf, hc], hkeep.grown⟩
    have hcell : ∀ i (hi : i < l.length) j (hj : j < k), ∃ hb : i * k + j < vs.length, vs[i * k + j] = (encV l[i])[j]'(by rw [hk]; exact hj) := fun i hi j hj => by
      have h2 : i * k + j < vs.length := by
        have : (i + 1) * k ≤ cap * k := Nat.mul_le_mul_right _ (by omega)
        rw [Nat.succ_mul] at this; omega
      refine ⟨h2, ?_⟩
      have hlen : j < ((l.map enc)[i]'(by simpa using hi)).length := by simp [henc, hk]; exact hj
      have := hr i j (by simpa using hi) hlen h2
      have e2 : ((l.map enc)[i]'(by simpa using hi))[j]'hlen = .v ((encV l[i])[j]'(by rw [hk]; exact hj)) := by simp [henc]
      rw [e2] at this
      exact RTv this
    have hH : HoldsK enc' k w β 0 d := by
      intro t ht
      rw [size_flatK, hds] at ht
      have hk0 : 0 < k := by rcases Nat.eq_zero_or_pos k with h | h; · subst h; simp at ht
                             · exact h
      have hi : t / k < l.length := Nat.div_lt_of_lt_mul (by rw [Nat.mul_comm]; exact ht)
      have hj : t % k < k := Nat.mod_lt _ hk0
      obtain ⟨hb, hc⟩ := hcell _ hi _ hj
      have et : t / k * k + t % k = t := by rw [Nat.mul_comm]; exact Nat.div_add_mod t k
      refine ⟨?_, by simp [World.frozen?, hh]⟩
      rw [cell_of_row w β (0 + t) _ e _ hh, get_flatK _ _ _ t (by rw [hds]; exact ht)]
      have h2 : (enc' d[t / k]!)[t % k]! = vs[t / k * k + t % k] := by
        rw [hc, getElem!_pos _ _ (by simp only [enc']; rw [hk]; exact hj)]
        simp only [enc', hdget _ hi]
      rw [h2, Nat.zero_add]
      simp only [id_eq, List.getElem?_toArray]
      rw [List.getElem?_eq_getElem (by omega)]
      congr 2
      exact et.symm
    have hcon := AnyQ.slices_SortFunc_total L k aE zE enc' (fun x => hk _) (fun x => h1 _) cf hO' n ps.toArray β 0 cap d w eg hcmp hH hβw (by rw [hds]; exact hC.len) (fun x y a b => Subtype.ext (hC.tot _ x.2 _ y.2 a b))
    rw [hds] at hcon
    have hmap := mergeSort_val (g := g) l
    have hdl : d.toList = l.attach := by simp [d]
    rw [hdl] at hcon
    refine hcon.mono fun e' w' ⟨he, m, os, hw⟩ => ?_
    have hcong : (l.attach.mergeSort fun x y => !ltOf cf y x) = l.attach.mergeSort fun x y => !ltM g y.1 x.1 := rfl
    rw [hcong] at hw
    generalize (l.attach.mergeSort fun x y => !ltM g y.1 x.1) = q at hw hmap
    have hrl : (l.mergeSort fun x y => !ltM g y x).length = l.length := List.length_mergeSort l
    generalize (l.mergeSort fun x y => !ltM g y x) = r at hmap hrl ⊢
    have hql : q.length = r.length := by rw [← hmap]; simp
    have hlent : lentOf [(1000000, Blk.rows e k l.length (l.map enc))] E β := ⟨1000000, _, rfl, by rw [hE]; rfl⟩
    subst hw
    have hqget : ∀ i (hi : i < r.length), (q.toArray[i]!).1 = r[i] := fun i hi => by
      rw [getElem!_pos q.toArray i (by simpa using (by omega : i < q.length))]
      subst hmap
      simp
    refine ⟨.tuple #[], S, E, he, .tup [] [] rfl fun j h1 => by simp at h1, sw_keep enc' k w β m q.toArray os _ hlent, fun b hb => ?_, fun b hb => .inl hb, ⟨fun id b hl => ?_, fun id b β' hl hβ' => ?_, fun id id' b b' β' hl hl' _ _ => ?_⟩, fun β' ⟨id, b, hl, hβ'⟩ => .inl ?_, fun _ _ => rfl⟩
    · rw [sw_size]; exact Nat.lt_of_lt_of_le (hS b hb) (Nat.le_add_right _ _)
    · have : id = 1000000 ∧ b = .rows e k r.length (r.map enc) := by
        simp only [look] at hl
        by_cases hid : 1000000 = id
        · subst hid; simp at hl; exact ⟨rfl, hl.symm⟩
        · simp [beq_ne hid] at hl
      obtain ⟨rfl, rfl⟩ := this
      rw [hE]
      refine ⟨by simp, .inr ⟨β, cap, (putCells id 0 (flatK enc' k q.toArray) vs.toArray).toList, hcm, by simp [hrl], by rw [sw_row enc' k w β m q.toArray os hh], by simp [putCells, hvl], by simpa [hrl] using hcap, ?_, ?_⟩⟩
      · intro x hx
        obtain ⟨y, _, rfl⟩ := List.mem_map.1 hx
        simp [henc, hk]
      · intro i j hi hj hb
        have hi' : i < r.length := by simpa using hi
        have hj' : j < k := by simpa [henc, hk] using hj
        have hk0 : 0 < k := by omega
        have ht : i * k + j < r.length * k := by
          have : (i + 1) * k ≤ r.length * k := Nat.mul_le_mul_right _ (by omega)
          rw [Nat.succ_mul] at this; omega
        have hdiv : (i * k + j) / k = i := by rw [Nat.mul_comm, Nat.mul_add_div hk0, Nat.div_eq_of_lt hj', Nat.add_zero]
        have hmod : (i * k + j) % k = j := by rw [Nat.mul_comm, Nat.mul_add_mod, Nat.mod_eq_of_lt hj']
        have e1 : (putCells id 0 (flatK enc' k q.toArray) vs.toArray).toList[i * k + j] = (encV r[i])[j]'(by rw [hk]; exact hj') := by
          simp only [Array.getElem_toList]
          simp only [putCells, Array.getElem_mapIdx, Nat.zero_le, true_and, Nat.zero_add, Nat.sub_zero, size_flatK, List.size_toArray, id_eq]
          rw [if_pos (by rw [hql]; exact ht), get_flatK _ _ _ _ (by simp only [List.size_toArray]; rw [hql]; exact ht), hdiv, hmod, getElem!_pos _ _ (by simp only [enc']; rw [hk]; exact hj')]
          simp only [enc', hqget i hi']
        rw [e1]
        have e2 : ((r.map enc)[i]'hi)[j]'hj = .v ((encV r[i])[j]'(by rw [hk]; exact hj')) := by simp [henc]
        rw [e2]
        exact .v _
    · have : id = 1000000 := by
        simp only [look] at hl
        by_cases hid : 1000000 = id
        · exact hid.symm
        · simp [beq_ne hid] at hl
      subst this
      have : β' = β := by rw [hE] at hβ'; simpa [blkOf] using hβ'.symm
      subst this
      exact ⟨hβS, by rw [sw_size]; omega⟩
    · simp only [look] at hl hl'
      by_cases hid : 1000000 = id
      · by_cases hid' : 1000000 = id'
        · exact hid.symm.trans hid'
        · simp [beq_ne hid'] at hl'
      · simp [beq_ne hid] at hl
    · have : id = 1000000 := by
        simp only [look] at hl
        by_cases hid : 1000000 = id
        · exact hid.symm
        · simp [beq_ne hid] at hl
      subst this
      exact ⟨1000000, _, rfl, hβ'⟩
end Go.Pv
namespace Go.Pv
open Go.RowKit

section
variable {X : Cx} {ops : Array Oper} {fe fuel : Nat} {le l l' : List Bool} {σ' : St} {o : Oper} {α : Type}

theorem TieA.bin {d ty yt : Nat} {op : BinOp} {k k' : IntKind} {x y : Operand} {u v : Int} {V : T} {tm : List (Nat × T)} {hp : List (Nat × Blk)} (i : Nat) (l' : List Bool) (ho : ops[i]? = some o) (hl : l.set i true = l') (hop : o.op = .binOp op ty x y yt) (hd : o.dst = some d) (hdn : Nat.blt d X.nt = true) (hg : o.guard = none)
    (hs : Region.noSelect ops = true) (hf : Region.free .any ops l.toArray i = true) (hr : (Region.ready .any ops l.toArray).contains i = true)
    (hx : val tm x = some (.t (.v (.int k u)))) (hy : val tm y = some (.t (.v (.int k' v)))) (hk : (sameKind k k' || isShift op) = true) (hb : ((arith op k u v).map fun z => T.t (.v z)) = some V) (h : TieA X ops fe le fuel l' ⟨(d, V) :: tm, hp⟩ σ') :
    TieA X ops fe le (fuel + 1) l ⟨tm, hp⟩ σ' := TieA.take1 i l' ho hl hd hdn hg hs hf hr (fun S E a w hw => by
  have e1 := (hw.val hx).tv
  have e2 := (hw.val hy).tv
  cases ha : arith op k u v with
  | none => simp [ha] at hb
  | some z =>
    simp only [ha, Option.map_some, Option.some.injEq] at hb
    subst hb
    refine ⟨z, fun w' => ?_, .t (.v z)⟩
    obtain ⟨h1, h2⟩ := arith_ok (P := X.P) (w := w') (by simpa using hk) ha
    simp only [execOp, hop, e1, e2, Sem.run_bind, eqGuard_run op ty x y (.int k u) (.int k' v) (by simp) (by simp), Result.andThen_ok, h2, h1, Sem.run_pure]) h

theorem TieA.idx {ty e sz el n s0 : Nat} {x ix : Operand} {ik : IntKind} {j : Int} {z0 : List Value} {te : TI} {d id : Nat} {r : List α} {enc : α → List Tree} {y : α} {tm : List (Nat × T)} {hp : List (Nat × Blk)} (i : Nat) (l' : List Bool) (hy : getI r j = some y) (ho : ops[i]? = some o) (hl : l.set i true = l')
    (hop : o.op = .indexAddr ty x ix) (hd : o.dst = some d) (hdn : Nat.blt d X.nt = true) (hg : o.guard = none)
    (hs : Region.noSelect ops = true) (hf : Region.free .any ops l.toArray i = true) (hr : (Region.ready .any ops l.toArray).contains i = true)
    (hx : val tm x = some (.own id)) (hb : look hp id = some (.rows el sz n (r.map enc))) (hi : val tm ix = some (.t (.v (.int ik j))))
    (hty : look X.tab ty = some ⟨s0, .slice e, z0⟩) (hte : look X.tab e = some te) (hsz : te.size = sz) (h : TieA X ops fe le fuel l' ⟨(d, .pe id j.toNat sz 0) :: tm, hp⟩ σ') :
    TieA X ops fe le (fuel + 1) l ⟨tm, hp⟩ σ' := TieA.take1 i l' ho hl hd hdn hg hs hf hr (fun S E a w hk => by
  obtain ⟨h0, hgl, hlt⟩ := getI_some hy
  have hiv := (hk.val hi).tv
  have hll : j.toNat < r.length := by omega
  have hxv := hk.val hx
  generalize hxe : a.eval x = xv at hxv
  cases hxv with
  | own _ _ hE =>
    obtain ⟨hn, ⟨hE', hr⟩ | ⟨β, cap, vs, _, hE', hh, _⟩⟩ := hk.hp id _ hb
    · simp at hr; subst hr; simp at hll
    · subst hsz
      have hpe := RV.pe (w := w) (S := S) (E := E) id j.toNat te.size 0 β (r.map enc).length cap hE'
      refine ⟨_, fun w' => ?_, hpe⟩
      obtain ⟨dd, hdd, ho2⟩ := (X.htab ty _ hty).run_under w'
      simp only [TD.ok] at ho2
      subst ho2
      have hsw := (X.htab e _ hte).run_size w'
      rw [hE'] at hE
      subst hE
      simp only [execOp, hop, Instr.indexAt, hiv, asIntOf, Sem.run_bind, Sem.run_pure, Result.andThen_ok, hdd, hxe]
      have c1 : 0 ≤ j ∧ j < ((r.map enc).length : Int) := ⟨h0, by simpa using hlt⟩
      simp only [Sem.run_bind, Result.andThen_ok, Sem.run_pure, c1, and_self, if_true, hsw, addr_add, Nat.zero_add, Nat.add_zero]) h
end
end Go.Pv
namespace Go.Pv
open Go.RowKit Go.Sort Go.Shelf Go.Proofs

theorem compact_eq (zs : List Int) : Lib.compact zs = compL zs := by
  have key : ∀ m, m ≤ zs.length → Lib.compactUpTo zs.toArray m = compL (zs.take m) := by
    intro m
    induction m with
    | zero => intro _; rfl
    | succ m ih =>
      intro hm
      have hg : ∀ j (hj : j < zs.length), (zs.toArray)[j]! = zs[j] := fun j hj => by
        rw [getElem!_pos zs.toArray j (by simpa using hj)]; simp
      rw [Lib.compactUpTo_succ, ih (by omega), List.take_succ_eq_append_getElem (by omega : m < zs.length), hg m (by omega)]
      by_cases h0 : m = 0
      · subst h0; rfl
      · have hne : zs.take m ≠ [] := by
          intro h
          have := congrArg List.length h
          rw [List.length_take, List.length_nil] at this; omega
        rw [compL_snoc _ _ hne]
        have hl : (zs.take m).getLast hne = zs[m - 1] := by
          rw [List.getLast_eq_getElem, List.getElem_take]
          congr 1
          rw [List.length_take]; omega
        rw [hl]
        unfold Lib.keeps
        rw [hg m (by omega), hg (m - 1) (by omega)]
        by_cases he : zs[m] = zs[m - 1]
        · rw [if_pos he, if_neg (by simp [h0, he])]
        · rw [if_neg he, if_pos (by simp [h0, he])]
  unfold Lib.compact
  rw [key _ (Nat.le_refl _), List.take_length]

section
variable (w : World) (β m : Nat) (d : Array Int) (os : Array Obj)
/-- The world behind a turn of a row of ints. -/
def rowW : World := grow (putRow (Value.int .i64) (Sort.ahead w m) β 0 d) os

theorem rw_size : (rowW w β m d os).heap.size = w.heap.size + os.size := by
  simp [rowW, putRow, mapBlock, Sort.ahead, grow]
theorem rw_other (b : Nat) (hb : b < w.heap.size) (hne : b ≠ β) : (rowW w β m d os).heap[b]? = w.heap[b]? := by
  simp only [rowW, putRow, mapBlock, Sort.ahead, grow]
  rw [Array.getElem?_append_left (by simpa using hb), Array.getElem?_modify, if_neg (Ne.symm hne)]
theorem rw_row {cs : Array Value} {elem : TypeId} (hh : w.heap[β]? = some (.cells cs elem (0, 0))) : (rowW w β m d os).heap[β]? = some (.cells (putCells (Value.int .i64) 0 d cs) elem (0, 0)) := by
  have hb : β < w.heap.size := (Array.getElem?_eq_some_iff.1 hh).1
  simp only [rowW, putRow, mapBlock, Sort.ahead, grow]
  rw [Array.getElem?_append_left (by simpa using hb), Array.getElem?_modify, if_pos rfl, hh]
  rfl
theorem rw_keep (L : Nat → Prop) (hL : L β) : Keep L w (rowW w β m d os) where
  os := rfl
  tape := rfl
  output := rfl
  size := by rw [rw_size]; omega
  block := fun b hb hn => rw_other w β m d os b hb (fun e => hn (e ▸ hL))
  drawn := by simp [rowW, putRow, mapBlock, Sort.ahead, grow]
end

/-- The row that is handed back. -/
theorem row_back {w : World} {S : Nat → Prop} {E' : Nat → Value} {e id' β cap m : Nat} {r z : List Int} {vs : List Value} {os : Array Obj} (hcm : cap ≤ maxLen) (hh : w.heap[β]? = some (.cells vs.toArray e (0, 0))) (hvl : vs.length = cap * 1) (hrl : r.length ≤ cap)
    (hE' : E' id' = .slice (some ⟨β, 0, none⟩) r.length cap) (hS : ¬ S β) (hβ : β < w.heap.size) : Owned (rowW w β m (r ++ z).toArray os) S E' [(id', .rows e 1 r.length (r.map encI))] := by
  have one : ∀ id b, look [(id', Blk.rows e 1 r.length (r.map encI))] id = some b → id = id' ∧ b = .rows e 1 r.length (r.map encI) := fun id b hl => by
    simp only [look] at hl
    by_cases hid : id' = id
    · subst hid; simp at hl; exact ⟨rfl, hl.symm⟩
    · simp [beq_ne hid] at hl
  refine ⟨fun id b hl => ?_, fun id b β' hl hβ' => ?_, fun id id1 b b' β' hl hl' _ _ => ?_⟩
  · obtain ⟨rfl, rfl⟩ := one _ _ hl
    rw [hE']
    refine ⟨by simp, .inr ⟨β, cap, (putCells (Value.int .i64) 0 (r ++ z).toArray vs.toArray).toList, hcm, by simp, by rw [rw_row w β m _ os hh], by simp [putCells, hvl], by simpa using hrl, ?_, ?_⟩⟩
    · intro x hx
      obtain ⟨y, _, rfl⟩ := List.mem_map.1 hx
      rfl
    · intro i j hi hj hb
      have hi' : i < r.length := by simpa using hi
      have hj' : j = 0 := by
        rw [List.getElem_map] at hj
        have : (encI r[i]).length = 1 := rfl
        omega
      subst hj'
      have e1 : (putCells (Value.int .i64) 0 (r ++ z).toArray vs.toArray).toList[i * 1 + 0] = .int .i64 r[i] := by
        simp only [Array.getElem_toList, Nat.mul_one, Nat.add_zero]
        simp only [putCells, Array.getElem_mapIdx, Nat.zero_le, true_and, Nat.zero_add, Nat.sub_zero, List.size_toArray]
        rw [if_pos (by rw [List.length_append]; omega), getElem!_pos _ _ (by simp only [List.size_toArray, List.length_append]; omega)]
        simp only [List.getElem_toArray]
        rw [List.getElem_append_left hi']
      rw [e1]
      have e2 : ((r.map encI)[i]'hi)[0]'hj = .v (.int .i64 r[i]) := by simp [encI, tI]
      rw [e2]
      exact .v _
  · obtain ⟨rfl, rfl⟩ := one _ _ hl
    have : β' = β := by rw [hE'] at hβ'; simpa [blkOf] using hβ'.symm
    subst this
    exact ⟨hS, by rw [rw_size]; omega⟩
  · exact (one _ _ hl).1.trans (one _ _ hl').1.symm

/-- The row that is lent. -/
theorem row_lent {w : World} {β e cap : Nat} {l : List Int} {vs : List Value} (hh : w.heap[β]? = some (.cells vs.toArray e (0, 0))) (hvl : vs.length = cap * 1) (hcap : l.length ≤ cap) {S : Nat → Prop}
    (hr : ∀ i j (hi : i < (l.map encI).length) (hj : j < ((l.map encI)[i]).length) (hb : i * 1 + j < vs.length), RT w S (vs[i * 1 + j]) (((l.map encI)[i])[j])) : Holds (Value.int .i64) w β 0 l.toArray := by
  intro t ht
  have ht' : t < l.length := by simpa using ht
  refine ⟨?_, by simp [World.frozen?, hh]⟩
  rw [cell_of_row w β (0 + t) _ e _ hh, Nat.zero_add]
  have h1 := hr t 0 (by simpa using ht') (by simp [encI]) (by omega)
  have e2 : ((l.map encI)[t]'(by simpa using ht'))[0]'(by simp [encI]) = .v (.int .i64 l[t]) := by simp [encI, tI]
  rw [e2] at h1
  have h3 := RTv h1
  simp only [List.getElem?_toArray]
  rw [List.getElem?_eq_getElem (by omega), getElem!_pos l.toArray t ht]
  simp only [List.getElem_toArray]
  rw [← h3]
  congr 2
  omega

theorem sortInts_tie {P : Program} {ρ : Ren} (L : Lays.n189 P ρ) (hc : ∀ vs w, (callFunc (ρ.f 189) vs).run P w = .ok (.enter (ρ.f 189) vs) w) {e : Nat} (l : List Int) :
    TieG P (ρ.f 189) [.own 1000000] [(1000000, .rows e 1 l.length (l.map encI))] (sortIM l) (fun _ => .tup []) (fun r => [(1000000, .rows e 1 r.length (r.map encI))]) := by
  refine ⟨hc, fun r hr w S E vs hS hO hv => ?_⟩
  have hlen : l.length < 4611686018427387904 := by
    unfold sortIM at hr; split at hr <;> first | assumption | cases hr
  rw [sortIM_ok hlen, Option.some.injEq] at hr
  subst hr
  obtain ⟨v0, rfl⟩ : ∃ v0, vs = [v0] := by
    have := hv.1
    match vs, this with
    | [a], _ => exact ⟨a, rfl⟩
  have r0 : RV w S E v0 (.own 1000000) := hv.2 0 (by simp) (by simp)
  cases r0 with
  | own _ _ hE =>
  have hblk := hO.blk 1000000 (.rows e 1 l.length (l.map encI)) rfl
  rw [hE] at hblk
  obtain ⟨hn, ⟨hx, hnil⟩ | ⟨β, cap, vs, hcm, hx, hh, hvl, hcap, hsz, hr⟩⟩ := hblk
  · have hl : l = [] := by simpa using hnil
    subst hl
    subst hx
    refine (Any.slices_Sort_int_none L none 0 w).mono fun e' w' ⟨he, hw⟩ => ?_
    subst hw
    refine ⟨_, S, E, he, .tup [] [] rfl fun j h1 => by simp at h1, Keep.refl _ _, hS, fun b hb => .inl hb, ?_, fun β hl => .inl ?_, fun _ _ => rfl⟩
    · simpa using hO
    · simpa using hl
  · simp only [List.length_map] at hx hcap
    subst hx
    have hβ := hO.own 1000000 (.rows e 1 l.length (l.map encI)) β rfl (by rw [hE]; rfl)
    have hlent : lentOf [(1000000, Blk.rows e 1 l.length (l.map encI))] E β := ⟨1000000, _, rfl, by rw [hE]; rfl⟩
    refine (Any.slices_Sort_int L β 0 cap l w (row_lent hh hvl hcap hr) hβ.2 hlen).mono fun e' w' ⟨he, m, os, hw⟩ => ?_
    have hrl : (l.mergeSort fun x y => decide (x ≤ y)).length = l.length := List.length_mergeSort l
    generalize (l.mergeSort fun x y => decide (x ≤ y)) = r at hw hrl ⊢
    have hw2 : w' = rowW w β m (r ++ []).toArray os := by rw [List.append_nil]; exact hw
    subst hw2
    refine ⟨.tuple #[], S, E, he, .tup [] [] rfl fun j h1 => by simp at h1, rw_keep w β m _ os _ hlent, fun b hb => ?_, fun b hb => .inl hb, row_back hcm hh hvl (by omega) (by rw [hE, hrl]) hβ.1 hβ.2, fun β' ⟨id, b, hl, hβ'⟩ => .inl ?_, fun _ _ => rfl⟩
    · rw [rw_size]; exact Nat.lt_of_lt_of_le (hS b hb) (Nat.le_add_right _ _)
    · have : id = 1000000 := by
        simp only [look] at hl
        by_cases hid : 1000000 = id
        · exact hid.symm
        · simp [beq_ne hid] at hl
      subst this
      exact ⟨1000000, _, rfl, hβ'⟩

theorem compactInts_tie {P : Program} {ρ : Ren} (L : Lays2.n20 P ρ) (hc : ∀ vs w, (callFunc (ρ.f 20) vs).run P w = .ok (.enter (ρ.f 20) vs) w) {e : Nat} (l : List Int) :
    TieG P (ρ.f 20) [.own 1000000] [(1000000, .rows e 1 l.length (l.map encI))] (compactM l) (fun _ => .own 900000) (fun r => [(900000, .rows e 1 r.length (r.map encI))]) := by
  refine ⟨hc, fun r hr w S E vs hS hO hv => ?_⟩
  have hlen : l.length ≤ 9223372036854775807 := by
    unfold compactM at hr; split at hr <;> first | assumption | cases hr
  rw [compactM_ok hlen, Option.some.injEq] at hr
  obtain ⟨v0, rfl⟩ : ∃ v0, vs = [v0] := by
    have := hv.1
    match vs, this with
    | [a], _ => exact ⟨a, rfl⟩
  have r0 : RV w S E v0 (.own 1000000) := hv.2 0 (by simp) (by simp)
  have one : ∀ (r : List Int) id b, look [(900000, Blk.rows e 1 r.length (r.map encI))] id = some b → id = 900000 := fun r id b hl => by
    simp only [look] at hl
    by_cases hid : 900000 = id
    · exact hid.symm
    · simp [beq_ne hid] at hl
  cases r0 with
  | own _ _ hE =>
  have hblk := hO.blk 1000000 (.rows e 1 l.length (l.map encI)) rfl
  rw [hE] at hblk
  have hEb : ∀ v, ∀ id, big ≤ id → (fun id => if id = 900000 then v else E id) id = E id := fun v id h => by
    simp only
    rw [if_neg (by unfold big at h; omega)]
  obtain ⟨hn, ⟨hx, hnil⟩ | ⟨β, cap, vs, hcm, hx, hh, hvl, hcap, hsz, hrr⟩⟩ := hblk
  · have hl : l = [] := by simpa using hnil
    subst hl
    subst hx
    subst hr
    refine (Any.slices_Compact_int_empty L none 0 w).mono fun e' w' ⟨he, hw⟩ => ?_
    subst hw
    have hno : ∀ id b, look [(900000, Blk.rows e 1 (compL []).length ((compL []).map encI))] id = some b → blkOf ((fun id => if id = 900000 then Value.slice none 0 0 else E id) id) = none := fun id b hl => by
      rw [one _ _ _ hl]; rfl
    refine ⟨_, S, fun id => if id = 900000 then .slice none 0 0 else E id, he, .own _ _ (by simp), Keep.refl _ _, hS, fun b hb => .inl hb, ⟨fun id b hl => ?_, fun id b β' hl hβ' => ?_, fun id id1 b b' β' hl hl' _ _ => (one _ _ _ hl).trans (one _ _ _ hl').symm⟩, fun β ⟨id, b, hl, hβ⟩ => ?_, hEb _⟩
    · have := one _ _ _ hl
      subst this
      simp [look] at hl
      subst hl
      exact ⟨by simp, .inl ⟨by simp, by simp [compL]⟩⟩
    · rw [hno _ _ hl] at hβ'; cases hβ'
    · rw [hno _ _ hl] at hβ; cases hβ
  · simp only [List.length_map] at hx hcap
    subst hx
    have hβ := hO.own 1000000 (.rows e 1 l.length (l.map encI)) β rfl (by rw [hE]; rfl)
    have hlent : lentOf [(1000000, Blk.rows e 1 l.length (l.map encI))] E β := ⟨1000000, _, rfl, by rw [hE]; rfl⟩
    refine (Any.slices_Compact_int L β 0 cap l w (row_lent hh hvl hcap hrr) hlen hcap).mono fun e' w' ⟨he, m, hw⟩ => ?_
    rw [compact_eq] at he hw
    have hrl : (compL l).length ≤ l.length := by
      have key : ∀ (l : List Int) p, (compG p l).length ≤ l.length := by
        intro l
        induction l with
        | nil => intro p; exact Nat.le_refl _
        | cons y l ih =>
          intro p
          unfold compG
          have := ih y
          cases y == p
          · simp only [cond_false, List.length_cons]; omega
          · simp only [cond_true, List.length_cons]; omega
      cases l with
      | nil => exact Nat.le_refl _
      | cons x l => simp only [compL, List.length_cons]; have := key l x; omega
    rw [hr] at he hw hrl
    generalize List.replicate (l.length - r.length) (0 : Int) = z at hw
    have hw2 : w' = rowW w β m (r ++ z).toArray #[] := by rw [hw]; simp [rowW]
    subst hw2
    refine ⟨_, S, fun id => if id = 900000 then .slice (some ⟨β, 0, none⟩) r.length cap else E id, he, .own _ _ (by simp), rw_keep w β m _ _ _ hlent, fun b hb => ?_, fun b hb => .inl hb, row_back hcm hh hvl (by omega) (by simp) hβ.1 hβ.2, fun β' ⟨id, b, hl, hβ'⟩ => .inl ?_, hEb _⟩
    · rw [rw_size]; exact Nat.lt_of_lt_of_le (hS b hb) (Nat.le_add_right _ _)
    · have := one _ _ _ hl
      subst this
      have e1 : β' = β := by simpa [blkOf] using hβ'.symm
      subst e1
      exact hlent
end Go.Pv
namespace Go.Pv
open Go.RowKit

/-- Zeros behind nil. -/
theorem run_append_zeros {P : Program} {w : World} (t u ty e : TypeId) (i : TypeInfo) (z : Value) (kk ik : IntKind) (ht : P.underlying t = some (.slice e)) (hu : P.underlying u = some (.int kk)) (hi : P.info? e = some i) (hz : i.zero = some z) (n : Nat) (h0 : 0 < n) (hs0 : 0 < i.size) (hn : n ≤ 1073741824) (hb : n * i.bytes ≤ 140737488355328) :
    (Builtin.append_ #[t, u] ty #[.slice none 0 0, .int ik n]).run P w =
      .ok (.slice (some ⟨w.heap.size, 0, none⟩) n (grownCap w n 0 e)) (w.drew.alloc (.cells (Builtin.zeroCells z.cells n ++ Builtin.zeroCells z.cells (grownCap w n 0 e - n)) e)) := by
  have hn0 : n ≠ 0 := by omega
  have hs1 : i.size ≠ 0 := by omega
  have hw : IntKind.i64.wrap (n : Int) = (n : Int) := w64_of (by omega) (by omega)
  have hneg : ¬ ((n : Int) < 0) := by omega
  have hbi : ¬ ((281474976710656 : Int) < (n : Int) * (i.bytes : Int)) := by
    have : ((n * i.bytes : Nat) : Int) ≤ 140737488355328 := by omega
    rw [Int.natCast_mul] at this
    omega
  have h63' : ¬ (9223372036854775807 < (n : Int)) := by omega
  have h48' : ¬ (281474976710656 < Builtin.nextslicecap n 0 * i.bytes) := by rw [nextslicecap_zero h0]; omega
  simp [Builtin.append_, run_underlying ht, run_underlying hu, sizeOf, typeInfo, zeroValue, hi, hz, Builtin.lenOf, Builtin.firstCells, hn0, hs1, hw, hneg, hbi, h63', h48', asInt, asIntOf, Question.forced, newRow, grownCap]
  intro h
  exact absurd h (Nat.mul_ne_zero hn0 hs1)

section
variable {ρ α : Type} {X : Cx} {ks : List K} {tm tm' : List (Nat × T)} {hp hp' : List (Nat × Blk)} {m : Option ρ} {Q : ρ → Exit → St → Prop} {all : Array Oper} {o : Oper} {rest : List Oper} {w0 : World} {L : Lim} {nt : Nat} {S : Nat → Prop} {E : Nat → Value} {a : Act} {w : World}

theorem Ok.zeros {P : Program} (h : Ok w0 L nt ⟨tm, hp⟩ S E a w) {id t u ty e n : Nat} {kk ik : IntKind} {ti : TI} {c : List Tree} (hbig : Nat.blt id big = true) (hf : freshT id tm = true) (hb : freshB id hp = true) (ht : P.underlying t = some (.slice e)) (hu : P.underlying u = some (.int kk)) (hte : TIok P e ti) (hz : ti.zero.length = ti.size) (hpos : 0 < ti.size)
    (hc : c = ti.zero.map fun v => nilTree (.v v)) (h0 : 0 < n) (hmax : n ≤ 1073741824) :
    ∃ v' w' E', (Builtin.append_ #[t, u] ty #[.slice none 0 0, .int ik n]).run P w = .ok v' w' ∧ E' id = v' ∧ Ok w0 L nt ⟨tm, (id, .rows e ti.size n (List.replicate n c)) :: hp⟩ S E' a w' := by
  obtain ⟨i, d, hi, hs, _, _, ⟨z, hzz, hzc⟩, hby⟩ := hte
  have hcl : c.length = ti.size := by rw [hc, List.length_map, hz]
  have hzs : z.cells.size = i.size := by rw [hs, ← hz, ← hzc]; simp
  have hbytes : n * i.bytes ≤ 140737488355328 := by
    have := Nat.mul_le_mul hmax hby
    omega
  have hr := run_append_zeros (P := P) (w := w) t u ty e i z kk ik ht hu hi hzz n h0 (by omega) hmax hbytes
  have hge := grownCap_ge w n 0 e
  have hcm : grownCap w n 0 e ≤ maxLen := grownCap_le_maxLen w n 0 e (by simp only [maxLen]; omega)
  generalize grownCap w n 0 e = cap at hr hge hcm
  have hget : ∀ k (hk : k < n * i.size) (hk2 : k < (Builtin.zeroCells z.cells n ++ Builtin.zeroCells z.cells (cap - n)).toList.length), (Builtin.zeroCells z.cells n ++ Builtin.zeroCells z.cells (cap - n)).toList[k] = ti.zero[k % ti.size]'(by rw [hz]; exact Nat.mod_lt _ hpos) := by
    intro k hk hk2
    have hm : k % z.cells.size < z.cells.size := Nat.mod_lt _ (by omega)
    have hk3 : k < (Builtin.zeroCells z.cells n).size := by rw [size_zeroCells, hzs]; exact hk
    rw [Array.getElem_toList, Array.getElem_append_left hk3]
    simp only [Builtin.zeroCells, Array.getElem_map, Array.getElem_range]
    rw [getElem!_pos z.cells _ hm]
    have : z.cells[k % z.cells.size] = z.cells.toList[k % z.cells.size]'(by simpa using hm) := by simp
    rw [this]
    simp only [hzc, hzs, hs]
  obtain ⟨E', hE, hok⟩ := h.regrow (w' := w.drew.alloc (.cells (Builtin.zeroCells z.cells n ++ Builtin.zeroCells z.cells (cap - n)) e)) (v := .slice none 0 0) (v' := .slice (some ⟨w.heap.size, 0, none⟩) n cap) (b := .rows e ti.size n (List.replicate n c)) hbig hf hb (fun β hβ => by cases hβ) (fun _ _ β _ hβ => by cases hβ)
    ⟨rfl, rfl, rfl, by simp, fun k hk _ => Below.heap_alloc w.drew _ _ hk, Nat.le_succ _⟩ (fun β hβ => by cases hβ; simp) (fun E' => by
    refine ⟨by simp, .inr ⟨w.heap.size, cap, (Builtin.zeroCells z.cells n ++ Builtin.zeroCells z.cells (cap - n)).toList, hcm, by simp, by rw [Array.toArray_toList]; exact heap_alloc_new w.drew _, ?_, by simpa using hge, ?_, ?_⟩⟩
    · rw [Array.length_toList, Array.size_append, size_zeroCells, size_zeroCells, hzs, ← Nat.add_mul, hs]
      congr 1
      omega
    · intro r hr; rw [(List.mem_replicate.1 hr).2]; exact hcl
    · intro i' j hi' hj hb'
      have hi2 : i' < n := by simpa using hi'
      simp only [List.getElem_replicate] at hj ⊢
      have hj2 : j < ti.size := by rw [← hcl]; exact hj
      have hlt : i' * ti.size + j < n * i.size := by
        have : (i' + 1) * ti.size ≤ n * ti.size := Nat.mul_le_mul_right _ (by omega)
        rw [Nat.succ_mul] at this
        rw [hs]; omega
      have e1 : (Builtin.zeroCells z.cells n ++ Builtin.zeroCells z.cells (cap - n)).toList[i' * ti.size + j] = ti.zero[j]'(by rw [hz]; exact hj2) := by
        rw [hget _ hlt hb']
        have : (i' * ti.size + j) % ti.size = j := by rw [Nat.mul_comm, Nat.mul_add_mod, Nat.mod_eq_of_lt hj2]
        simp only [this]
      rw [e1]
      have e2 : c[j] = nilTree (.v (ti.zero[j]'(by rw [hz]; exact hj2))) := by subst hc; simp
      rw [e2]
      exact nilTree_ok (.v _))
  exact ⟨_, _, E', hr, hE, hok⟩

theorem TieO.appendN {t u e d s0 s1 : Nat} {z0 z1 : List Value} {te : TI} {s x : Operand} {kk ik : IntKind} {n : Int} {enc : α → List Tree} {k : List α → Option ρ} (id : Nat) (z : α)
    (ho : o.op = .call ⟨.builtin .append, #[s, x], #[t, u]⟩) (hd : o.dst = some d) (hdn : Nat.blt d X.nt = true) (hg : guardT all.toList tm o.guard = some true) (hs : val tm s = some (.t (.v (.slice none 0 0)))) (hx : val tm x = some (.t (.v (.int ik n))))
    (hty : look X.tab t = some ⟨s0, .slice e, z0⟩) (htu : look X.tab u = some ⟨s1, .int kk, z1⟩) (hte : look X.tab e = some te) (hz : te.zero.length = te.size) (hpos : Nat.blt 0 te.size = true) (henc : enc z = te.zero.map fun v => nilTree (.v v)) (hbig : Nat.blt id big = true) (hft : freshT id tm = true) (hfb : freshB id hp = true)
    (h : ∀ y, zerosM n z = some y → TieO X all rest ks ⟨(d, .own id) :: tm, (id, .rows e te.size y.length (y.map enc)) :: hp⟩ (k y) Q) :
    TieO X all (o :: rest) ks ⟨tm, hp⟩ ((zerosM n z).bind k) Q := fun y hy a w ⟨S, E, hk⟩ => by
  cases hmk : zerosM n z with
  | none => simp [hmk] at hy
  | some l =>
    have h0 := hmk
    unfold zerosM at h0
    split at h0 <;> try (cases h0; done)
    rename_i hn
    simp only [Option.some.injEq] at h0
    simp only [hmk, Option.bind_some] at hy
    obtain ⟨dd, hu, ho2⟩ : ∃ d, X.P.underlying t = some d ∧ TD.ok X.P (.slice e) d := by
      obtain ⟨i, d, _, _, hu, hdd, _⟩ := X.htab t _ hty
      exact ⟨d, hu, hdd⟩
    simp only [TD.ok] at ho2
    subst ho2
    obtain ⟨du, hu2, ho3⟩ : ∃ d, X.P.underlying u = some d ∧ TD.ok X.P (.int kk) d := by
      obtain ⟨i, d, _, _, hu, hdd, _⟩ := X.htab u _ htu
      exact ⟨d, hu, hdd⟩
    simp only [TD.ok] at ho3
    subst ho3
    obtain ⟨j, rfl⟩ : ∃ j : Nat, n = (j : Int) := ⟨n.toNat, by omega⟩
    simp only [Int.toNat_natCast] at h0
    obtain ⟨v', w', E', hr, hE, hok⟩ := hk.zeros (P := X.P) (n := j) (c := enc z) (ty := o.type) (ik := ik) hbig hft hfb hu hu2 (X.htab e _ hte) hz (Nat.le_of_ble_eq_true hpos) henc (by omega) (by omega)
    refine wpList_step fun K hK => ?_
    rw [guardT_ok hk hg, if_pos rfl]
    unfold Oper.wp
    have hexec : (execOp a.eval o).run X.P w = .ok (.value v') w' := by
      unfold execOp
      simp only [ho, resolve, invoke, builtin, Sem.run_bind, Sem.run_pure, Result.andThen_ok, List.map_toArray, List.map_cons, List.map_nil, (hk.val hs).tv, (hk.val hx).tv, hr]
    rw [hexec]
    refine hK _ _ (h l hmk y hy _ _ ⟨S, E', ?_⟩)
    rw [hd]
    have e1 : l.map enc = List.replicate j (enc z) := by rw [← h0]; simp
    have e2 : l.length = j := by rw [← h0]; simp
    rw [e1, e2]
    exact hok.put (Nat.le_of_ble_eq_true hdn) (.own id _ hE)

theorem TieO.capNil {t e d s0 : Nat} {z0 : List Value} {x : Operand} (ho : o.op = .call ⟨.builtin .cap, #[x], #[t]⟩) (hd : o.dst = some d) (hdn : Nat.blt d X.nt = true) (hg : guardT all.toList tm o.guard = some true) (hx : val tm x = some (.t (.v (.slice none 0 0))))
    (hty : look X.tab t = some ⟨s0, .slice e, z0⟩) (h : TieO X all rest ks ⟨(d, .t (.v (.int .i64 0))) :: tm, hp⟩ m Q) : TieO X all (o :: rest) ks ⟨tm, hp⟩ m Q := by
  have := TieO.one (k := fun (_ : Unit) => m) (m₁ := some ()) (rest := rest) (ks := ks) (Q := Q) (all := all) (tm := tm) (hp := hp) hd hdn hg (fun _ => .t (.v (.int .i64 0))) (fun _ S E a w _ hk => by
    obtain ⟨dd, hdd, ho2⟩ := (X.htab t _ hty).run_under w
    simp only [TD.ok] at ho2
    subst ho2
    have hxv := (hk.val hx).tv
    refine ⟨.int .i64 0, ?_, .t (.v _)⟩
    unfold execOp
    simp [ho, resolve, invoke, builtin, hxv, Builtin.cap_, hdd, goInt]) (fun _ _ => h)
  exact this

theorem TieO.sliceNil {t e d s0 : Nat} {z0 : List Value} {te : TI} {x hi : Operand} {ik : IntKind} (ho : o.op = .slice t x none (some hi) none) (hd : o.dst = some d) (hdn : Nat.blt d X.nt = true) (hg : guardT all.toList tm o.guard = some true) (hx : val tm x = some (.t (.v (.slice none 0 0)))) (hh : val tm hi = some (.t (.v (.int ik 0))))
    (hty : look X.tab t = some ⟨s0, .slice e, z0⟩) (hte : look X.tab e = some te) (h : TieO X all rest ks ⟨(d, .t (.v (.slice none 0 0))) :: tm, hp⟩ m Q) : TieO X all (o :: rest) ks ⟨tm, hp⟩ m Q := by
  have := TieO.one (k := fun (_ : Unit) => m) (m₁ := some ()) (rest := rest) (ks := ks) (Q := Q) (all := all) (tm := tm) (hp := hp) hd hdn hg (fun _ => .t (.v (.slice none 0 0))) (fun _ S E a w _ hk => by
    obtain ⟨dd, hdd, ho2⟩ := (X.htab t _ hty).run_under w
    simp only [TD.ok] at ho2
    subst ho2
    have hsz := (X.htab e _ hte).run_size w
    have hxv := (hk.val hx).tv
    have hhv := (hk.val hh).tv
    refine ⟨.slice none 0 0, ?_, .t (.v _)⟩
    unfold execOp
    simp [ho, hxv, hhv, Instr.sliceAt, Instr.slice, Instr.sliceBounds, Instr.sliceBound, hdd, hsz, asIntOf]) (fun _ _ => h)
  exact this
end
end Go.Pv
namespace Go.Pv
open Go.RowKit Go.Shelf Go.Proofs

theorem RVL.get1 {w : World} {S : Nat → Prop} {E : Nat → Value} {vs : List Value} {a : Value} (h : RVL w S E vs [.t (.v a)]) : vs = [a] := by
  match vs, h with
  | [x], h => have e : x = a := RV.tv (h.2 0 (by simp) (by simp)); rw [e]
  | [], h => exact absurd h.1 (by simp)
  | _ :: _ :: _, h => exact absurd h.1 (by simp)

theorem RVL.get2 {w : World} {S : Nat → Prop} {E : Nat → Value} {vs : List Value} {a b : Value} (h : RVL w S E vs [.t (.v a), .t (.v b)]) : vs = [a, b] := by
  match vs, h with
  | [x, y], h => have e : x = a := RV.tv (h.2 0 (by simp) (by simp)); have f : y = b := RV.tv (h.2 1 (by simp) (by simp)); rw [e, f]
  | [], h => exact absurd h.1 (by simp)
  | [_], h => exact absurd h.1 (by simp)
  | _ :: _ :: _ :: _, h => exact absurd h.1 (by simp)

theorem len64_tie {P : Program} {ρ : Ren} (L : Lays.n129 P ρ) (hc : ∀ vs w, (callFunc (ρ.f 129) vs).run P w = .ok (.enter (ρ.f 129) vs) w) (x : Int) :
    TieF P (ρ.f 129) [.t (tK .u64 x)] (len64M x) (fun r => .t (tI r)) := by
  refine ⟨hc, fun r hr w S E vs hS hv => ?_⟩
  obtain rfl := hv.get1
  unfold len64M at hr
  by_cases h : 0 ≤ x ∧ x ≤ 18446744073709551615
  · rw [if_pos h] at hr; cases hr
    refine (Any.bits_Len64 L x w h.1 h.2).mono fun e w' ⟨he, hw⟩ => ?_
    subst hw
    exact ⟨_, S, he, .t (.v _), .refl _ _, hS, fun b hb => .inl hb⟩
  · rw [if_neg h] at hr; cases hr

theorem mul64_tie {P : Program} {ρ : Ren} (L : Lays.n264 P ρ) (hc : ∀ vs w, (callFunc (ρ.f 264) vs).run P w = .ok (.enter (ρ.f 264) vs) w) (x y : Int) :
    TieF P (ρ.f 264) [.t (tK .u64 x), .t (tK .u64 y)] (mul64M x y) (fun r => .tup [.t (tK .u64 r.1), .t (tK .u64 r.2)]) := by
  refine ⟨hc, fun r hr w S E vs hS hv => ?_⟩
  obtain rfl := hv.get2
  unfold mul64M at hr
  by_cases h : (0 ≤ x ∧ x ≤ 18446744073709551615) ∧ (0 ≤ y ∧ y ≤ 18446744073709551615)
  · rw [if_pos h] at hr; cases hr
    obtain ⟨a, rfl⟩ : ∃ a : Nat, x = a := ⟨x.toNat, by omega⟩
    obtain ⟨b, rfl⟩ : ∃ b : Nat, y = b := ⟨y.toNat, by omega⟩
    refine (Any.bits_Mul64 L a b (by omega) (by omega) w).mono fun e w' ⟨he, hw⟩ => ?_
    subst hw
    refine ⟨_, S, he, .tup [_, _] _ rfl fun j h1 h2 => ?_, .refl _ _, hS, fun b hb => .inl hb⟩
    match j, h1 with
    | 0, _ => exact .t (.v _)
    | 1, _ => exact .t (.v _)
  · rw [if_neg h] at hr; cases hr

section
variable {ρ : Type} {X : Cx} {ks : List K} {tm tmMin : List (Nat × T)} {hp : List (Nat × Blk)} {Q : ρ → Exit → St → Prop} {all : Array Oper} {o : Oper} {rest : List Oper}

theorem TieO.shl {ty yt d : Nat} {x y : Operand} {ik jk : IntKind} {i j : Int} {k : Int → Option ρ} (ho : o.op = .binOp .shl ty x y yt) (hd : o.dst = some d) (hdn : Nat.blt d X.nt = true) (hg : guardT all.toList tm o.guard = some true)
    (hx : val tm x = some (.t (.v (.int ik i)))) (hy : val tm y = some (.t (.v (.int jk j)))) (h : ∀ q, TieO X all rest ks ⟨(d, .t (.v (.int ik q))) :: tm, hp⟩ (k q) Q) :
    TieO X all (o :: rest) ks ⟨tm, hp⟩ ((shlM ik i j).bind k) Q :=
  TieO.one hd hdn hg (fun q => .t (.v (.int ik q))) (fun q S E a w hm hk => by
    unfold shlM at hm
    split at hm
    · cases hm
    · rename_i hj
      cases hm
      refine ⟨_, ?_, .t (.v _)⟩
      simp only [execOp, ho, Sem.run_bind, (hk.val hx).tv, (hk.val hy).tv, eqGuard_run .shl ty x y (.int ik i) (.int jk j) (by simp) (by simp), Result.andThen_ok]
      simp [binOp, Op.shift, hj, bitShl]) (fun q _ => h q)

theorem TieO.shr {ty yt d : Nat} {x y : Operand} {ik jk : IntKind} {i j : Int} {k : Int → Option ρ} (ho : o.op = .binOp .shr ty x y yt) (hd : o.dst = some d) (hdn : Nat.blt d X.nt = true) (hg : guardT all.toList tm o.guard = some true)
    (hx : val tm x = some (.t (.v (.int ik i)))) (hy : val tm y = some (.t (.v (.int jk j)))) (h : ∀ q, TieO X all rest ks ⟨(d, .t (.v (.int ik q))) :: tm, hp⟩ (k q) Q) :
    TieO X all (o :: rest) ks ⟨tm, hp⟩ ((shrM ik i j).bind k) Q :=
  TieO.one hd hdn hg (fun q => .t (.v (.int ik q))) (fun q S E a w hm hk => by
    unfold shrM at hm
    split at hm
    · cases hm
    · rename_i hj
      cases hm
      refine ⟨_, ?_, .t (.v _)⟩
      simp only [execOp, ho, Sem.run_bind, (hk.val hx).tv, (hk.val hy).tv, eqGuard_run .shr ty x y (.int ik i) (.int jk j) (by simp) (by simp), Result.andThen_ok]
      simp [binOp, Op.shift, hj, bitShr]) (fun q _ => h q)

theorem StepQ.op1 {V : T} (hg : guardT all.toList tmMin o.guard = some true)
    (hrun : ∀ tm, more tmMin tm → ∀ (a : Act) w S E, Ok X.w0 X.L X.nt ⟨tm, hp⟩ S E a w → ∃ v, (execOp a.eval o).run X.P w = .ok (.value v) w ∧ RV w S E v V) : StepQ X all o tmMin hp V := by
  intro tm hm a w S E hk K Q' hK
  obtain ⟨v, h1, h2⟩ := hrun tm hm a w S E hk
  rw [guardT_ok hk (guardT_more hm hg), if_pos rfl]
  unfold Oper.wp
  rw [h1]
  exact hK _ _ _ _ hk h2

theorem StepQ.rem {ty yt : Nat} {x y : Operand} {ik : IntKind} {i j q : Int} (hq : remM i j = some q) (ho : o.op = .binOp .rem ty x y yt) (hg : guardT all.toList tmMin o.guard = some true)
    (hx : val tmMin x = some (.t (.v (.int ik i)))) (hy : val tmMin y = some (.t (.v (.int ik j)))) : StepQ X all o tmMin hp (.t (.v (.int ik q))) :=
  .op1 hg fun tm hm a w S E hk => ⟨.int ik q, by
    unfold remM at hq
    split at hq
    · cases hq
    · rename_i hj
      cases hq
      simp only [execOp, ho, Sem.run_bind, (hk.val (val_more hm hx)).tv, (hk.val (val_more hm hy)).tv, eqGuard_run .rem ty x y (.int ik i) (.int ik j) (by simp) (by simp), Result.andThen_ok]
      simp [binOp, Op.intDiv, hj], .t (.v _)⟩

theorem StepQ.shl {ty yt : Nat} {x y : Operand} {ik jk : IntKind} {i j q : Int} (hq : shlM ik i j = some q) (ho : o.op = .binOp .shl ty x y yt) (hg : guardT all.toList tmMin o.guard = some true)
    (hx : val tmMin x = some (.t (.v (.int ik i)))) (hy : val tmMin y = some (.t (.v (.int jk j)))) : StepQ X all o tmMin hp (.t (.v (.int ik q))) :=
  .op1 hg fun tm hm a w S E hk => ⟨.int ik q, by
    unfold shlM at hq
    split at hq
    · cases hq
    · rename_i hj
      cases hq
      simp only [execOp, ho, Sem.run_bind, (hk.val (val_more hm hx)).tv, (hk.val (val_more hm hy)).tv, eqGuard_run .shl ty x y (.int ik i) (.int jk j) (by simp) (by simp), Result.andThen_ok]
      simp [binOp, Op.shift, hj, bitShl], .t (.v _)⟩

theorem StepQ.shr {ty yt : Nat} {x y : Operand} {ik jk : IntKind} {i j q : Int} (hq : shrM ik i j = some q) (ho : o.op = .binOp .shr ty x y yt) (hg : guardT all.toList tmMin o.guard = some true)
    (hx : val tmMin x = some (.t (.v (.int ik i)))) (hy : val tmMin y = some (.t (.v (.int jk j)))) : StepQ X all o tmMin hp (.t (.v (.int ik q))) :=
  .op1 hg fun tm hm a w S E hk => ⟨.int ik q, by
    unfold shrM at hq
    split at hq
    · cases hq
    · rename_i hj
      cases hq
      simp only [execOp, ho, Sem.run_bind, (hk.val (val_more hm hx)).tv, (hk.val (val_more hm hy)).tv, eqGuard_run .shr ty x y (.int ik i) (.int jk j) (by simp) (by simp), Result.andThen_ok]
      simp [binOp, Op.shift, hj, bitShr], .t (.v _)⟩
end
end Go.Pv
namespace Go.Pv
open Go.RowKit

theorem chk_le {lo hi : Int} {n : Nat} {y : Unit} (h : chkM lo hi n = some y) : lo.toNat + (hi.toNat - lo.toNat) ≤ n := by
  unfold chkM at h
  split at h
  · omega
  · cases h
theorem copyAt_length {α : Type} {l r : List α} {lo : Nat} (h : lo + r.length ≤ l.length) : (copyAt l lo r).length = l.length := by
  unfold copyAt; simp; omega
theorem copyAt_get {α : Type} {l r : List α} {lo : Nat} (h : lo + r.length ≤ l.length) (i : Nat) : (copyAt l lo r)[i]? = if i < lo then l[i]? else if i < lo + r.length then r[i - lo]? else l[i]? := by
  unfold copyAt
  by_cases h1 : i < lo
  · rw [if_pos h1, List.append_assoc, List.getElem?_append_left (by rw [List.length_take]; omega), List.getElem?_take, if_pos h1]
  · rw [if_neg h1]
    by_cases h2 : i < lo + r.length
    · rw [if_pos h2, List.append_assoc, List.getElem?_append_right (by rw [List.length_take]; omega), List.length_take, Nat.min_eq_left (by omega), List.getElem?_append_left (by omega)]
    · rw [if_neg h2, List.getElem?_append_right (by rw [List.length_append, List.length_take]; omega), List.length_append, List.length_take, Nat.min_eq_left (by omega), List.getElem?_drop]
      congr 1; omega

section
variable {P : Program} {w0 : World} {L : Lim} {nt : Nat} {tm : List (Nat × T)} {hp : List (Nat × Blk)} {S : Nat → Prop} {E : Nat → Value} {a : Act} {w : World}

theorem Ok.putAt (h : Ok w0 L nt ⟨tm, hp⟩ S E a w) {id e sz n m cap β lo : Nat} {rs r2 : List (List Tree)} {news : List Value} (hb : look hp id = some (.rows e sz n rs)) (hE : E id = .slice (some ⟨β, 0, none⟩) m cap)
    (hlo : lo + r2.length ≤ rs.length) (hnl : news.length = r2.length * sz) (hone : ∀ u ∈ news, u.oneCell' = true) (h2 : ∀ r ∈ r2, r.length = sz)
    (hnr : ∀ i j (hi : i < r2.length) (hj : j < (r2[i]).length) (hb : i * sz + j < news.length), RT w S (news[i * sz + j]) ((r2[i])[j])) :
    ∃ w', (storeCells ⟨β, lo * sz, none⟩ news).run P w = .ok () w' ∧ Ok w0 L nt ⟨tm, hput hp id (.rows e sz n (copyAt rs lo r2))⟩ S E a w' := by
  obtain ⟨hn, hrow⟩ := h.hp id _ hb
  have hcl := copyAt_length hlo
  rcases hrow with ⟨hE', _⟩ | ⟨β', cap', cs, hcm, hE', hh, hcl2, hcc, hsz, hcr⟩
  · rw [hE'] at hE; cases hE
  · rw [hE'] at hE
    have hβ : β' = β := by injection hE with h1; injection h1 with h1; injection h1
    subst hβ
    have hle1 : (lo + r2.length) * sz ≤ cap' * sz := Nat.mul_le_mul_right _ (by omega)
    rw [Nat.add_mul] at hle1
    have hst := run_storeCells_at (P := P) β' (lo * sz) e news 0 cs.toArray w hh (by simp; rw [hnl, hcl2]; exact hle1) hone
    simp only [Nat.add_zero] at hst
    refine ⟨_, hst, h.setRow hb (by rw [hE']; rfl) hh fun hS hnew => ⟨by rw [hcl]; exact hn, .inr ⟨β', cap', cs.take (lo * sz) ++ news ++ cs.drop (lo * sz + news.length), hcm, by rw [hcl]; exact hE', hnew, ?_, by rw [hcl]; exact hcc, ?_, ?_⟩⟩⟩
    · simp only [List.length_append, List.length_take, List.length_drop]; omega
    · intro r hr
      unfold copyAt at hr
      rcases List.mem_append.1 hr with hr | hr
      · rcases List.mem_append.1 hr with hr | hr
        · exact hsz r (List.mem_of_mem_take hr)
        · exact h2 r hr
      · exact hsz r (List.mem_of_mem_drop hr)
    · intro i j hi hj hb'
      have hi2 : i < rs.length := by rw [← hcl]; exact hi
      have hg := copyAt_get hlo i
      rw [List.getElem?_eq_getElem hi] at hg
      have hcat : ∀ k, (cs.take (lo * sz) ++ news ++ cs.drop (lo * sz + news.length))[k]? = if k < lo * sz then cs[k]? else if k < lo * sz + news.length then news[k - lo * sz]? else cs[k]? := fun k => copyAt_get (l := cs) (r := news) (lo := lo * sz) (by omega) k
      by_cases h1 : i < lo
      · rw [if_pos h1, List.getElem?_eq_getElem hi2] at hg
        have eg := Option.some.inj hg
        have hj1 : j < (rs[i]).length := by rw [← eg]; exact hj
        have hjs : j < sz := by rw [← hsz _ (List.getElem_mem hi2)]; exact hj1
        have hlt : i * sz + j < lo * sz := by
          have : (i + 1) * sz ≤ lo * sz := Nat.mul_le_mul_right _ h1
          rw [Nat.succ_mul] at this; omega
        have hb2 : i * sz + j < cs.length := by omega
        have ec : (cs.take (lo * sz) ++ news ++ cs.drop (lo * sz + news.length))[i * sz + j] = cs[i * sz + j] := by
          apply Option.some.inj
          rw [← List.getElem?_eq_getElem, hcat, if_pos hlt, List.getElem?_eq_getElem hb2]
        simp only [eg]
        rw [ec]
        exact (hcr i j hi2 hj1 hb2).mono (fun _ x => x) hS
      · rw [if_neg h1] at hg
        by_cases h3 : i < lo + r2.length
        · rw [if_pos h3, List.getElem?_eq_getElem (by omega)] at hg
          have eg := Option.some.inj hg
          have hj1 : j < (r2[i - lo]'(by omega)).length := by rw [← eg]; exact hj
          have hjs : j < sz := by rw [← h2 _ (List.getElem_mem (by omega : i - lo < r2.length))]; exact hj1
          have e1 : i * sz = lo * sz + (i - lo) * sz := by rw [← Nat.add_mul]; congr 1; omega
          have hlt : (i - lo) * sz + j < news.length := by
            have : (i - lo + 1) * sz ≤ r2.length * sz := Nat.mul_le_mul_right _ (by omega)
            rw [Nat.succ_mul] at this; omega
          have ec : (cs.take (lo * sz) ++ news ++ cs.drop (lo * sz + news.length))[i * sz + j] = news[(i - lo) * sz + j] := by
            apply Option.some.inj
            rw [← List.getElem?_eq_getElem, hcat, if_neg (by omega), if_pos (by omega), ← List.getElem?_eq_getElem hlt]
            congr 1; omega
          simp only [eg]
          rw [ec]
          exact (hnr (i - lo) j (by omega) hj1 hlt).mono (fun _ x => x) hS
        · rw [if_neg h3, List.getElem?_eq_getElem hi2] at hg
          have eg := Option.some.inj hg
          have hj1 : j < (rs[i]).length := by rw [← eg]; exact hj
          have hle : (lo + r2.length) * sz ≤ i * sz := Nat.mul_le_mul_right _ (by omega)
          rw [Nat.add_mul] at hle
          have hjs : j < sz := by rw [← hsz _ (List.getElem_mem hi2)]; exact hj1
          have hb2 : i * sz + j < cs.length := by
            have : (i + 1) * sz ≤ cap' * sz := Nat.mul_le_mul_right _ (by omega)
            rw [Nat.succ_mul] at this; omega
          have ec : (cs.take (lo * sz) ++ news ++ cs.drop (lo * sz + news.length))[i * sz + j] = cs[i * sz + j] := by
            apply Option.some.inj
            rw [← List.getElem?_eq_getElem, hcat, if_neg (by omega), if_neg (by omega), List.getElem?_eq_getElem hb2]
          simp only [eg]
          rw [ec]
          exact (hcr i j hi2 hj1 hb2).mono (fun _ x => x) hS

theorem hput_same {hp : List (Nat × Blk)} {id : Nat} {b : Blk} : ∀ {hp : List (Nat × Blk)}, look hp id = some b → ∀ k, look (hput hp id b) k = look hp k := fun {hp} h k => by
  rw [look_hput]
  by_cases e : id = k
  · subst e; simp [h]
  · simp [e]

theorem Ok.hputSame (h : Ok w0 L nt ⟨tm, hp⟩ S E a w) {id : Nat} {b : Blk} (hb : look hp id = some b) : Ok w0 L nt ⟨tm, hput hp id b⟩ S E a w := { h with
  hp := fun k c hk => h.hp k c (by simp only at hk; rw [hput_same (hp := hp) hb] at hk; exact hk)
  own := fun k c β hk => h.own k c β (by simp only at hk; rw [hput_same (hp := hp) hb] at hk; exact hk)
  dist := fun k k' c c' β hk hk' => h.dist k k' c c' β (by simp only at hk; rw [hput_same (hp := hp) hb] at hk; exact hk) (by simp only at hk'; rw [hput_same (hp := hp) hb] at hk'; exact hk') }
end

section
variable {ρ α : Type} {X : Cx} {ks : List K} {tm tmMin : List (Nat × T)} {hp : List (Nat × Blk)} {m : Option ρ} {Q : ρ → Exit → St → Prop} {all : Array Oper} {o : Oper} {rest : List Oper}

/-- What slicing rows of the call's own gives. -/
theorem view_run {w0 : World} {L : Lim} {nt : Nat} {S : Nat → Prop} {E : Nat → Value} {a : Act} {w : World} {tm0 : List (Nat × T)} (hk : Ok w0 L nt ⟨tm0, hp⟩ S E a w) {tab : Tab} {P : Program} (htab : TabOk P tab) {t e e' n s0 id sz : Nat} {z0 : List Value} {te : TI} {x : Operand} {lo hi : Option Operand} {l : List α} {i j : Int} {enc : α → List Tree}
    (ho : o.op = .slice t x lo hi none) (hx : val tm0 x = some (.own id)) (hb : look hp id = some (.rows e sz n (l.map enc))) (hty : look tab t = some ⟨s0, .slice e', z0⟩) (hte : look tab e' = some te) (hsz : te.size = sz)
    (hlo : optI tm0 0 lo = some i) (hhi : optI tm0 l.length hi = some j) (hc : chkM i j l.length = some ()) :
    ∃ v, (execOp a.eval o).run P w = .ok (.value v) w ∧ RV w S E v (.vw id i.toNat (j.toNat - i.toNat) sz) := by
  unfold chkM at hc
  split at hc <;> try (cases hc; done)
  rename_i hbd0
  obtain ⟨h0, h1, h2⟩ := hbd0
  obtain ⟨q, dd, hi', hs, hu, hdd, _⟩ := htab t _ hty
  simp only [TD.ok] at hdd
  subst hdd
  have hs' := (htab e' _ hte).run_size w
  have hxv : a.eval x = E id := by
    have hv := hk.val hx
    generalize a.eval x = sv at hv
    cases hv with | own _ _ hE => exact hE.symm
  obtain ⟨hn, hrow⟩ := hk.hp id _ hb
  have hn' : n = l.length := by simpa using hn
  subst hn'
  rcases hrow with ⟨hE, hr0⟩ | ⟨β, cap, cs, hcm, hE, hh, hcl, hcc, hszr, hcr⟩
  · have hl0 : l = [] := by simpa using hr0
    subst hl0
    have hj0 : j = 0 := by simp at h2; omega
    have hi0 : i = 0 := by omega
    subst hj0 hi0
    have hbd := run_bounds (P := P) (w := w) (n := 0) (c := 0) (optI_run hk hlo) (optI_run hk hhi) (Int.le_refl 0) (Int.le_refl 0) (Int.le_refl 0)
    have hbd' : (Instr.sliceBounds true 0 0 (lo.map a.eval) (hi.map a.eval) none).run P w = .ok (0, 0, 0) w := hbd
    refine ⟨.slice none 0 0, ?_, .vw id _ _ sz 0 none (.inl rfl)⟩
    simp only [execOp, ho, Instr.sliceAt, Sem.run_bind, run_underlying hu, Result.andThen_ok, Instr.slice, hxv, hE, Option.map_none, hbd', hs', Sem.run_pure]
    rfl
  · have hcc' : l.length ≤ cap := by simpa using hcc
    have hbd := run_bounds (P := P) (w := w) (n := l.length) (c := cap) (optI_run hk hlo) (optI_run hk hhi) h0 h1 (by omega)
    simp only [List.length_map] at hE
    refine ⟨_, by
      simp only [execOp, ho, Instr.sliceAt, Sem.run_bind, run_underlying hu, Result.andThen_ok, Instr.slice, hxv, hE, Option.map_none, hbd, hs', Sem.run_pure]
      rfl, ?_⟩
    refine .vw id _ _ sz _ _ ?_
    by_cases hz : j.toNat - i.toNat = 0
    · exact .inl hz
    · refine .inr ⟨β, _, cap, hE, ?_⟩
      have hne : ¬ cap = i.toNat := by omega
      simp only [hne, if_false, Option.map_some, addr_add, Nat.zero_add, hsz]

theorem TieO.viewO {t e e' d n s0 id sz : Nat} {z0 : List Value} {te : TI} {x : Operand} {lo hi : Option Operand} {l : List α} {i j : Int} {enc : α → List Tree} {k : Unit → Option ρ}
    (ho : o.op = .slice t x lo hi none) (hd : o.dst = some d) (hdn : Nat.blt d X.nt = true) (hg : guardT all.toList tm o.guard = some true) (hx : val tm x = some (.own id)) (hb : look hp id = some (.rows e sz n (l.map enc)))
    (hty : look X.tab t = some ⟨s0, .slice e', z0⟩) (hte : look X.tab e' = some te) (hsz : te.size = sz) (hlo : optI tm 0 lo = some i) (hhi : optI tm l.length hi = some j)
    (h : ∀ y, chkM i j l.length = some y → TieO X all rest ks ⟨(d, .vw id i.toNat (j.toNat - i.toNat) sz) :: tm, hp⟩ (k y) Q) : TieO X all (o :: rest) ks ⟨tm, hp⟩ ((chkM i j l.length).bind k) Q :=
  TieO.one hd hdn hg (fun _ => .vw id i.toNat (j.toNat - i.toNat) sz) (fun y S E a w hm hk => by
    cases y
    exact view_run hk X.htab ho hx hb hty hte hsz hlo hhi hm) h

theorem StepQ.view {t e e' n s0 id sz : Nat} {z0 : List Value} {te : TI} {x : Operand} {lo hi : Option Operand} {l : List α} {i j : Int} {enc : α → List Tree} {y : Unit} (hc : chkM i j l.length = some y)
    (ho : o.op = .slice t x lo hi none) (hg : guardT all.toList tmMin o.guard = some true) (hx : val tmMin x = some (.own id)) (hb : look hp id = some (.rows e sz n (l.map enc)))
    (hty : look X.tab t = some ⟨s0, .slice e', z0⟩) (hte : look X.tab e' = some te) (hsz : te.size = sz) (hlo : optI tmMin 0 lo = some i) (hhi : optI tmMin l.length hi = some j) : StepQ X all o tmMin hp (.vw id i.toNat (j.toNat - i.toNat) sz) :=
  .op1 hg fun tm hm a w S E hk => by
    have lf : ∀ {x : Option Operand} {d i : Int}, optI tmMin d x = some i → optI tm d x = some i := fun {x d i} h => by
      cases x with
      | none => exact h
      | some x =>
        simp only [optI] at h ⊢
        split at h <;> try (cases h; done)
        rename_i hv
        rw [val_more hm hv]; exact h
    exact view_run hk X.htab ho (val_more hm hx) hb hty hte hsz (lf hlo) (lf hhi) hc

/-- What a part of rows of the call's own is as a source. -/
theorem src_vw {w0 : World} {L : Lim} {nt : Nat} {S : Nat → Prop} {E : Nat → Value} {a : Act} {w : World} {tm0 : List (Nat × T)} (hk : Ok w0 L nt ⟨tm0, hp⟩ S E a w) {id e sz n lo q : Nat} {rs : List (List Tree)} {v : Value} (hb : look hp id = some (.rows e sz n rs)) (hv : RV w S E v (.vw id lo q sz)) (hle : lo + q ≤ rs.length)
    (hone : ∀ r ∈ rs, ∀ t ∈ r, oneTree t = true) : Src w S v q sz ((rs.drop lo).take q) := by
  refine ⟨by rw [List.length_take, List.length_drop]; omega, ?_⟩
  cases hv with
  | vw _ _ _ _ c ad h =>
    refine ⟨ad, c, rfl, fun h0 => ?_⟩
    rcases h with h | ⟨β, m, cap, hE, ha⟩
    · omega
    · obtain ⟨hn, hrow⟩ := hk.hp id _ hb
      rcases hrow with ⟨hE', _⟩ | ⟨β', cap', cs, hcm, hE', hh, hcl2, hcc, hsz, hcr⟩
      · rw [hE'] at hE; cases hE
      · rw [hE'] at hE
        have hβ : β' = β := by injection hE with h1; injection h1 with h1; injection h1
        subst hβ
        have hle1 : (lo + q) * sz ≤ cap' * sz := Nat.mul_le_mul_right _ (by omega)
        rw [Nat.add_mul] at hle1
        have hlen : ((cs.drop (lo * sz)).take (q * sz)).length = q * sz := by rw [List.length_take, List.length_drop]; omega
        have cell : ∀ k (hk1 : k < q * sz), ∃ (h1 : lo + k / sz < rs.length) (h2 : k % sz < (rs[lo + k / sz]).length) (h3 : lo * sz + k < cs.length), RT w S (cs[lo * sz + k]) ((rs[lo + k / sz])[k % sz]) := fun k hk1 => by
          have hs0 : 0 < sz := pos_of_mul hk1
          have h1 : k / sz < q := Nat.div_lt_of_lt_mul (by rw [Nat.mul_comm]; exact hk1)
          have h2 : k % sz < (rs[lo + k / sz]'(by omega)).length := by rw [hsz _ (List.getElem_mem _)]; exact Nat.mod_lt _ hs0
          have e1 : (lo + k / sz) * sz + k % sz = lo * sz + k := by have := Nat.div_add_mod k sz; rw [Nat.mul_comm] at this; rw [Nat.add_mul]; omega
          refine ⟨by omega, h2, by omega, ?_⟩
          have := hcr (lo + k / sz) (k % sz) (by omega) h2 (by omega)
          simp only [e1] at this
          exact this
        refine ⟨⟨β', lo * sz, none⟩, (cs.drop (lo * sz)).take (q * sz), ha, hlen, fun j u hu => ?_, fun u hu => ?_, fun i j hi hj hb2 => ?_⟩
        · rw [List.getElem?_take] at hu
          split at hu
          · rw [List.getElem?_drop] at hu
            rw [addr_add, cell_of_row w β' _ _ e _ hh]; simpa using hu
          · cases hu
        · obtain ⟨k, hk1, rfl⟩ := List.mem_iff_getElem.1 hu
          have hk2 : k < q * sz := by rw [hlen] at hk1; exact hk1
          obtain ⟨h1, h2, h3, h4⟩ := cell k hk2
          rw [List.getElem_take, List.getElem_drop]
          exact h4.one (hone _ (List.getElem_mem h1) _ (List.getElem_mem h2))
        · have hi2 : i < q := by rw [List.length_take, List.length_drop] at hi; omega
          have e1 : ((rs.drop lo).take q)[i] = rs[lo + i]'(by omega) := by rw [List.getElem_take, List.getElem_drop]
          have hj1 : j < (rs[lo + i]'(by omega)).length := by rw [← e1]; exact hj
          have e2 : (lo + i) * sz + j = lo * sz + (i * sz + j) := by rw [Nat.add_mul]; omega
          have hlt : lo * sz + (i * sz + j) < cs.length := by rw [hlen] at hb2; omega
          have := hcr (lo + i) j (by omega) hj1 (by rw [e2]; exact hlt)
          simp only [e2] at this
          simp only [e1]
          rw [List.getElem_take, List.getElem_drop]
          exact this

/-- copy within rows of the call's own. -/
theorem TieO.copyV {t t2 e e' n s0 id lo q lo2 q2 : Nat} {z0 : List Value} {te : TI} {s x : Operand} {l : List α} {enc : α → List Tree} {σ₁ : St} {hc hc2 : Prop}
    (h1 : hc) (h2 : hc2) (hle : hc → lo + q ≤ l.length) (hle2 : hc2 → lo2 + q2 ≤ l.length)
    (ho : o.op = .call ⟨.builtin .copy, #[s, x], #[t, t2]⟩) (hg : guardT all.toList tm o.guard = some true)
    (hty : look X.tab t = some ⟨s0, .slice e', z0⟩) (hte : look X.tab e' = some te) (henc : ∀ y, (enc y).length = te.size) (hone : ∀ y, (enc y).all oneTree = true)
    (hs : val tm s = some (.vw id lo q te.size)) (hx : val tm x = some (.vw id lo2 q2 te.size)) (hb : look hp id = some (.rows e te.size n (l.map enc)))
    (hput : putT X.nt o.dst (.t (.v (.int .i64 (min q2 q : Nat)))) ⟨tm, hput hp id (.rows e te.size (copyAt l lo (((l.drop lo2).take q2).take q)).length ((copyAt l lo (((l.drop lo2).take q2).take q)).map enc))⟩ = some σ₁)
    (h : TieO X all rest ks σ₁ m Q) : TieO X all (o :: rest) ks ⟨tm, hp⟩ m Q := fun y hy a w ⟨S, E, hk⟩ => by
  have hle := hle h1
  have hle2 := hle2 h2
  obtain ⟨dd, hu, ho2⟩ : ∃ d, X.P.underlying t = some d ∧ TD.ok X.P (.slice e') d := by
    obtain ⟨i, d, _, _, hu, hdd, _⟩ := X.htab t _ hty
    exact ⟨d, hu, hdd⟩
  simp only [TD.ok] at ho2
  subst ho2
  obtain ⟨i0, d0, hi0, hs0, _⟩ := X.htab e' _ hte
  have hn : n = l.length := by have := (hk.hp id _ hb).1; simpa using this
  subst hn
  have hsrc := src_vw hk hb (hk.val hx) (by simpa using hle2) (all_one hone l)
  obtain ⟨_, ad2, c2, hxe, hsrc⟩ := hsrc
  have hdst := hk.val hs
  have hrl : ((l.drop lo2).take q2).length = q2 := by rw [List.length_take, List.length_drop]; omega
  have e0 : ((l.map enc).drop lo2).take q2 = ((l.drop lo2).take q2).map enc := by simp [List.map_take, List.map_drop]
  have hcl : (copyAt l lo (((l.drop lo2).take q2).take q)).length = l.length := copyAt_length (by rw [List.length_take, hrl]; omega)
  rw [hcl] at hput
  have e1 : (copyAt l lo (((l.drop lo2).take q2).take q)).map enc = copyAt (l.map enc) lo ((((l.drop lo2).take q2).take q).map enc) := by simp [copyAt, List.map_take, List.map_drop]
  rw [e1] at hput
  generalize hse : a.eval s = sv at hdst
  have fin : ∀ w', (Builtin.copy_ #[t, t2] o.type #[sv, .slice ad2 q2 c2]).run X.P w = .ok (.int .i64 (min q2 q : Nat)) w' →
      Ok X.w0 X.L X.nt ⟨tm, Go.Pv.hput hp id (.rows e te.size l.length (copyAt (l.map enc) lo ((((l.drop lo2).take q2).take q).map enc)))⟩ S E a w' → wpList X.P all (after X.P ks (X.post (Q y))) (o :: rest) a w := fun w' hr hok => by
    refine wpList_step fun K hK => ?_
    rw [guardT_ok hk hg, if_pos rfl]
    unfold Oper.wp
    have hexec : (execOp a.eval o).run X.P w = .ok (.value (.int .i64 (min q2 q : Nat))) w' := by
      unfold execOp
      simp only [ho, resolve, invoke, builtin, Sem.run_bind, Sem.run_pure, Result.andThen_ok, List.map_toArray, List.map_cons, List.map_nil, hse, hxe, hr]
    rw [hexec]
    exact hK _ _ (h y hy _ _ ⟨S, E, putT_ok hok (.t (.v _)) hput⟩)
  cases hdst with
  | vw _ _ _ _ c ad hvw =>
    have hmin : Nat.min q2 q = min q2 q := rfl
    by_cases hz : min q2 q = 0
    · -- nothing to copy
      have hf : (Builtin.firstCells i0.size 0 (.slice ad2 q2 c2)).run X.P w = .ok #[] w := by cases ad2 <;> simp [Builtin.firstCells, loadCells, loadCellsFrom]
      have hnil : ((l.drop lo2).take q2).take q = [] := List.eq_nil_of_length_eq_zero (by rw [List.length_take, hrl, Nat.min_comm]; exact hz)
      refine fin w ?_ ?_
      · cases ad <;> simp [Builtin.copy_, run_underlying hu, Builtin.lenOf, sizeOf, typeInfo, hi0, hf, goInt, hmin, hz, storeCells]
      · rw [hnil]
        have : copyAt (l.map enc) lo (List.map enc []) = l.map enc := by simp [copyAt]
        rw [this]
        exact hk.hputSame hb
    · have hq0 : 0 < q2 := by omega
      obtain ⟨ad2', all2, rfl, hal, hac, hon, har⟩ := hsrc hq0
      rcases hvw with hvw | ⟨β, m', cap, hE, rfl⟩
      · omega
      · have hle3 : min q2 q * te.size ≤ q2 * te.size := Nat.mul_le_mul_right _ (Nat.min_le_left _ _)
        have hload : (Builtin.firstCells i0.size (min q2 q) (.slice (some ad2') q2 c2)).run X.P w = .ok (all2.take (min q2 q * te.size)).toArray w := by
          have := run_loadCells_list (P := X.P) w ad2' (all2.take (min q2 q * te.size)) (fun j u hu => by
            rw [List.getElem?_take] at hu
            split at hu
            · exact hac j u hu
            · cases hu)
          rw [List.length_take, hal, Nat.min_eq_left hle3] at this
          simp [Builtin.firstCells, hs0, this]
        have hr2l : ((((l.drop lo2).take q2).take q).map enc).length = min q2 q := by rw [List.length_map, List.length_take, hrl, Nat.min_comm]
        obtain ⟨w', hst, hok⟩ := hk.putAt (P := X.P) (lo := lo) (r2 := (((l.drop lo2).take q2).take q).map enc) (news := all2.take (min q2 q * te.size)) hb hE (by rw [hr2l]; simp; omega) (by rw [List.length_take, hal, hr2l]; exact Nat.min_eq_left hle3) (fun u hu => hon u (List.mem_of_mem_take hu))
          (fun r hr => by obtain ⟨z, _, rfl⟩ := List.mem_map.1 hr; exact henc z)
          (fun i j hi hj hbb => by
            rw [hr2l] at hi
            have hi2 : i < (((l.map enc).drop lo2).take q2).length := by rw [e0, List.length_map, hrl]; omega
            have eg : ((((l.drop lo2).take q2).take q).map enc)[i]'(by rw [hr2l]; exact hi) = (((l.map enc).drop lo2).take q2)[i] := by
              simp [List.getElem_take, List.getElem_drop]
            have hj2 : j < ((((l.map enc).drop lo2).take q2)[i]).length := by rw [← eg]; exact hj
            have hb3 : i * te.size + j < all2.length := by rw [List.length_take] at hbb; omega
            have := har i j hi2 hj2 hb3
            simp only [eg]
            rw [List.getElem_take]
            exact this)
        refine fin w' ?_ hok
        simp [Builtin.copy_, run_underlying hu, Builtin.lenOf, sizeOf, typeInfo, hi0, hmin, hload, goInt, hst]
theorem TieO.clearV {t e e' n s0 id lo q : Nat} {z0 : List Value} {te : TI} {x : Operand} {l : List α} {enc : α → List Tree} {σ₁ : St} {hc : Prop} (z : α)
    (h1 : hc) (hle : hc → lo + q ≤ l.length)
    (ho : o.op = .call ⟨.builtin .clear, #[x], #[t]⟩) (hg : guardT all.toList tm o.guard = some true)
    (hty : look X.tab t = some ⟨s0, .slice e', z0⟩) (hte : look X.tab e' = some te) (hz : te.zero.length = te.size) (hpos : Nat.blt 0 te.size = true) (hones : te.zero.all Value.oneCell' = true) (henc : enc z = te.zero.map fun v => nilTree (.v v))
    (hx : val tm x = some (.vw id lo q te.size)) (hb : look hp id = some (.rows e te.size n (l.map enc)))
    (hput : putT X.nt o.dst (.tup []) ⟨tm, hput hp id (.rows e te.size (copyAt l lo (List.replicate q z)).length ((copyAt l lo (List.replicate q z)).map enc))⟩ = some σ₁)
    (h : TieO X all rest ks σ₁ m Q) : TieO X all (o :: rest) ks ⟨tm, hp⟩ m Q := fun y hy a w ⟨S, E, hk⟩ => by
  have hle := hle h1
  obtain ⟨dd, hu, ho2⟩ : ∃ d, X.P.underlying t = some d ∧ TD.ok X.P (.slice e') d := by
    obtain ⟨i, d, _, _, hu, hdd, _⟩ := X.htab t _ hty
    exact ⟨d, hu, hdd⟩
  simp only [TD.ok] at ho2
  subst ho2
  have hn : n = l.length := by have := (hk.hp id _ hb).1; simpa using this
  subst hn
  have hdst := hk.val hx
  have hcl : (copyAt l lo (List.replicate q z)).length = l.length := copyAt_length (by rw [List.length_replicate]; exact hle)
  rw [hcl] at hput
  have e1 : (copyAt l lo (List.replicate q z)).map enc = copyAt (l.map enc) lo ((List.replicate q z).map enc) := by simp [copyAt, List.map_take, List.map_drop]
  rw [e1] at hput
  generalize hse : a.eval x = sv at hdst
  have fin : ∀ w', (Builtin.clear_ #[t] o.type #[sv]).run X.P w = .ok (.tuple #[]) w' →
      Ok X.w0 X.L X.nt ⟨tm, Go.Pv.hput hp id (.rows e te.size l.length (copyAt (l.map enc) lo ((List.replicate q z).map enc)))⟩ S E a w' → wpList X.P all (after X.P ks (X.post (Q y))) (o :: rest) a w := fun w' hr hok => by
    refine wpList_step fun K hK => ?_
    rw [guardT_ok hk hg, if_pos rfl]
    unfold Oper.wp
    have hexec : (execOp a.eval o).run X.P w = .ok (.value (.tuple #[])) w' := by
      unfold execOp
      simp only [ho, resolve, invoke, builtin, Sem.run_bind, Sem.run_pure, Result.andThen_ok, List.map_toArray, List.map_cons, List.map_nil, hse, hr]
    rw [hexec]
    exact hK _ _ (h y hy _ _ ⟨S, E, putT_ok hok (.tup [] [] rfl fun j h1 => by simp at h1) hput⟩)
  cases hdst with
  | vw _ _ _ _ c ad hvw =>
    by_cases hq : q = 0
    · subst hq
      refine fin w ?_ ?_
      · cases ad <;> simp [Builtin.clear_, run_underlying hu]
      · have : copyAt (l.map enc) lo (List.map enc (List.replicate 0 z)) = l.map enc := by simp [copyAt]
        rw [this]
        exact hk.hputSame hb
    · rcases hvw with hvw | ⟨β, m', cap, hE, rfl⟩
      · exact absurd hvw hq
      · obtain ⟨zv, hzr, hzc⟩ := (X.htab e' _ hte).run_zero w
        have hzl : zv.cells.size = te.size := by rw [← hz, ← hzc]; simp
        have hnews : (Builtin.zeroCells zv.cells q).toList = zeros q te.zero := by
          unfold Builtin.zeroCells
          rw [zeros_eq q zv.cells (by rw [hzl]; exact Nat.lt_of_lt_of_le Nat.zero_lt_one (Nat.le_of_ble_eq_true hpos)), hzc]
        have hlen : (zeros q te.zero).length = q * te.size := by rw [zeros_length, hz]
        have hp0 : 0 < te.zero.length := by rw [hz]; exact Nat.le_of_ble_eq_true hpos
        obtain ⟨w', hst, hok⟩ := hk.putAt (P := X.P) (lo := lo) (r2 := (List.replicate q z).map enc) (news := zeros q te.zero) hb hE (by simp; omega) (by rw [hlen]; simp)
          (fun u hu => by
            obtain ⟨k, hk1, rfl⟩ := List.mem_iff_getElem.1 hu
            have hk2 : k < q * te.zero.length := by rw [zeros_length] at hk1; exact hk1
            have hg := zeros_get te.zero hp0 q k hk2
            rw [List.getElem?_eq_getElem hk1] at hg
            have := List.mem_of_getElem? hg.symm
            exact List.all_eq_true.1 hones _ this)
          (fun r hr => by
            obtain ⟨y, hy, rfl⟩ := List.mem_map.1 hr
            rw [List.eq_of_mem_replicate hy, henc, List.length_map, hz])
          (fun i j hi hj hbb => by
            have hi2 : i < q := by simpa using hi
            have eg : ((List.replicate q z).map enc)[i] = te.zero.map fun v => nilTree (.v v) := by simp [henc]
            have hj2 : j < te.size := by rw [eg, List.length_map, hz] at hj; exact hj
            have hk2 : i * te.size + j < q * te.zero.length := by rw [hz]; rw [hlen] at hbb; exact hbb
            have hg := zeros_get te.zero hp0 q (i * te.size + j) hk2
            rw [List.getElem?_eq_getElem hbb] at hg
            have hmod : (i * te.size + j) % te.zero.length = j := by rw [hz, Nat.mul_comm, Nat.mul_add_mod, Nat.mod_eq_of_lt hj2]
            rw [hmod, List.getElem?_eq_getElem (by rw [hz]; exact hj2)] at hg
            have e2 := Option.some.inj hg
            simp only [eg]
            rw [e2, List.getElem_map]
            exact nilTree_ok (.v _))
        refine fin w' ?_ hok
        obtain ⟨q', rfl⟩ : ∃ k, q = k + 1 := ⟨q - 1, by omega⟩
        simp only [Builtin.clear_, run_underlying hu, Sem.run_bind, Result.andThen_ok, List.getElem?_toArray, List.getElem?_cons_zero, hzr, hnews, hst, Sem.run_pure]
end
section
variable {X : Cx} {ops : Array Oper} {fe fuel : Nat} {le l l' : List Bool} {σ' : St} {o : Oper}
theorem TieA.nilP {d id off : Nat} {x : Operand} {tm : List (Nat × T)} {hp : List (Nat × Blk)} (i : Nat) (l' : List Bool) (ho : ops[i]? = some o) (hl : l.set i true = l') (hop : o.op = .nilCheck x) (hd : o.dst = some d) (hdn : Nat.blt d X.nt = true) (hg : o.guard = none)
    (hs : Region.noSelect ops = true) (hf : Region.free .any ops l.toArray i = true) (hr : (Region.ready .any ops l.toArray).contains i = true) (hx : val tm x = some (.ptr id off)) (h : TieA X ops fe le fuel l' ⟨(d, .ptr id off) :: tm, hp⟩ σ') :
    TieA X ops fe le (fuel + 1) l ⟨tm, hp⟩ σ' := TieA.take1 i l' ho hl hd hdn hg hs hf hr (fun S E a w hk => by
  obtain ⟨β, hpv, hE⟩ := (hk.val hx).ptr_inv
  exact ⟨_, fun w' => by simp [execOp, hop, hpv], .ptr id _ β hE⟩) h
theorem TieA.nilE {d : Nat} {cells : List Tree} {x : Operand} {tm : List (Nat × T)} {hp : List (Nat × Blk)} (i : Nat) (l' : List Bool) (ho : ops[i]? = some o) (hl : l.set i true = l') (hop : o.op = .nilCheck x) (hd : o.dst = some d) (hdn : Nat.blt d X.nt = true) (hg : o.guard = none)
    (hs : Region.noSelect ops = true) (hf : Region.free .any ops l.toArray i = true) (hr : (Region.ready .any ops l.toArray).contains i = true) (hx : val tm x = some (.el cells)) (h : TieA X ops fe le fuel l' ⟨(d, .el cells) :: tm, hp⟩ σ') :
    TieA X ops fe le (fuel + 1) l ⟨tm, hp⟩ σ' := TieA.take1 i l' ho hl hd hdn hg hs hf hr (fun S E a w hk => by
  have hv := hk.val hx
  obtain ⟨b, o', hpv⟩ := hv.el_inv
  exact ⟨.pointer (some ⟨b, o', none⟩), fun w' => by simp [execOp, hop, hpv], by rw [← hpv]; exact hv⟩) h
end
section
variable {ρ : Type} {X : Cx} {ks : List K} {σ : St} {m : Option ρ} {Q : ρ → Exit → St → Prop}
theorem after_goto {P : Program} {Q : Exit → Act → World → Prop} {l : Nat} {a : Act} {w : World} : ∀ (ks : List K), after P ks Q (.goto l) a w → Q (.goto l) a w
  | [], h => h
  | .c _ :: ks, h => after_goto ks h
  | .e _ :: ks, h => after_goto ks h
/-- A scope whose labels nobody goes to. -/
theorem TieS.scope {x : Code} (hQ : ∀ r l σ, ¬ Q r (.goto l) σ) (h : TieS X (.c x :: ks) σ m Q) : TieS X (.c (.scope x) :: ks) σ m Q := fun r hr a w hw => by
  refine wp_scope_straight (wp_mono (h r hr a w hw) ?_)
  intro e a w he
  cases e with
  | goto l => obtain ⟨σ, _, hq⟩ := after_goto ks he; exact hQ r l σ hq
  | _ => exact he
theorem TieS.label {l : Nat} (h : TieS X ks σ m Q) : TieS X (.c (.label l) :: ks) σ m Q := fun r hr a w hw => wp_label (h r hr a w hw)
end
end Go.Pv

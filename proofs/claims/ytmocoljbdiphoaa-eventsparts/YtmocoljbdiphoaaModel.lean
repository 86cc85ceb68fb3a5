/- Types and models, printed by gen.py: plain Lean; nothing of the loaded program stands here. -/
import Derived.Test.YtmocoljbdiphoaaPvXi
namespace Go.Pv
open Go
def enc_u64 (n : Int) : List Tree := [tK .u64 n]
@[ext] structure SEngine where
  Order : List Int
  First : Int
def enc_SEngine (x : SEngine) : List Tree := [tS Pv.encI x.Order, tI x.First]
abbrev A_SEngine (x : SEngine) : T := .agg [.t (tS Pv.encI x.Order), .t (tI x.First)]
@[ext] structure SFire where
  Cylinder : Int
  Spark : Int
  Dwell : Int
  End : Int
  Inject : Int
  Gap : Int
  Extra : Int
def enc_SFire (x : SFire) : List Tree := [tI x.Cylinder, tI x.Spark, tI x.Dwell, tI x.End, tI x.Inject, tI x.Gap, tI x.Extra]
abbrev A_SFire (x : SFire) : T := .agg [.t (tI x.Cylinder), .t (tI x.Spark), .t (tI x.Dwell), .t (tI x.End), .t (tI x.Inject), .t (tI x.Gap), .t (tI x.Extra)]
@[ext] structure SEvent where
  Angle : Int
  Kind : Int
  Cylinder : Int
  Pulse : Int
def enc_SEvent (x : SEvent) : List Tree := [tI x.Angle, tI x.Kind, tI x.Cylinder, tI x.Pulse]
abbrev A_SEvent (x : SEvent) : T := .agg [.t (tI x.Angle), .t (tI x.Kind), .t (tI x.Cylinder), .t (tI x.Pulse)]
/-- magneto/events.angle -/
noncomputable def events_angle (a : Int) : Option Bool :=
  some ((decide (a ≥ 0)) && (decide (a < 46080)))
/-- slices.Index[[]int,int] -/
noncomputable def slices_Index_sint_b1 (s : List Int) (v : Int) (i : Int) (_ : Unit) : Option (Fl Unit Int) :=
  Option.bind (getI s i) fun x => bif (v == x) then (some (.ret i)) else (some (.next ()))
noncomputable def slices_Index_sint (s : List Int) (v : Int) : Option Int :=
  Option.bind (rangeN (s.length : Int) (slices_Index_sint_b1 s v) ()) fun (t : Unit ⊕ Int) => match t with | .inl _ => (some (-1)) | .inr r2 => some r2
/-- slices.Contains[[]int,int] -/
noncomputable def slices_Contains_sint (s : List Int) (v : Int) : Option Bool :=
  Option.bind (slices_Index_sint s v) fun v2 => some (decide (v2 ≥ 0))
/-- magneto/events.Valid -/
noncomputable def events_Valid_b1 (e2 : SEngine) (i : Int) : Option (Int ⊕ (Int ⊕ Bool)) :=
  bif (decide (i ≤ (e2.Order.length : Int))) then (Option.bind (slices_Contains_sint e2.Order i) fun v2 => bif (!v2) then (some (.inr (.inr false))) else (some (.inl (w64 (i + 1))))) else (some (.inr (.inl i)))
noncomputable def events_Valid (e2 : SEngine) : Option Bool :=
  Option.bind (bif ((decide ((e2.Order.length : Int) < 1)) || (decide ((e2.Order.length : Int) > 8))) then (some true) else (Option.bind (events_angle e2.First) fun v => some (!v))) fun b2 => bif b2 then (some false) else (Option.bind (loopM (events_Valid_b1 e2) 1) fun (t : Int ⊕ Bool) => match t with | .inl _ => (some true) | .inr r2 => some r2)
/-- magneto/events.center -/
noncomputable def events_center (e2 : SEngine) (cylinder : Int) : Option (Int × Bool) :=
  Option.bind (slices_Index_sint e2.Order cylinder) fun v => Option.bind (quoM .i64 (w64 ((maxI v 0) * 46080)) (e2.Order.length : Int)) fun q => some (Int.tmod (w64 (e2.First + q)) 46080, decide (v ≥ 0))
/-- magneto/events.Center -/
noncomputable def events_Center (e2 : SEngine) (cylinder : Int) : Option (Int × Int) :=
  Option.bind (events_Valid e2) fun v => bif (!v) then (some (0, 1)) else (Option.bind (events_center e2 cylinder) fun r2 => bif (!r2.2) then (some (0, 7)) else (some (r2.1, 0)))
/-- magneto/events.Pulses -/
noncomputable def events_Pulses (f2 : SFire) : Option Int :=
  bif (f2.Inject == 0) then (some 0) else (bif (f2.Extra == 0) then (some 1) else (some 2))
/-- magneto/events.within -/
noncomputable def events_within (x : Int) (low : Int) (high : Int) : Option Bool :=
  some ((decide (x ≥ low)) && (decide (x ≤ high)))
/-- slices.IndexFunc[[]magneto/api.Fire,magneto/api.Fire] -/
noncomputable def slices_IndexFunc_sFire_b1 (s : List SFire) (f2 : SFire → Option Bool) (i : Int) (_ : Unit) : Option (Fl Unit Int) :=
  Option.bind (getI s i) fun x => Option.bind (f2 x) fun v => bif v then (some (.ret i)) else (some (.next ()))
noncomputable def slices_IndexFunc_sFire (s : List SFire) (f2 : SFire → Option Bool) : Option Int :=
  Option.bind (rangeN (s.length : Int) (slices_IndexFunc_sFire_b1 s f2) ()) fun (t : Unit ⊕ Int) => match t with | .inl _ => (some (-1)) | .inr r2 => some r2
/-- slices.ContainsFunc[[]magneto/api.Fire,magneto/api.Fire] -/
noncomputable def slices_ContainsFunc_sFire (s : List SFire) (f2 : SFire → Option Bool) : Option Bool :=
  Option.bind (slices_IndexFunc_sFire s f2) fun v => some (decide (v ≥ 0))
/-- magneto/events.ValidFire -/
noncomputable def events_ValidFire (e2 : SEngine) (f2 : SFire) : Option Bool :=
  Option.bind (events_Valid e2) fun v => Option.bind (bif (!v) then (some true) else (Option.bind (slices_Contains_sint e2.Order f2.Cylinder) fun v2 => some (!v2))) fun b2 => Option.bind (bif b2 then (some true) else (Option.bind (events_within f2.Spark (-1280) 3840) fun v3 => some (!v3))) fun b3 => Option.bind (bif b3 then (some true) else (Option.bind (events_within f2.Dwell 500 10000) fun v4 => some (!v4))) fun b4 => Option.bind (bif b4 then (some true) else (Option.bind (events_within f2.End 0 23040) fun v5 => some (!v5))) fun b5 => bif b5 then (some false) else (Option.bind (bif (f2.Inject != 0) then (Option.bind (events_within f2.Inject 200 20000) fun v6 => some (!v6)) else (some false)) fun b6 => bif b6 then (some false) else (Option.bind (bif ((f2.Gap == 0) && (f2.Extra == 0)) then (some true) else (Option.bind (bif (f2.Inject != 0) then (Option.bind (events_within f2.Gap 200 20000) fun v7 => some v7) else (some false)) fun b7 => Option.bind (bif b7 then (Option.bind (events_within f2.Extra 200 20000) fun v8 => some v8) else (some false)) fun b8 => some b8)) fun b9 => some b9))
/-- magneto/events.Plan$1 -/
noncomputable def events_Plan_1 (f2 : SFire) (c : SEngine) : Option Bool :=
  Option.bind (events_ValidFire c f2) fun v => some (!v)
/-- magneto/events.Plan$2 -/
noncomputable def events_Plan_2 (g : SFire) (c : SFire) : Option Bool :=
  some (g.Cylinder == c.Cylinder)
/-- magneto/arith.Mod -/
noncomputable def arith_Mod (a : Int) (b2 : Int) : Option Int :=
  bif ((b2 == 0) || (b2 == (-1))) then (some 0) else (Option.bind (remM a b2) fun q => bif ((q != 0) && (!((decide (q < 0)) == (decide (b2 < 0))))) then (some (w64 (q + b2))) else (some q))
/-- magneto/events.Plan$3 -/
noncomputable def events_Plan_3 (v_at : Int) (kind : Int) (pulse : Int) (c : List SEvent) (c2 : SFire) : Option (List SEvent) :=
  Option.bind (Option.bind (arith_Mod v_at 46080) fun v => Option.bind (appendM c ([(⟨v, kind, c2.Cylinder, pulse⟩ : SEvent)] : List SEvent)) fun l => some l) fun (f2 : List SEvent) => some f2
/-- magneto/events.Plan$4 -/
noncomputable def events_Plan_4 (d : Int) (c : Int) : Option Int :=
  Option.bind (quoM .i64 (w64 (d * 23040)) c) fun q => some q
/-- slices.SortFunc[[]magneto/api.Event,magneto/api.Event] -/
noncomputable def slices_SortFunc_sEvent (s : List SEvent) (f : SEvent → SEvent → Option Int) : Option (List SEvent) :=
  sortM f s
/-- cmp.isNaN[int] -/
noncomputable def cmp_isNaN_int (x : Int) : Option Bool :=
  some (x != x)
/-- cmp.Compare[int] -/
noncomputable def cmp_Compare_int (x : Int) (y : Int) : Option Int :=
  Option.bind (cmp_isNaN_int x) fun v => Option.bind (cmp_isNaN_int y) fun v2 => bif v then (bif v2 then (some 0) else (some (-1))) else (bif v2 then (some 1) else (bif (decide (x < y)) then (some (-1)) else (bif (decide (x > y)) then (some 1) else (some 0))))
/-- cmp.Or[int] -/
noncomputable def cmp_Or_int_b1 (_ : Int) (x : Int) (_ : Unit) : Option (Fl Unit Int) :=
  bif (x != 0) then (some (.ret x)) else (some (.next ()))
noncomputable def cmp_Or_int (vals : List Int) : Option Int :=
  Option.bind (rangeM vals (cmp_Or_int_b1) ()) fun (t : Unit ⊕ Int) => match t with | .inl _ => (some 0) | .inr r2 => some r2
/-- magneto/events.order -/
noncomputable def events_order (a : SEvent) (b2 : SEvent) : Option Int :=
  Option.bind (cmp_Compare_int a.Angle b2.Angle) fun v => Option.bind (cmp_Compare_int a.Cylinder b2.Cylinder) fun v2 => Option.bind (cmp_Compare_int a.Kind b2.Kind) fun v3 => Option.bind (cmp_Compare_int a.Pulse b2.Pulse) fun v4 => Option.bind (cmp_Or_int ([v, v2, v3, v4] : List Int)) fun v5 => some v5
/-- magneto/events.Plan -/
noncomputable def events_Plan_b1 (l : List SFire) (i : Int) (_ : Unit) : Option (Fl Unit (List SEvent × Int)) :=
  Option.bind (getI l i) fun x => Option.bind (sliceM l 0 i) fun l2 => Option.bind (slices_ContainsFunc_sFire l2 (fun x0 => events_Plan_2 x0 x)) fun v4 => bif v4 then (some (.ret (([] : List SEvent), 8))) else (some (.next ()))
noncomputable def events_Plan_b2 (e2 : SEngine) (ticks : Int) (_ : Int) (x2 : SFire) (f2 : List SEvent) : Option (Fl (List SEvent) (List SEvent × Int)) :=
  Option.bind (events_center e2 x2.Cylinder) fun r2 => Option.bind (events_Plan_3 (w64 (r2.1 - x2.Spark)) 2 0 f2 x2) fun v5 => Option.bind (events_Plan_4 x2.Dwell ticks) fun v6 => Option.bind (events_Plan_3 (w64 ((w64 (r2.1 - x2.Spark)) - (minI v6 23040))) 1 0 v5 x2) fun v7 => Option.bind (events_Plan_4 x2.Inject ticks) fun v8 => Option.bind (events_Plan_4 x2.Gap ticks) fun v9 => Option.bind (events_Plan_4 x2.Extra ticks) fun v10 => bif (decide ((maxI (maxI v8 v9) v10) > 23040)) then (some (.ret (([] : List SEvent), 2))) else (Option.bind (events_Pulses x2) fun v11 => Option.bind (bif (decide (v11 > 0)) then (Option.bind (events_Plan_3 (w64 (r2.1 - x2.End)) 4 1 v7 x2) fun v12 => Option.bind (events_Plan_4 x2.Inject ticks) fun v13 => Option.bind (events_Plan_3 (w64 ((w64 (r2.1 - x2.End)) - v13)) 3 1 v12 x2) fun v14 => some v14) else (some v7)) fun (f3 : List SEvent) => Option.bind (events_Pulses x2) fun v15 => bif (decide (v15 > 1)) then (Option.bind (events_Plan_4 x2.Gap ticks) fun v16 => Option.bind (events_Plan_3 (w64 ((w64 (r2.1 - x2.End)) + v16)) 3 2 f3 x2) fun v17 => Option.bind (Option.bind (events_Plan_4 x2.Gap ticks) fun v18 => Option.bind (events_Plan_4 x2.Extra ticks) fun v19 => Option.bind (events_Plan_3 (w64 ((w64 ((w64 (r2.1 - x2.End)) + v18)) + v19)) 4 2 v17 x2) fun v20 => some v20) fun (f4 : List SEvent) => some (.next f4)) else (some (.next f3)))
noncomputable def events_Plan (e2 : SEngine) (l : List SFire) (ticks : Int) : Option (List SEvent × Int) :=
  Option.bind (events_Valid e2) fun v => Option.bind (bif (!v) then (some true) else (Option.bind (slices_ContainsFunc_sFire l (fun x0 => events_Plan_1 x0 e2)) fun v2 => some v2)) fun b2 => bif b2 then (some (([] : List SEvent), 1)) else (Option.bind (events_within ticks 4000 1000000) fun v3 => bif (!v3) then (some (([] : List SEvent), 2)) else (Option.bind (rangeN (l.length : Int) (events_Plan_b1 l) ()) fun (t : Unit ⊕ (List SEvent × Int)) => match t with | .inl _ => (Option.bind (rangeM l (events_Plan_b2 e2 ticks) ([] : List SEvent)) fun (t : (List SEvent) ⊕ (List SEvent × Int)) => match t with | .inl f5 => (Option.bind (slices_SortFunc_sEvent f5 events_order) fun v21 => some (v21, 0)) | .inr r3 => some r3) | .inr r4 => some r4))
/-- slices.Equal[[]magneto/api.Event,magneto/api.Event] -/
noncomputable def slices_Equal_sEvent_b1 (s1 : List SEvent) (s2 : List SEvent) (i : Int) (_ : Unit) : Option (Fl Unit Bool) :=
  Option.bind (getI s1 i) fun x => Option.bind (getI s2 i) fun x2 => bif (!((x.Angle == x2.Angle) && ((x.Kind == x2.Kind) && ((x.Cylinder == x2.Cylinder) && ((x.Pulse == x2.Pulse) && true))))) then (some (.ret false)) else (some (.next ()))
noncomputable def slices_Equal_sEvent (s1 : List SEvent) (s2 : List SEvent) : Option Bool :=
  bif ((s1.length : Int) != (s2.length : Int)) then (some false) else (Option.bind (rangeN (s1.length : Int) (slices_Equal_sEvent_b1 s1 s2) ()) fun (t : Unit ⊕ Bool) => match t with | .inl _ => (some true) | .inr r2 => some r2)
/-- magneto/magnetolaw23.four -/
noncomputable def magnetolaw23_four : Option SEngine :=
  some (⟨([1, 3, 4, 2] : List Int), 0⟩ : SEngine)
/-- magneto/magnetolaw23.awake -/
noncomputable def magnetolaw23_awake : Option Bool :=
  Option.bind (magnetolaw23_four) fun v => Option.bind (events_Center v 4) fun r2 => Option.bind (magnetolaw23_four) fun v2 => Option.bind (events_Plan v2 ([(⟨3, 640, 3000, 0, 0, 0, 0⟩ : SFire)] : List SFire) 20000) fun r3 => Option.bind (bif (((r2.2 == 0) && (r2.1 == 23040)) && (r3.2 == 0)) then (Option.bind (slices_Equal_sEvent r3.1 ([(⟨7424, 1, 3, 0⟩ : SEvent), (⟨10880, 2, 3, 0⟩ : SEvent)] : List SEvent)) fun v3 => some v3) else (some false)) fun b2 => some b2
/-- magneto/magnetoref23.Angle -/
noncomputable def magnetoref23_Angle (a : Int) : Option Bool :=
  some ((decide (a ≥ 0)) && (decide (a < 46080)))
/-- magneto/magnetoref23.Valid -/
noncomputable def magnetoref23_Valid_b2 (e2 : SEngine) (i : Int) (x : Int) (k : Int) : Option (Int ⊕ (Int ⊕ Bool)) :=
  bif (decide (k < i)) then (Option.bind (getI e2.Order k) fun x2 => bif (x2 == x) then (some (.inr (.inr false))) else (some (.inl (w64 (k + 1))))) else (some (.inr (.inl k)))
noncomputable def magnetoref23_Valid_b1 (e2 : SEngine) (i : Int) : Option (Int ⊕ (Int ⊕ Bool)) :=
  bif (decide (i < (e2.Order.length : Int))) then (Option.bind (getI e2.Order i) fun x => Option.bind (bif (decide (x < 1)) then (some true) else (some (decide (x > (e2.Order.length : Int))))) fun b3 => bif b3 then (some (.inr (.inr false))) else (Option.bind (loopM (magnetoref23_Valid_b2 e2 i x) 0) fun (t : Int ⊕ Bool) => match t with | .inl _ => (some (.inl (w64 (i + 1)))) | .inr r2 => some (.inr (.inr r2)))) else (some (.inr (.inl i)))
noncomputable def magnetoref23_Valid (e2 : SEngine) : Option Bool :=
  Option.bind (bif ((decide ((e2.Order.length : Int) < 1)) || (decide ((e2.Order.length : Int) > 8))) then (some true) else (Option.bind (magnetoref23_Angle e2.First) fun v => some (!v))) fun b2 => bif b2 then (some false) else (Option.bind (loopM (magnetoref23_Valid_b1 e2) 0) fun (t : Int ⊕ Bool) => match t with | .inl _ => (some true) | .inr r3 => some r3)
/-- magneto/magnetoref23.Place -/
noncomputable def magnetoref23_Place_b1 (e2 : SEngine) (cylinder : Int) (i : Int) : Option (Int ⊕ (Int ⊕ Int)) :=
  bif (decide (i < (e2.Order.length : Int))) then (Option.bind (getI e2.Order i) fun x => bif (x == cylinder) then (some (.inr (.inr i))) else (some (.inl (w64 (i + 1))))) else (some (.inr (.inl i)))
noncomputable def magnetoref23_Place (e2 : SEngine) (cylinder : Int) : Option Int :=
  Option.bind (loopM (magnetoref23_Place_b1 e2 cylinder) 0) fun (t : Int ⊕ Int) => match t with | .inl _ => (some (-1)) | .inr r2 => some r2
/-- magneto/magnetoref23.pulse -/
noncomputable def magnetoref23_pulse (n2 : Int) : Option Bool :=
  some ((decide (n2 ≥ 200)) && (decide (n2 ≤ 20000)))
/-- magneto/magnetoref23.Fire -/
noncomputable def magnetoref23_Fire (e2 : SEngine) (f2 : SFire) : Option Bool :=
  Option.bind (magnetoref23_Place e2 f2.Cylinder) fun v => bif (((((((decide (v < 0)) || (decide (f2.Spark < (-1280)))) || (decide (f2.Spark > 3840))) || (decide (f2.Dwell < 500))) || (decide (f2.Dwell > 10000))) || (decide (f2.End < 0))) || (decide (f2.End > 23040))) then (some false) else (Option.bind (bif (f2.Inject != 0) then (Option.bind (magnetoref23_pulse f2.Inject) fun v2 => some (!v2)) else (some false)) fun b2 => bif b2 then (some false) else (bif ((f2.Gap == 0) && (f2.Extra == 0)) then (some true) else (Option.bind (bif (f2.Inject != 0) then (Option.bind (magnetoref23_pulse f2.Gap) fun v3 => some v3) else (some false)) fun b3 => Option.bind (bif b3 then (Option.bind (magnetoref23_pulse f2.Extra) fun v4 => some v4) else (some false)) fun b4 => some b4)))
/-- magneto/magnetoref23.Pulses -/
noncomputable def magnetoref23_Pulses (f2 : SFire) : Option Int :=
  bif (f2.Inject == 0) then (some 0) else (bif (f2.Extra == 0) then (some 1) else (some 2))
/-- magneto/magnetolaw23.EventsValid -/
noncomputable def magnetolaw23_EventsValid (e2 : SEngine) (f2 : SFire) : Option Bool :=
  Option.bind (magnetolaw23_awake) fun v => bif (!v) then (some false) else (Option.bind (magnetoref23_Valid e2) fun v2 => Option.bind (events_Valid e2) fun v3 => bif (v3 == v2) then (Option.bind (events_ValidFire e2 f2) fun v4 => bif v2 then (Option.bind (magnetoref23_Fire e2 f2) fun v5 => bif (v4 == v5) then (Option.bind (events_Pulses f2) fun v6 => Option.bind (magnetoref23_Pulses f2) fun v7 => some (v6 == v7)) else (some false)) else (bif (v4 == false) then (Option.bind (events_Pulses f2) fun v8 => Option.bind (magnetoref23_Pulses f2) fun v9 => some (v8 == v9)) else (some false))) else (some false))
/-- magneto/magnetoref23.Center -/
noncomputable def magnetoref23_Center (e2 : SEngine) (cylinder : Int) : Option Int :=
  Option.bind (magnetoref23_Place e2 cylinder) fun v => Option.bind (quoM .i64 (w64 (v * 46080)) (e2.Order.length : Int)) fun q => some (Int.tmod (w64 (e2.First + q)) 46080)
/-- magneto/magnetolaw23.EventsCenters -/
noncomputable def magnetolaw23_EventsCenters (e2 : SEngine) (cylinder : Int) : Option Bool :=
  Option.bind (magnetolaw23_awake) fun v => bif (!v) then (some false) else (Option.bind (events_Center e2 cylinder) fun r2 => Option.bind (magnetoref23_Valid e2) fun v2 => bif (!v2) then (some ((r2.2 == 1) && (r2.1 == 0))) else (Option.bind (magnetoref23_Place e2 cylinder) fun v3 => bif (decide (v3 < 0)) then (some ((r2.2 == 7) && (r2.1 == 0))) else (Option.bind (bif (r2.2 == 0) then (Option.bind (magnetoref23_Center e2 cylinder) fun v4 => some (r2.1 == v4)) else (some false)) fun b2 => some b2)))
/-- magneto/magnetoref23.Turn -/
noncomputable def magnetoref23_Turn (d : Int) (ticks : Int) : Option Int :=
  Option.bind (quoM .i64 (w64 (d * 23040)) ticks) fun q => some q
/-- magneto/magnetoref23.around -/
noncomputable def magnetoref23_around (a : Int) : Option Int :=
  some (Int.tmod (w64 ((Int.tmod a 46080) + 46080)) 46080)
/-- magneto/magnetoref23.Events -/
noncomputable def magnetoref23_Events (e2 : SEngine) (f2 : SFire) (ticks : Int) : Option (List SEvent) :=
  Option.bind (magnetoref23_Center e2 f2.Cylinder) fun v => Option.bind (magnetoref23_Turn f2.Dwell ticks) fun v2 => Option.bind (bif (decide (v2 > 23040)) then (some 23040) else (some v2)) fun (dwell : Int) => Option.bind (magnetoref23_around (w64 ((w64 (v - f2.Spark)) - dwell))) fun v3 => Option.bind (magnetoref23_around (w64 (v - f2.Spark))) fun v4 => Option.bind (magnetoref23_Pulses f2) fun v5 => bif (v5 == 0) then (some ([(⟨v3, 1, f2.Cylinder, 0⟩ : SEvent), (⟨v4, 2, f2.Cylinder, 0⟩ : SEvent)] : List SEvent)) else (Option.bind (Option.bind (magnetoref23_Turn f2.Inject ticks) fun v6 => Option.bind (magnetoref23_around (w64 ((w64 (v - f2.End)) - v6))) fun v7 => Option.bind (appendM ([(⟨v3, 1, f2.Cylinder, 0⟩ : SEvent), (⟨v4, 2, f2.Cylinder, 0⟩ : SEvent)] : List SEvent) ([(⟨v7, 3, f2.Cylinder, 1⟩ : SEvent)] : List SEvent)) fun l => some l) fun (f3 : List SEvent) => Option.bind (Option.bind (magnetoref23_around (w64 (v - f2.End))) fun v8 => Option.bind (appendM f3 ([(⟨v8, 4, f2.Cylinder, 1⟩ : SEvent)] : List SEvent)) fun l2 => some l2) fun (f4 : List SEvent) => Option.bind (magnetoref23_Pulses f2) fun v9 => bif (v9 == 1) then (some f4) else (Option.bind (magnetoref23_Turn f2.Gap ticks) fun v10 => Option.bind (Option.bind (magnetoref23_around (w64 ((w64 (v - f2.End)) + v10))) fun v11 => Option.bind (appendM f4 ([(⟨v11, 3, f2.Cylinder, 2⟩ : SEvent)] : List SEvent)) fun l3 => some l3) fun (f5 : List SEvent) => Option.bind (Option.bind (magnetoref23_Turn f2.Extra ticks) fun v12 => Option.bind (magnetoref23_around (w64 ((w64 ((w64 (v - f2.End)) + v10)) + v12))) fun v13 => Option.bind (appendM f5 ([(⟨v13, 4, f2.Cylinder, 2⟩ : SEvent)] : List SEvent)) fun l4 => some l4) fun (v14 : List SEvent) => some v14))
/-- magneto/magnetoref23.before -/
noncomputable def magnetoref23_before (a : SEvent) (b2 : SEvent) : Option Bool :=
  bif (a.Angle != b2.Angle) then (some (decide (a.Angle < b2.Angle))) else (bif (a.Cylinder != b2.Cylinder) then (some (decide (a.Cylinder < b2.Cylinder))) else (bif (a.Kind != b2.Kind) then (some (decide (a.Kind < b2.Kind))) else (some (decide (a.Pulse < b2.Pulse)))))
/-- magneto/magnetoref23.insert -/
noncomputable def magnetoref23_insert_b1 (l : List SEvent) (x : SEvent) (i : Int) : Option (Int ⊕ (Int ⊕ Empty)) :=
  Option.bind (bif (decide (i > 0)) then (Option.bind (getI l (w64 (i - 1))) fun x2 => Option.bind (magnetoref23_before x x2) fun v => some v) else (some false)) fun (v2 : Bool) => bif v2 then (some (.inl (w64 (i - 1)))) else (some (.inr (.inl i)))
noncomputable def magnetoref23_insert (l : List SEvent) (x : SEvent) : Option (List SEvent) :=
  Option.bind (loopM (magnetoref23_insert_b1 l x) (l.length : Int)) fun (t : Int ⊕ Empty) => match t with | .inl i2 => (Option.bind (sliceM l 0 i2) fun l2 => Option.bind (appendM ([] : List SEvent) l2) fun l3 => Option.bind (appendM l3 ([x] : List SEvent)) fun l4 => Option.bind (sliceM l i2 (l.length : Int)) fun l5 => Option.bind (appendM l4 l5) fun l6 => some l6) | .inr r => r.elim
/-- magneto/magnetoref23.Plan -/
noncomputable def magnetoref23_Plan_b1 (e2 : SEngine) (l : List SFire) (i : Int) : Option (Int ⊕ (Int ⊕ (List SEvent × Int))) :=
  bif (decide (i < (l.length : Int))) then (Option.bind (getI l i) fun x => Option.bind (magnetoref23_Fire e2 x) fun v => bif (!v) then (some (.inr (.inr (([] : List SEvent), 1)))) else (some (.inl (w64 (i + 1))))) else (some (.inr (.inl i)))
noncomputable def magnetoref23_Plan_b3 (l : List SFire) (i3 : Int) (k : Int) : Option (Int ⊕ (Int ⊕ (List SEvent × Int))) :=
  bif (decide (k < i3)) then (Option.bind (getI l i3) fun x2 => Option.bind (getI l k) fun x3 => bif (x2.Cylinder == x3.Cylinder) then (some (.inr (.inr (([] : List SEvent), 8)))) else (some (.inl (w64 (k + 1))))) else (some (.inr (.inl k)))
noncomputable def magnetoref23_Plan_b2 (l : List SFire) (i3 : Int) : Option (Int ⊕ (Int ⊕ (List SEvent × Int))) :=
  bif (decide (i3 < (l.length : Int))) then (Option.bind (loopM (magnetoref23_Plan_b3 l i3) 0) fun (t : Int ⊕ (List SEvent × Int)) => match t with | .inl _ => (some (.inl (w64 (i3 + 1)))) | .inr r2 => some (.inr (.inr r2))) else (some (.inr (.inl i3)))
noncomputable def magnetoref23_Plan_b5 (v5 : List SEvent) (s2 : List SEvent × Int) : Option ((List SEvent × Int) ⊕ ((List SEvent × Int) ⊕ Empty)) :=
  bif (decide (s2.2 < (v5.length : Int))) then (Option.bind (getI v5 s2.2) fun x5 => Option.bind (magnetoref23_insert s2.1 x5) fun v6 => some (.inl (v6, w64 (s2.2 + 1)))) else (some (.inr (.inl (s2.1, s2.2))))
noncomputable def magnetoref23_Plan_b4 (e2 : SEngine) (l : List SFire) (ticks : Int) (s : List SEvent × Int) : Option ((List SEvent × Int) ⊕ ((List SEvent × Int) ⊕ (List SEvent × Int))) :=
  bif (decide (s.2 < (l.length : Int))) then (Option.bind (getI l s.2) fun x4 => Option.bind (magnetoref23_Turn x4.Inject ticks) fun v2 => Option.bind (bif (decide (v2 > 23040)) then (some true) else (Option.bind (magnetoref23_Turn x4.Gap ticks) fun v3 => some (decide (v3 > 23040)))) fun b2 => Option.bind (bif b2 then (some true) else (Option.bind (magnetoref23_Turn x4.Extra ticks) fun v4 => some (decide (v4 > 23040)))) fun b3 => bif b3 then (some (.inr (.inr (([] : List SEvent), 2)))) else (Option.bind (magnetoref23_Events e2 x4 ticks) fun v5 => Option.bind (loopM (magnetoref23_Plan_b5 v5) (s.1, 0)) fun (t : (List SEvent × Int) ⊕ Empty) => match t with | .inl s3 => (some (.inl (s3.1, w64 (s.2 + 1)))) | .inr r => r.elim)) else (some (.inr (.inl (s.1, s.2))))
noncomputable def magnetoref23_Plan (e2 : SEngine) (l : List SFire) (ticks : Int) : Option (List SEvent × Int) :=
  Option.bind (loopM (magnetoref23_Plan_b1 e2 l) 0) fun (t : Int ⊕ (List SEvent × Int)) => match t with | .inl _ => (bif ((decide (ticks < 4000)) || (decide (ticks > 1000000))) then (some (([] : List SEvent), 2)) else (Option.bind (loopM (magnetoref23_Plan_b2 l) 0) fun (t : Int ⊕ (List SEvent × Int)) => match t with | .inl _ => (Option.bind (loopM (magnetoref23_Plan_b4 e2 l ticks) (([] : List SEvent), 0)) fun (t : (List SEvent × Int) ⊕ (List SEvent × Int)) => match t with | .inl s4 => (some (s4.1, 0)) | .inr r3 => some r3) | .inr r4 => some r4)) | .inr r5 => some r5
/-- magneto/magnetolaw23.EventsPlans -/
noncomputable def magnetolaw23_EventsPlans (e2 : SEngine) (l : List SFire) (ticks : Int) : Option Bool :=
  Option.bind (magnetolaw23_awake) fun v => bif (!v) then (some false) else (bif (decide ((l.length : Int) > 20)) then (some true) else (Option.bind (events_Plan e2 l ticks) fun r2 => Option.bind (magnetoref23_Valid e2) fun v2 => bif (!v2) then (some ((r2.2 == 1) && ((r2.1.length : Int) == 0))) else (Option.bind (magnetoref23_Plan e2 l ticks) fun r3 => Option.bind (bif (r2.2 == r3.2) then (Option.bind (slices_Equal_sEvent r2.1 r3.1) fun v3 => some v3) else (some false)) fun b2 => some b2)))
/-- slices.Index[[]magneto/api.Event,magneto/api.Event] -/
noncomputable def slices_Index_sEvent_b1 (s : List SEvent) (v : SEvent) (i : Int) (_ : Unit) : Option (Fl Unit Int) :=
  Option.bind (getI s i) fun x => bif ((v.Angle == x.Angle) && ((v.Kind == x.Kind) && ((v.Cylinder == x.Cylinder) && ((v.Pulse == x.Pulse) && true)))) then (some (.ret i)) else (some (.next ()))
noncomputable def slices_Index_sEvent (s : List SEvent) (v : SEvent) : Option Int :=
  Option.bind (rangeN (s.length : Int) (slices_Index_sEvent_b1 s v) ()) fun (t : Unit ⊕ Int) => match t with | .inl _ => (some (-1)) | .inr r2 => some r2
/-- slices.Contains[[]magneto/api.Event,magneto/api.Event] -/
noncomputable def slices_Contains_sEvent (s : List SEvent) (v : SEvent) : Option Bool :=
  Option.bind (slices_Index_sEvent s v) fun v2 => some (decide (v2 ≥ 0))
/-- magneto/magnetolaw23.EventsTurned -/
noncomputable def magnetolaw23_EventsTurned_b1 (v_by : Int) (r3 : List SEvent × Int) (_ : Int) (x : SEvent) (_ : Unit) : Option (Fl Unit Bool) :=
  Option.bind (slices_Contains_sEvent r3.1 (⟨Int.tmod (w64 (x.Angle + v_by)) 46080, x.Kind, x.Cylinder, x.Pulse⟩ : SEvent)) fun v2 => bif (!v2) then (some (.ret false)) else (some (.next ()))
noncomputable def magnetolaw23_EventsTurned (e2 : SEngine) (l : List SFire) (ticks : Int) (v_by : Int) : Option Bool :=
  Option.bind (magnetolaw23_awake) fun v => bif (!v) then (some false) else (bif (((((decide ((l.length : Int) > 20)) || (decide (v_by < 0))) || (decide (v_by ≥ 46080))) || (decide (e2.First < 0))) || (decide (e2.First ≥ 46080))) then (some true) else (Option.bind (events_Plan e2 l ticks) fun r2 => Option.bind (events_Plan (⟨e2.Order, Int.tmod (w64 (e2.First + v_by)) 46080⟩ : SEngine) l ticks) fun r3 => bif ((r2.2 != r3.2) || ((r2.1.length : Int) != (r3.1.length : Int))) then (some false) else (Option.bind (rangeM r2.1 (magnetolaw23_EventsTurned_b1 v_by r3) ()) fun (t : Unit ⊕ Bool) => match t with | .inl _ => (some true) | .inr r4 => some r4)))
/-- magneto/events.Distance -/
noncomputable def events_Distance (v_from : Int) (v_to : Int) : Option Int :=
  Option.bind (events_angle v_from) fun v => Option.bind (bif (!v) then (some true) else (Option.bind (events_angle v_to) fun v2 => some (!v2))) fun b2 => bif b2 then (some (-1)) else (Option.bind (arith_Mod (w64 (v_to - v_from)) 46080) fun v3 => some v3)
/-- magneto/magnetolaw23.EventsSpread -/
noncomputable def magnetolaw23_EventsSpread_b1 (e2 : SEngine) (i : Int) (sum : Int) : Option (Fl Int Bool) :=
  Option.bind (getI e2.Order i) fun x => Option.bind (events_Center e2 x) fun r2 => Option.bind (Option.bind (remM (w64 (i + 1)) (e2.Order.length : Int)) fun q => Option.bind (getI e2.Order q) fun x2 => Option.bind (events_Center e2 x2) fun r3 => some (r3.1, r3.2)) fun (s : Int × Int) => Option.bind (events_Distance r2.1 s.1) fun v3 => Option.bind (bif ((e2.Order.length : Int) == 1) then (some 46080) else (some v3)) fun (d : Int) => Option.bind (bif ((r2.2 != 0) || (s.2 != 0)) then (some true) else (Option.bind (quoM .i64 46080 (e2.Order.length : Int)) fun q2 => some (decide (d < q2)))) fun b2 => Option.bind (bif b2 then (some true) else (Option.bind (quoM .i64 46080 (e2.Order.length : Int)) fun q3 => some (decide (d > (w64 (q3 + 1)))))) fun b3 => bif b3 then (some (.ret false)) else (some (.next (w64 (sum + d))))
noncomputable def magnetolaw23_EventsSpread (e2 : SEngine) : Option Bool :=
  Option.bind (magnetolaw23_awake) fun v => bif (!v) then (some false) else (Option.bind (events_Valid e2) fun v2 => bif (!v2) then (some true) else (bif ((e2.Order.length : Int) == 0) then (some false) else (Option.bind (rangeN (e2.Order.length : Int) (magnetolaw23_EventsSpread_b1 e2) 0) fun (t : Int ⊕ Bool) => match t with | .inl sum2 => (some (sum2 == 46080)) | .inr r4 => some r4)))
/-- slices.IsSortedFunc[[]magneto/api.Event,magneto/api.Event] -/
noncomputable def slices_IsSortedFunc_sEvent_b1 (x : List SEvent) (cmp : SEvent → SEvent → Option Int) (i : Int) : Option (Int ⊕ (Int ⊕ Bool)) :=
  bif (decide (i > 0)) then (Option.bind (getI x i) fun x2 => Option.bind (getI x (w64 (i - 1))) fun x3 => Option.bind (cmp x2 x3) fun v => bif (decide (v < 0)) then (some (.inr (.inr false))) else (some (.inl (w64 (i - 1))))) else (some (.inr (.inl i)))
noncomputable def slices_IsSortedFunc_sEvent (x : List SEvent) (cmp : SEvent → SEvent → Option Int) : Option Bool :=
  Option.bind (loopM (slices_IsSortedFunc_sEvent_b1 x cmp) (w64 ((x.length : Int) - 1))) fun (t : Int ⊕ Bool) => match t with | .inl _ => (some true) | .inr r2 => some r2
/-- magneto/magnetolaw23.EventsPairs$1 -/
noncomputable def magnetolaw23_EventsPairs_1 (a : SEvent) (b2 : SEvent) : Option Int :=
  some (w64 (a.Angle - b2.Angle))
/-- magneto/magnetolaw23.EventsPairs$2 -/
noncomputable def magnetolaw23_EventsPairs_2_b1 (kind : Int) (cylinder : Int) (pulse : Int) (_ : Int) (x : SEvent) (s : Int × Int) : Option (Fl (Int × Int) Empty) :=
  bif (((x.Kind == kind) && (x.Cylinder == cylinder)) && (x.Pulse == pulse)) then (some (.next (x.Angle, w64 (s.2 + 1)))) else (some (.next (s.1, s.2)))
noncomputable def magnetolaw23_EventsPairs_2 (kind : Int) (cylinder : Int) (pulse : Int) (c : List SEvent) : Option (Int × Bool) :=
  Option.bind (rangeM c (magnetolaw23_EventsPairs_2_b1 kind cylinder pulse) (0, 0)) fun (t : (Int × Int) ⊕ Empty) => match t with | .inl s2 => (some (s2.1, (s2.2 == 1))) | .inr r => r.elim
/-- magneto/magnetolaw23.EventsPairs -/
noncomputable def magnetolaw23_EventsPairs_b2 (ticks : Int) (r2 : List SEvent × Int) (x : SFire) (r3 : Int × Int) (pulse : Int) : Option (Int ⊕ (Int ⊕ Bool)) :=
  Option.bind (events_Pulses x) fun v6 => bif (decide (pulse ≤ v6)) then (Option.bind (magnetolaw23_EventsPairs_2 3 x.Cylinder pulse r2.1) fun r6 => Option.bind (magnetolaw23_EventsPairs_2 4 x.Cylinder pulse r2.1) fun r7 => Option.bind (bif (pulse == 2) then (some x.Extra) else (some x.Inject)) fun (length : Int) => Option.bind (bif (!r6.2) then (some true) else (bif (!r7.2) then (some true) else (bif (decide (length > 20000)) then (some true) else (Option.bind (events_Distance r6.1 r7.1) fun v7 => Option.bind (quoM .i64 (w64 (length * 23040)) ticks) fun q2 => bif (v7 != q2) then (some true) else (Option.bind (events_Distance r6.1 r7.1) fun v8 => bif (decide (v8 > 23040)) then (some true) else (bif (pulse == 1) then (some ((Int.tmod (w64 ((w64 (r7.1 + x.End)) - r3.1)) 46080) != 0)) else (some false))))))) fun (v9 : Bool) => bif v9 then (some (.inr (.inr false))) else (some (.inl (w64 (pulse + 1))))) else (some (.inr (.inl pulse)))
noncomputable def magnetolaw23_EventsPairs_b1 (e2 : SEngine) (ticks : Int) (r2 : List SEvent × Int) (_ : Int) (x : SFire) (many : Int) : Option (Fl Int Bool) :=
  Option.bind (events_Center e2 x.Cylinder) fun r3 => Option.bind (magnetolaw23_EventsPairs_2 1 x.Cylinder 0 r2.1) fun r4 => Option.bind (magnetolaw23_EventsPairs_2 2 x.Cylinder 0 r2.1) fun r5 => Option.bind (bif (r3.2 != 0) then (some true) else (bif (!r4.2) then (some true) else (bif (!r5.2) then (some true) else (bif (decide (x.Dwell < 0)) then (some true) else (bif (decide (x.Dwell > 10000)) then (some true) else (Option.bind (events_Distance r4.1 r5.1) fun v3 => Option.bind (quoM .i64 (w64 (x.Dwell * 23040)) ticks) fun q => bif (v3 != (minI q 23040)) then (some true) else (some ((Int.tmod (w64 ((w64 (r5.1 + x.Spark)) - r3.1)) 46080) != 0)))))))) fun (v4 : Bool) => bif v4 then (some (.ret false)) else (Option.bind (events_Pulses x) fun v5 => Option.bind (loopM (magnetolaw23_EventsPairs_b2 ticks r2 x r3) 1) fun (t : Int ⊕ Bool) => match t with | .inl _ => (some (.next (w64 (many + (w64 (2 + (w64 (2 * v5)))))))) | .inr r8 => some (.ret r8))
noncomputable def magnetolaw23_EventsPairs (e2 : SEngine) (l : List SFire) (ticks : Int) : Option Bool :=
  Option.bind (magnetolaw23_awake) fun v => bif (!v) then (some false) else (bif (decide ((l.length : Int) > 20)) then (some true) else (Option.bind (events_Plan e2 l ticks) fun r2 => bif (r2.2 != 0) then (some ((r2.1.length : Int) == 0)) else (Option.bind (bif ((decide (ticks < 4000)) || (decide (ticks > 1000000))) then (some true) else (Option.bind (slices_IsSortedFunc_sEvent r2.1 magnetolaw23_EventsPairs_1) fun v2 => some (!v2))) fun b2 => bif b2 then (some false) else (Option.bind (rangeM l (magnetolaw23_EventsPairs_b1 e2 ticks r2) 0) fun (t : Int ⊕ Bool) => match t with | .inl many2 => (some ((r2.1.length : Int) == many2)) | .inr r9 => some r9))))
/-- magneto/events.Due$1 -/
noncomputable def events_Due_1 (x : SEvent) : Option Bool :=
  Option.bind (events_angle x.Angle) fun v => Option.bind (bif (!v) then (some true) else (Option.bind (events_within x.Kind 1 4) fun v2 => some (!v2))) fun b2 => Option.bind (bif b2 then (some true) else (Option.bind (events_within x.Cylinder 1 8) fun v3 => some (!v3))) fun b3 => Option.bind (bif b3 then (some true) else (Option.bind (events_within x.Pulse 0 2) fun v4 => some (!v4))) fun b4 => some b4
/-- slices.IndexFunc[[]magneto/api.Event,magneto/api.Event] -/
noncomputable def slices_IndexFunc_sEvent_b1 (s : List SEvent) (f2 : SEvent → Option Bool) (i : Int) (_ : Unit) : Option (Fl Unit Int) :=
  Option.bind (getI s i) fun x => Option.bind (f2 x) fun v => bif v then (some (.ret i)) else (some (.next ()))
noncomputable def slices_IndexFunc_sEvent (s : List SEvent) (f2 : SEvent → Option Bool) : Option Int :=
  Option.bind (rangeN (s.length : Int) (slices_IndexFunc_sEvent_b1 s f2) ()) fun (t : Unit ⊕ Int) => match t with | .inl _ => (some (-1)) | .inr r2 => some r2
/-- slices.ContainsFunc[[]magneto/api.Event,magneto/api.Event] -/
noncomputable def slices_ContainsFunc_sEvent (s : List SEvent) (f2 : SEvent → Option Bool) : Option Bool :=
  Option.bind (slices_IndexFunc_sEvent s f2) fun v => some (decide (v ≥ 0))
/-- slices.insertionSortCmpFunc[int] -/
noncomputable def slices_insertionSortCmpFunc_int_b2 (a : Int) (cmp : Int → Int → Option Int) (s2 : Int × List Int) : Option ((Int × List Int) ⊕ ((Int × List Int) ⊕ Empty)) :=
  Option.bind (bif (decide (s2.1 > a)) then (Option.bind (getI s2.2 s2.1) fun x => Option.bind (getI s2.2 (w64 (s2.1 - 1))) fun x2 => Option.bind (cmp x x2) fun v => some (decide (v < 0))) else (some false)) fun (v2 : Bool) => bif v2 then (Option.bind (Option.bind (getI s2.2 (w64 (s2.1 - 1))) fun x3 => Option.bind (getI s2.2 s2.1) fun x4 => Option.bind (setM s2.2 s2.1 x3) fun l => Option.bind (getI l (w64 (s2.1 - 1))) fun _ => Option.bind (setM l (w64 (s2.1 - 1)) x4) fun l2 => some l2) fun (f2 : List Int) => some (.inl (w64 (s2.1 - 1), f2))) else (some (.inr (.inl (s2.1, s2.2))))
noncomputable def slices_insertionSortCmpFunc_int_b1 (a : Int) (b2 : Int) (cmp : Int → Int → Option Int) (s : Int × List Int) : Option ((Int × List Int) ⊕ ((Int × List Int) ⊕ Empty)) :=
  bif (decide (s.1 < b2)) then (Option.bind (loopM (slices_insertionSortCmpFunc_int_b2 a cmp) (s.1, s.2)) fun (t : (Int × List Int) ⊕ Empty) => match t with | .inl s3 => (some (.inl (w64 (s.1 + 1), s3.2))) | .inr r => r.elim) else (some (.inr (.inl (s.1, s.2))))
noncomputable def slices_insertionSortCmpFunc_int (data : List Int) (a : Int) (b2 : Int) (cmp : Int → Int → Option Int) : Option (List Int) :=
  Option.bind (loopM (slices_insertionSortCmpFunc_int_b1 a b2 cmp) (w64 (a + 1), data)) fun (t : (Int × List Int) ⊕ Empty) => match t with | .inl s4 => (some s4.2) | .inr r => r.elim
/-- slices.swapRangeCmpFunc[int] -/
noncomputable def slices_swapRangeCmpFunc_int_b1 (a : Int) (b2 : Int) (n2 : Int) (s : Int × List Int) : Option ((Int × List Int) ⊕ ((Int × List Int) ⊕ Empty)) :=
  bif (decide (s.1 < n2)) then (Option.bind (Option.bind (getI s.2 (w64 (b2 + s.1))) fun x => Option.bind (getI s.2 (w64 (a + s.1))) fun x2 => Option.bind (setM s.2 (w64 (a + s.1)) x) fun l => Option.bind (getI l (w64 (b2 + s.1))) fun _ => Option.bind (setM l (w64 (b2 + s.1)) x2) fun l2 => some l2) fun (f2 : List Int) => some (.inl (w64 (s.1 + 1), f2))) else (some (.inr (.inl (s.1, s.2))))
noncomputable def slices_swapRangeCmpFunc_int (data : List Int) (a : Int) (b2 : Int) (n2 : Int) (_ : Int → Int → Option Int) : Option (List Int) :=
  Option.bind (loopM (slices_swapRangeCmpFunc_int_b1 a b2 n2) (0, data)) fun (t : (Int × List Int) ⊕ Empty) => match t with | .inl s2 => (some s2.2) | .inr r => r.elim
/-- slices.rotateCmpFunc[int] -/
noncomputable def slices_rotateCmpFunc_int_b1 (m2 : Int) (cmp : Int → Int → Option Int) (s : Int × Int × List Int) : Option ((Int × Int × List Int) ⊕ ((Int × Int × List Int) ⊕ Empty)) :=
  bif (s.1 != s.2.1) then (bif (decide (s.1 > s.2.1)) then (Option.bind (slices_swapRangeCmpFunc_int s.2.2 (w64 (m2 - s.1)) m2 s.2.1 cmp) fun v => some (.inl (w64 (s.1 - s.2.1), s.2.1, v))) else (Option.bind (slices_swapRangeCmpFunc_int s.2.2 (w64 (m2 - s.1)) (w64 ((w64 (m2 + s.2.1)) - s.1)) s.1 cmp) fun v2 => some (.inl (s.1, w64 (s.2.1 - s.1), v2)))) else (some (.inr (.inl (s.1, s.2.1, s.2.2))))
noncomputable def slices_rotateCmpFunc_int (data : List Int) (a : Int) (m2 : Int) (b2 : Int) (cmp : Int → Int → Option Int) : Option (List Int) :=
  Option.bind (loopM (slices_rotateCmpFunc_int_b1 m2 cmp) (w64 (m2 - a), w64 (b2 - m2), data)) fun (t : (Int × Int × List Int) ⊕ Empty) => match t with | .inl s2 => (Option.bind (slices_swapRangeCmpFunc_int s2.2.2 (w64 (m2 - s2.1)) m2 s2.1 cmp) fun v3 => some v3) | .inr r => r.elim
/-- slices.symMergeCmpFunc[int] -/
noncomputable def slices_symMergeCmpFunc_int_b1 (data : List Int) (a : Int) (cmp : Int → Int → Option Int) (s : Int × Int) : Option ((Int × Int) ⊕ ((Int × Int) ⊕ Empty)) :=
  bif (decide (s.1 < s.2)) then (Option.bind (getI data (w64 (bitShr .u64 (IntKind.u64.wrap (w64 (s.1 + s.2))) 1))) fun x => Option.bind (getI data a) fun x2 => Option.bind (cmp x x2) fun v => bif (decide (v < 0)) then (some (.inl (w64 ((w64 (bitShr .u64 (IntKind.u64.wrap (w64 (s.1 + s.2))) 1)) + 1), s.2))) else (some (.inl (s.1, w64 (bitShr .u64 (IntKind.u64.wrap (w64 (s.1 + s.2))) 1))))) else (some (.inr (.inl (s.1, s.2))))
noncomputable def slices_symMergeCmpFunc_int_b2 (s2 : Int × Int) (s3 : Int × List Int) : Option ((Int × List Int) ⊕ ((Int × List Int) ⊕ Empty)) :=
  bif (decide (s3.1 < (w64 (s2.1 - 1)))) then (Option.bind (Option.bind (getI s3.2 (w64 (s3.1 + 1))) fun x3 => Option.bind (getI s3.2 s3.1) fun x4 => Option.bind (setM s3.2 s3.1 x3) fun l => Option.bind (getI l (w64 (s3.1 + 1))) fun _ => Option.bind (setM l (w64 (s3.1 + 1)) x4) fun l2 => some l2) fun (f2 : List Int) => some (.inl (w64 (s3.1 + 1), f2))) else (some (.inr (.inl (s3.1, s3.2))))
noncomputable def slices_symMergeCmpFunc_int_b3 (data : List Int) (m2 : Int) (cmp : Int → Int → Option Int) (s5 : Int × Int) : Option ((Int × Int) ⊕ ((Int × Int) ⊕ Empty)) :=
  bif (decide (s5.1 < s5.2)) then (Option.bind (getI data m2) fun x6 => Option.bind (getI data (w64 (bitShr .u64 (IntKind.u64.wrap (w64 (s5.1 + s5.2))) 1))) fun x7 => Option.bind (cmp x6 x7) fun v2 => bif (!(decide (v2 < 0))) then (some (.inl (w64 ((w64 (bitShr .u64 (IntKind.u64.wrap (w64 (s5.1 + s5.2))) 1)) + 1), s5.2))) else (some (.inl (s5.1, w64 (bitShr .u64 (IntKind.u64.wrap (w64 (s5.1 + s5.2))) 1))))) else (some (.inr (.inl (s5.1, s5.2))))
noncomputable def slices_symMergeCmpFunc_int_b4 (s6 : Int × Int) (s7 : Int × List Int) : Option ((Int × List Int) ⊕ ((Int × List Int) ⊕ Empty)) :=
  bif (decide (s7.1 > s6.1)) then (Option.bind (Option.bind (getI s7.2 (w64 (s7.1 - 1))) fun x8 => Option.bind (getI s7.2 s7.1) fun x9 => Option.bind (setM s7.2 s7.1 x8) fun l3 => Option.bind (getI l3 (w64 (s7.1 - 1))) fun _ => Option.bind (setM l3 (w64 (s7.1 - 1)) x9) fun l4 => some l4) fun (f3 : List Int) => some (.inl (w64 (s7.1 - 1), f3))) else (some (.inr (.inl (s7.1, s7.2))))
noncomputable def slices_symMergeCmpFunc_int_b5 (data : List Int) (a : Int) (m2 : Int) (b2 : Int) (cmp : Int → Int → Option Int) (s10 : Int × Int) : Option ((Int × Int) ⊕ ((Int × Int) ⊕ Empty)) :=
  bif (decide (s10.1 < s10.2)) then (Option.bind (getI data (w64 ((w64 ((w64 ((w64 (bitShr .u64 (IntKind.u64.wrap (w64 (a + b2))) 1)) + m2)) - 1)) - (w64 (bitShr .u64 (IntKind.u64.wrap (w64 (s10.1 + s10.2))) 1))))) fun x11 => Option.bind (getI data (w64 (bitShr .u64 (IntKind.u64.wrap (w64 (s10.1 + s10.2))) 1))) fun x12 => Option.bind (cmp x11 x12) fun v3 => bif (!(decide (v3 < 0))) then (some (.inl (w64 ((w64 (bitShr .u64 (IntKind.u64.wrap (w64 (s10.1 + s10.2))) 1)) + 1), s10.2))) else (some (.inl (s10.1, w64 (bitShr .u64 (IntKind.u64.wrap (w64 (s10.1 + s10.2))) 1))))) else (some (.inr (.inl (s10.1, s10.2))))
noncomputable def slices_symMergeCmpFunc_int_s (rc : List Int → Int → Int → Int → (Int → Int → Option Int) → Option (List Int)) (data : List Int) (a : Int) (m2 : Int) (b2 : Int) (cmp : Int → Int → Option Int) : Option (List Int) :=
  bif ((w64 (m2 - a)) == 1) then (Option.bind (loopM (slices_symMergeCmpFunc_int_b1 data a cmp) (m2, b2)) fun (t : (Int × Int) ⊕ Empty) => match t with | .inl s2 => (Option.bind (loopM (slices_symMergeCmpFunc_int_b2 s2) (a, data)) fun (t : (Int × List Int) ⊕ Empty) => match t with | .inl s4 => (some s4.2) | .inr r => r.elim) | .inr r => r.elim) else (bif ((w64 (b2 - m2)) == 1) then (Option.bind (loopM (slices_symMergeCmpFunc_int_b3 data m2 cmp) (a, m2)) fun (t : (Int × Int) ⊕ Empty) => match t with | .inl s6 => (Option.bind (loopM (slices_symMergeCmpFunc_int_b4 s6) (m2, data)) fun (t : (Int × List Int) ⊕ Empty) => match t with | .inl s8 => (some s8.2) | .inr r => r.elim) | .inr r => r.elim) else (Option.bind (bif (decide (m2 > (w64 (bitShr .u64 (IntKind.u64.wrap (w64 (a + b2))) 1)))) then (some (w64 ((w64 ((w64 (bitShr .u64 (IntKind.u64.wrap (w64 (a + b2))) 1)) + m2)) - b2), w64 (bitShr .u64 (IntKind.u64.wrap (w64 (a + b2))) 1))) else (some (a, m2))) fun (s9 : Int × Int) => Option.bind (loopM (slices_symMergeCmpFunc_int_b5 data a m2 b2 cmp) (s9.1, s9.2)) fun (t : (Int × Int) ⊕ Empty) => match t with | .inl s11 => (Option.bind (bif ((decide (s11.1 < m2)) && (decide (m2 < (w64 ((w64 ((w64 (bitShr .u64 (IntKind.u64.wrap (w64 (a + b2))) 1)) + m2)) - s11.1))))) then (Option.bind (slices_rotateCmpFunc_int data s11.1 m2 (w64 ((w64 ((w64 (bitShr .u64 (IntKind.u64.wrap (w64 (a + b2))) 1)) + m2)) - s11.1)) cmp) fun v4 => some v4) else (some data)) fun (f4 : List Int) => Option.bind (bif ((decide (a < s11.1)) && (decide (s11.1 < (w64 (bitShr .u64 (IntKind.u64.wrap (w64 (a + b2))) 1))))) then (Option.bind (rc f4 a s11.1 (w64 (bitShr .u64 (IntKind.u64.wrap (w64 (a + b2))) 1)) cmp) fun v5 => some v5) else (some f4)) fun (f5 : List Int) => bif ((decide ((w64 (bitShr .u64 (IntKind.u64.wrap (w64 (a + b2))) 1)) < (w64 ((w64 ((w64 (bitShr .u64 (IntKind.u64.wrap (w64 (a + b2))) 1)) + m2)) - s11.1)))) && (decide ((w64 ((w64 ((w64 (bitShr .u64 (IntKind.u64.wrap (w64 (a + b2))) 1)) + m2)) - s11.1)) < b2))) then (Option.bind (rc f5 (w64 (bitShr .u64 (IntKind.u64.wrap (w64 (a + b2))) 1)) (w64 ((w64 ((w64 (bitShr .u64 (IntKind.u64.wrap (w64 (a + b2))) 1)) + m2)) - s11.1)) b2 cmp) fun v6 => some v6) else (some f5)) | .inr r => r.elim))
noncomputable def slices_symMergeCmpFunc_int : Nat → List Int → Int → Int → Int → (Int → Int → Option Int) → Option (List Int)
  | 0 => fun _ _ _ _ _ => none
  | fu + 1 => slices_symMergeCmpFunc_int_s (slices_symMergeCmpFunc_int fu)
/-- slices.stableCmpFunc[int] -/
noncomputable def slices_stableCmpFunc_int_b1 (n2 : Int) (cmp : Int → Int → Option Int) (s : Int × Int × List Int) : Option ((Int × Int × List Int) ⊕ ((Int × Int × List Int) ⊕ Empty)) :=
  bif (decide (s.2.1 ≤ n2)) then (Option.bind (slices_insertionSortCmpFunc_int s.2.2 s.1 s.2.1 cmp) fun v => some (.inl (s.2.1, w64 (s.2.1 + 20), v))) else (some (.inr (.inl (s.1, s.2.1, s.2.2))))
noncomputable def slices_stableCmpFunc_int_b3 (n2 : Int) (cmp : Int → Int → Option Int) (s3 : Int × List Int) (s4 : Int × Int × List Int) : Option ((Int × Int × List Int) ⊕ ((Int × Int × List Int) ⊕ Empty)) :=
  bif (decide (s4.2.1 ≤ n2)) then (Option.bind (slices_symMergeCmpFunc_int 64 s4.2.2 s4.1 (w64 (s4.1 + s3.1)) s4.2.1 cmp) fun v3 => some (.inl (s4.2.1, w64 (s4.2.1 + (w64 (2 * s3.1))), v3))) else (some (.inr (.inl (s4.1, s4.2.1, s4.2.2))))
noncomputable def slices_stableCmpFunc_int_b2 (n2 : Int) (cmp : Int → Int → Option Int) (s3 : Int × List Int) : Option ((Int × List Int) ⊕ ((Int × List Int) ⊕ Empty)) :=
  bif (decide (s3.1 < n2)) then (Option.bind (loopM (slices_stableCmpFunc_int_b3 n2 cmp s3) (0, w64 (2 * s3.1), s3.2)) fun (t : (Int × Int × List Int) ⊕ Empty) => match t with | .inl s5 => (bif (decide ((w64 (s5.1 + s3.1)) < n2)) then (Option.bind (slices_symMergeCmpFunc_int 64 s5.2.2 s5.1 (w64 (s5.1 + s3.1)) n2 cmp) fun v4 => some (.inl (w64 (s3.1 * 2), v4))) else (some (.inl (w64 (s3.1 * 2), s5.2.2)))) | .inr r => r.elim) else (some (.inr (.inl (s3.1, s3.2))))
noncomputable def slices_stableCmpFunc_int (data : List Int) (n2 : Int) (cmp : Int → Int → Option Int) : Option (List Int) :=
  Option.bind (loopM (slices_stableCmpFunc_int_b1 n2 cmp) (0, 20, data)) fun (t : (Int × Int × List Int) ⊕ Empty) => match t with | .inl s2 => (Option.bind (slices_insertionSortCmpFunc_int s2.2.2 s2.1 n2 cmp) fun v2 => Option.bind (loopM (slices_stableCmpFunc_int_b2 n2 cmp) (20, v2)) fun (t : (Int × List Int) ⊕ Empty) => match t with | .inl s6 => (some s6.2) | .inr r => r.elim) | .inr r => r.elim
/-- slices.SortStableFunc[[]int,int] -/
noncomputable def slices_SortStableFunc_sint (x : List Int) (cmp : Int → Int → Option Int) : Option (List Int) :=
  Option.bind (slices_stableCmpFunc_int x (x.length : Int) cmp) fun v => some v
/-- magneto/events.Due$2 -/
noncomputable def events_Due_2 (i : Int) (k : Int) (c : Int) (c2 : List SEvent) : Option Int :=
  Option.bind (getI c2 i) fun x => Option.bind (events_Distance c x.Angle) fun v => Option.bind (getI c2 k) fun x2 => Option.bind (events_Distance c x2.Angle) fun v2 => Option.bind (cmp_Compare_int v v2) fun v3 => some v3
/-- magneto/events.Due -/
noncomputable def events_Due_b1 (l : List SEvent) (v_from : Int) (v_to : Int) (i : Int) (out : List Int) : Option (Fl (List Int) Empty) :=
  Option.bind (getI l i) fun x => Option.bind (events_Distance v_from x.Angle) fun v4 => Option.bind (events_Distance v_from v_to) fun v5 => bif (decide (v4 < v5)) then (Option.bind (appendM out ([i] : List Int)) fun l2 => some (.next l2)) else (some (.next out))
noncomputable def events_Due (l : List SEvent) (v_from : Int) (v_to : Int) : Option (List Int × Int) :=
  Option.bind (bif (decide ((l.length : Int) > 1000)) then (some true) else (Option.bind (slices_ContainsFunc_sEvent l events_Due_1) fun v => some v)) fun b2 => bif b2 then (some (([] : List Int), 1)) else (Option.bind (events_angle v_from) fun v2 => Option.bind (bif (!v2) then (some true) else (Option.bind (events_angle v_to) fun v3 => some (!v3))) fun b3 => bif b3 then (some (([] : List Int), 2)) else (Option.bind (rangeN (l.length : Int) (events_Due_b1 l v_from v_to) ([] : List Int)) fun (t : (List Int) ⊕ Empty) => match t with | .inl out2 => (Option.bind (slices_SortStableFunc_sint out2 (fun x0 x1 => events_Due_2 x0 x1 v_from l)) fun v6 => some (v6, 0)) | .inr r => r.elim))
/-- magneto/magnetoref23.List -/
noncomputable def magnetoref23_List_b1 (l : List SEvent) (i : Int) : Option (Int ⊕ (Int ⊕ Bool)) :=
  bif (decide (i < (l.length : Int))) then (Option.bind (getI l i) fun x => Option.bind (magnetoref23_Angle x.Angle) fun v => bif (((((((!v) || (decide (x.Kind < 1))) || (decide (x.Kind > 4))) || (decide (x.Cylinder < 1))) || (decide (x.Cylinder > 8))) || (decide (x.Pulse < 0))) || (decide (x.Pulse > 2))) then (some (.inr (.inr false))) else (some (.inl (w64 (i + 1))))) else (some (.inr (.inl i)))
noncomputable def magnetoref23_List (l : List SEvent) : Option Bool :=
  bif (decide ((l.length : Int) > 1000)) then (some false) else (Option.bind (loopM (magnetoref23_List_b1 l) 0) fun (t : Int ⊕ Bool) => match t with | .inl _ => (some true) | .inr r2 => some r2)
/-- magneto/magnetoref23.Distance -/
noncomputable def magnetoref23_Distance (v_from : Int) (v_to : Int) : Option Int :=
  Option.bind (magnetoref23_around (w64 (v_to - v_from))) fun v => some v
/-- slices.Equal[[]int,int] -/
noncomputable def slices_Equal_sint_b1 (s1 : List Int) (s2 : List Int) (i : Int) (_ : Unit) : Option (Fl Unit Bool) :=
  Option.bind (getI s1 i) fun x => Option.bind (getI s2 i) fun x2 => bif (x != x2) then (some (.ret false)) else (some (.next ()))
noncomputable def slices_Equal_sint (s1 : List Int) (s2 : List Int) : Option Bool :=
  bif ((s1.length : Int) != (s2.length : Int)) then (some false) else (Option.bind (rangeN (s1.length : Int) (slices_Equal_sint_b1 s1 s2) ()) fun (t : Unit ⊕ Bool) => match t with | .inl _ => (some true) | .inr r2 => some r2)
/-- magneto/magnetoref23.Due -/
noncomputable def magnetoref23_Due_b2 (l : List SEvent) (v_from : Int) (s : List Int × Int) (v : Int) (k : Int) : Option (Int ⊕ (Int ⊕ Empty)) :=
  Option.bind (bif (decide (k > 0)) then (Option.bind (getI s.1 (w64 (k - 1))) fun x2 => Option.bind (getI l x2) fun x3 => Option.bind (magnetoref23_Distance v_from x3.Angle) fun v3 => some (decide (v3 > v))) else (some false)) fun b2 => bif b2 then (some (.inl (w64 (k - 1)))) else (some (.inr (.inl k)))
noncomputable def magnetoref23_Due_b1 (l : List SEvent) (v_from : Int) (v_to : Int) (s : List Int × Int) : Option ((List Int × Int) ⊕ ((List Int × Int) ⊕ Empty)) :=
  bif (decide (s.2 < (l.length : Int))) then (Option.bind (getI l s.2) fun x => Option.bind (magnetoref23_Distance v_from x.Angle) fun v => Option.bind (magnetoref23_Distance v_from v_to) fun v2 => bif (decide (v ≥ v2)) then (some (.inl (s.1, w64 (s.2 + 1)))) else (Option.bind (loopM (magnetoref23_Due_b2 l v_from s v) (s.1.length : Int)) fun (t : Int ⊕ Empty) => match t with | .inl k2 => (Option.bind (sliceM s.1 0 k2) fun l2 => Option.bind (appendM ([] : List Int) l2) fun l3 => Option.bind (appendM l3 ([s.2] : List Int)) fun l4 => Option.bind (sliceM s.1 k2 (s.1.length : Int)) fun l5 => Option.bind (appendM l4 l5) fun l6 => some (.inl (l6, w64 (s.2 + 1)))) | .inr r => r.elim)) else (some (.inr (.inl (s.1, s.2))))
noncomputable def magnetoref23_Due (l : List SEvent) (v_from : Int) (v_to : Int) : Option (List Int) :=
  Option.bind (loopM (magnetoref23_Due_b1 l v_from v_to) (([] : List Int), 0)) fun (t : (List Int × Int) ⊕ Empty) => match t with | .inl s2 => (some s2.1) | .inr r => r.elim
/-- magneto/magnetolaw23.EventsDue -/
noncomputable def magnetolaw23_EventsDue (l : List SEvent) (v_from : Int) (v_to : Int) : Option Bool :=
  Option.bind (magnetolaw23_awake) fun v => bif (!v) then (some false) else (bif ((decide ((l.length : Int) > 100)) && (decide ((l.length : Int) ≤ 1000))) then (some true) else (Option.bind (events_Due l v_from v_to) fun r2 => Option.bind (events_Distance v_from v_to) fun v2 => Option.bind (magnetoref23_Angle v_from) fun v3 => Option.bind (bif (!v3) then (some true) else (Option.bind (magnetoref23_Angle v_to) fun v4 => some (!v4))) fun b2 => Option.bind (bif b2 then (bif (v2 != (-1)) then (some (Sum.inr false)) else (Option.bind (magnetoref23_List l) fun v5 => bif v5 then (some (Sum.inr ((r2.2 == 2) && ((r2.1.length : Int) == 0)))) else (some (Sum.inl ())))) else (Option.bind (magnetoref23_Distance v_from v_to) fun v6 => bif (v2 != v6) then (some (Sum.inr false)) else (some (Sum.inl ())))) fun (t : Unit ⊕ Bool) => match t with | .inl _ => (Option.bind (magnetoref23_List l) fun v7 => bif (!v7) then (some ((r2.2 == 1) && ((r2.1.length : Int) == 0))) else (Option.bind (bif (r2.2 == 0) then (Option.bind (magnetoref23_Due l v_from v_to) fun v8 => Option.bind (slices_Equal_sint r2.1 v8) fun v9 => some v9) else (some false)) fun b3 => some b3)) | .inr r3 => some r3))
/-- slices.Grow[[]int,int] -/
noncomputable def slices_Grow_sint (n2 : Int) : Option (List Int) :=
  Option.bind (bif (decide (n2 < 0)) then none else (some ())) fun (_ : Unit) => bif (decide ((w64 (n2 - (w64 (0 - 0)))) > 0)) then (Option.bind (zerosM (w64 (n2 - (w64 (0 - 0)))) 0) fun l => Option.bind (sliceM l 0 0) fun l2 => some l2) else (some ([] : List Int))
/-- slices.Concat[[]int,int] -/
noncomputable def slices_Concat_sint_b1 (_ : Int) (x : List Int) (size : Int) : Option (Fl Int Empty) :=
  bif (decide ((w64 (size + (x.length : Int))) < 0)) then none else (some (.next (w64 (size + (x.length : Int)))))
noncomputable def slices_Concat_sint_b2 (_ : Int) (x2 : List Int) (f2 : List Int) : Option (Fl (List Int) Empty) :=
  Option.bind (appendM f2 x2) fun l => some (.next l)
noncomputable def slices_Concat_sint (slices : List (List Int)) : Option (List Int) :=
  Option.bind (rangeM slices (slices_Concat_sint_b1) 0) fun (t : Int ⊕ Empty) => match t with | .inl size2 => (Option.bind (slices_Grow_sint size2) fun v => Option.bind (rangeM slices (slices_Concat_sint_b2) v) fun (t : (List Int) ⊕ Empty) => match t with | .inl f3 => (some f3) | .inr r => r.elim) | .inr r => r.elim
/-- slices.Sort[[]int,int] -/
noncomputable def slices_Sort_sint (s : List Int) : Option (List Int) :=
  sortIM s
/-- magneto/magnetolaw23.EventsParts -/
noncomputable def magnetolaw23_EventsParts_b1 (v7 : List Int) (i : Int) (_ : Unit) : Option (Fl Unit Bool) :=
  Option.bind (getI v7 i) fun x => bif (x != i) then (some (.ret false)) else (some (.next ()))
noncomputable def magnetolaw23_EventsParts (l : List SEvent) (a : Int) (b2 : Int) (c : Int) : Option Bool :=
  Option.bind (magnetolaw23_awake) fun v => bif (!v) then (some false) else (bif (decide ((l.length : Int) > 100)) then (some true) else (Option.bind (events_Due l a b2) fun r2 => Option.bind (events_Due l b2 c) fun r3 => bif ((r2.2 != 0) || (r3.2 != 0)) then (some true) else (Option.bind (events_Due l a c) fun r4 => Option.bind (events_Distance a b2) fun v2 => Option.bind (events_Distance b2 c) fun v3 => Option.bind (bif (decide ((w64 (v2 + v3)) < 46080)) then (Option.bind (bif (r4.2 != 0) then (some true) else (Option.bind (slices_Concat_sint ([r2.1, r3.1] : List (List Int))) fun v4 => Option.bind (slices_Equal_sint r4.1 v4) fun v5 => some (!v5))) fun b3 => some b3) else (some false)) fun b4 => bif b4 then (some false) else (bif (a == b2) then (some ((r2.1.length : Int) == 0)) else (Option.bind (events_Due l b2 a) fun r5 => Option.bind (slices_Concat_sint ([r2.1, r5.1] : List (List Int))) fun v6 => Option.bind (slices_Sort_sint v6) fun v7 => bif ((r5.2 != 0) || ((v7.length : Int) != (l.length : Int))) then (some false) else (Option.bind (rangeN (v7.length : Int) (magnetolaw23_EventsParts_b1 v7) ()) fun (t : Unit ⊕ Bool) => match t with | .inl _ => (some true) | .inr r6 => some r6))))))
end Go.Pv

/- What the arguments are known to be. Printed by law.py. -/
import Derived.Test.YtllofihbdbdaeaaModel
namespace Go.Pv
open Go
structure wf_SMap (x : SMap) : Prop where
  X : (wfL (fun n => (Lit.int .i64 n).wf = true)) x.X
  Y : (wfL (fun n => (Lit.int .i64 n).wf = true)) x.Y
  Z : (wfL (wfL (fun n => (Lit.int .i64 n).wf = true))) x.Z
structure wf_SCurve (x : SCurve) : Prop where
  X : (wfL (fun n => (Lit.int .i64 n).wf = true)) x.X
  Y : (wfL (fun n => (Lit.int .i64 n).wf = true)) x.Y
structure wf_SGain (x : SGain) : Prop where
  P : (fun n => (Lit.int .i64 n).wf = true) x.P
  I : (fun n => (Lit.int .i64 n).wf = true) x.I
  Low : (fun n => (Lit.int .i64 n).wf = true) x.Low
  High : (fun n => (Lit.int .i64 n).wf = true) x.High
structure wf_STables (x : STables) : Prop where
  Air : wf_SMap x.Air
  Spark : wf_SMap x.Spark
  Torque : wf_SMap x.Torque
  Wish : wf_SMap x.Wish
  AirTemp : wf_SCurve x.AirTemp
  Dwell : wf_SCurve x.Dwell
  Dead : wf_SCurve x.Dead
  Efficiency : wf_SCurve x.Efficiency
  Idle : wf_SGain x.Idle
structure wf_SRequest (x : SRequest) : Prop where
  Source : (fun n => (Lit.int .i64 n).wf = true) x.Source
  Kind : (fun n => (Lit.int .i64 n).wf = true) x.Kind
  Torque : (fun n => (Lit.int .i64 n).wf = true) x.Torque
  Priority : (fun n => (Lit.int .i64 n).wf = true) x.Priority
structure wf_SFire (x : SFire) : Prop where
  Cylinder : (fun n => (Lit.int .i64 n).wf = true) x.Cylinder
  Spark : (fun n => (Lit.int .i64 n).wf = true) x.Spark
  Dwell : (fun n => (Lit.int .i64 n).wf = true) x.Dwell
  End : (fun n => (Lit.int .i64 n).wf = true) x.End
  Inject : (fun n => (Lit.int .i64 n).wf = true) x.Inject
  Gap : (fun n => (Lit.int .i64 n).wf = true) x.Gap
  Extra : (fun n => (Lit.int .i64 n).wf = true) x.Extra
def wf_arr2_Int (x : (Int × Int)) : Prop := (fun n => (Lit.int .i64 n).wf = true) x.1 ∧ (fun n => (Lit.int .i64 n).wf = true) x.2
structure wf_SGuard (x : SGuard) : Prop where
  Over : (fun n => (Lit.int .i64 n).wf = true) x.Over
  Calm : (fun n => (Lit.int .i64 n).wf = true) x.Calm
  Off : (fun _ => True) x.Off
end Go.Pv

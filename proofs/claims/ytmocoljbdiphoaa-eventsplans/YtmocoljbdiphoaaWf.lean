/- What the arguments are known to be. Printed by law.py. -/
import Derived.Test.YtmocoljbdiphoaaModel
namespace Go.Pv
open Go
structure wf_SEngine (x : SEngine) : Prop where
  Order : (wfL (fun n => (Lit.int .i64 n).wf = true)) x.Order
  First : (fun n => (Lit.int .i64 n).wf = true) x.First
structure wf_SFire (x : SFire) : Prop where
  Cylinder : (fun n => (Lit.int .i64 n).wf = true) x.Cylinder
  Spark : (fun n => (Lit.int .i64 n).wf = true) x.Spark
  Dwell : (fun n => (Lit.int .i64 n).wf = true) x.Dwell
  End : (fun n => (Lit.int .i64 n).wf = true) x.End
  Inject : (fun n => (Lit.int .i64 n).wf = true) x.Inject
  Gap : (fun n => (Lit.int .i64 n).wf = true) x.Gap
  Extra : (fun n => (Lit.int .i64 n).wf = true) x.Extra
end Go.Pv

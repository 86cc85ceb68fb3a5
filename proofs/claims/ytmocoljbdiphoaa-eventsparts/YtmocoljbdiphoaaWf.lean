/- What the arguments are known to be. Printed by law.py. -/
import Derived.Test.YtmocoljbdiphoaaModel
namespace Go.Pv
open Go
structure wf_SEvent (x : SEvent) : Prop where
  Angle : (fun n => (Lit.int .i64 n).wf = true) x.Angle
  Kind : (fun n => (Lit.int .i64 n).wf = true) x.Kind
  Cylinder : (fun n => (Lit.int .i64 n).wf = true) x.Cylinder
  Pulse : (fun n => (Lit.int .i64 n).wf = true) x.Pulse
end Go.Pv

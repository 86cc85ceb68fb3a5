/- What the arguments are known to be. Printed by law.py. -/
import Derived.Test.YtoiamgpgodcioaaModel
namespace Go.Pv
open Go
structure wf_SRequest (x : SRequest) : Prop where
  Source : (fun n => (Lit.int .i64 n).wf = true) x.Source
  Kind : (fun n => (Lit.int .i64 n).wf = true) x.Kind
  Torque : (fun n => (Lit.int .i64 n).wf = true) x.Torque
  Priority : (fun n => (Lit.int .i64 n).wf = true) x.Priority
end Go.Pv

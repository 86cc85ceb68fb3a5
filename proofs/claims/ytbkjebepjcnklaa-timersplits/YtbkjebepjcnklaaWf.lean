/- What the arguments are known to be. Printed by law.py. -/
import Derived.Test.YtbkjebepjcnklaaModel
namespace Go.Pv
open Go
structure wf_SChannel (x : SChannel) : Prop where
  Armed : (fun _ => True) x.Armed
  At : (fun n => (Lit.int .i64 n).wf = true) x.At
  Next : (fun _ => True) x.Next
  Level : (fun _ => True) x.Level
structure wf_STimer (x : STimer) : Prop where
  Now : (fun n => (Lit.int .i64 n).wf = true) x.Now
  Channels : (wfL wf_SChannel) x.Channels
end Go.Pv

/- What the arguments of the rows hold. Printed by law.py. -/
import Derived.Test.YtmocoljbdiphoaaWf
import Derived.Test.YtmocoljbdiphoaaProg
import Derived.KernelRfl
namespace Go.Proofs.Ytmocoljbdiphoaa
open Go Go.Pv Go.Proofs
theorem reads_3 : Reads Try.prog 3 Pv.encI (fun n => (Lit.int .i64 n).wf = true) := reads_int Try.underlying3 (fun _ => rfl)
theorem reads_44 : Reads Try.prog 44 enc_SEvent wf_SEvent := by
  intro H e w fuel cs x h
  obtain ⟨xs, n, _, rfl, hl, hlen, hf⟩ := DataW.trod_struct Try.underlying44 h
  obtain ⟨y0, w0, r0⟩ := field_of hlen hf 0 rfl reads_3
  obtain ⟨y1, w1, r1⟩ := field_of hlen hf 1 rfl reads_3
  obtain ⟨y2, w2, r2⟩ := field_of hlen hf 2 rfl reads_3
  obtain ⟨y3, w3, r3⟩ := field_of hlen hf 3 rfl reads_3
  exact ⟨⟨y0, y1, y2, y3⟩, ⟨w0, w1, w2, w3⟩, rtl_cons (o := 0) (o' := 1) r0 (by kernel_rfl) (rtl_cons (o := 1) (o' := 2) r1 (by kernel_rfl) (rtl_cons (o := 2) (o' := 3) r2 (by kernel_rfl) (rtl_cons (o := 3) (o' := 4) r3 (by kernel_rfl) (rtl_nil (hl.trans (by kernel_rfl))))))⟩
theorem reads_37 : Reads Try.prog 37 (Pv.encS enc_SEvent) (wfL wf_SEvent) := reads_slice (sz := 4) Try.underlying37 reads_44 (by kernel_rfl) (by decide) (fun _ => rfl)
theorem arg_37 : ArgOk Try.prog 37 (fun x => .t (tS enc_SEvent x)) (wfL wf_SEvent) := arg_slice Try.underlying37 reads_37 (fun _ => rfl)
theorem arg_3 : ArgOk Try.prog 3 (fun x => .t (tI x)) (fun n => (Lit.int .i64 n).wf = true) := arg_int Try.underlying3 reads_3 (fun _ => rfl) (fun _ => rfl)
end Go.Proofs.Ytmocoljbdiphoaa

/- What the arguments of the rows hold. Printed by law.py. -/
import Derived.Test.YtmocoljbdiphoaaWf
import Derived.Test.YtmocoljbdiphoaaProg
import Derived.KernelRfl
namespace Go.Proofs.Ytmocoljbdiphoaa
open Go Go.Pv Go.Proofs
theorem reads_3 : Reads Try.prog 3 Pv.encI (fun n => (Lit.int .i64 n).wf = true) := reads_int Try.underlying3 (fun _ => rfl)
theorem reads_22 : Reads Try.prog 22 (Pv.encS Pv.encI) (wfL (fun n => (Lit.int .i64 n).wf = true)) := reads_slice (sz := 1) Try.underlying22 reads_3 (by kernel_rfl) (by decide) (fun _ => rfl)
theorem reads_24 : Reads Try.prog 24 enc_SEngine wf_SEngine := by
  intro H e w fuel cs x h
  obtain ⟨xs, n, _, rfl, hl, hlen, hf⟩ := DataW.trod_struct Try.underlying24 h
  obtain ⟨y0, w0, r0⟩ := field_of hlen hf 0 rfl reads_22
  obtain ⟨y1, w1, r1⟩ := field_of hlen hf 1 rfl reads_3
  exact ⟨⟨y0, y1⟩, ⟨w0, w1⟩, rtl_cons (o := 0) (o' := 1) r0 (by kernel_rfl) (rtl_cons (o := 1) (o' := 2) r1 (by kernel_rfl) (rtl_nil (hl.trans (by kernel_rfl))))⟩
theorem arg_24 : ArgOk Try.prog 24 (fun x => A_SEngine x) wf_SEngine := arg_struct Try.underlying24 reads_24 (fun _ => rfl)
theorem reads_26 : Reads Try.prog 26 enc_SFire wf_SFire := by
  intro H e w fuel cs x h
  obtain ⟨xs, n, _, rfl, hl, hlen, hf⟩ := DataW.trod_struct Try.underlying26 h
  obtain ⟨y0, w0, r0⟩ := field_of hlen hf 0 rfl reads_3
  obtain ⟨y1, w1, r1⟩ := field_of hlen hf 1 rfl reads_3
  obtain ⟨y2, w2, r2⟩ := field_of hlen hf 2 rfl reads_3
  obtain ⟨y3, w3, r3⟩ := field_of hlen hf 3 rfl reads_3
  obtain ⟨y4, w4, r4⟩ := field_of hlen hf 4 rfl reads_3
  obtain ⟨y5, w5, r5⟩ := field_of hlen hf 5 rfl reads_3
  obtain ⟨y6, w6, r6⟩ := field_of hlen hf 6 rfl reads_3
  exact ⟨⟨y0, y1, y2, y3, y4, y5, y6⟩, ⟨w0, w1, w2, w3, w4, w5, w6⟩, rtl_cons (o := 0) (o' := 1) r0 (by kernel_rfl) (rtl_cons (o := 1) (o' := 2) r1 (by kernel_rfl) (rtl_cons (o := 2) (o' := 3) r2 (by kernel_rfl) (rtl_cons (o := 3) (o' := 4) r3 (by kernel_rfl) (rtl_cons (o := 4) (o' := 5) r4 (by kernel_rfl) (rtl_cons (o := 5) (o' := 6) r5 (by kernel_rfl) (rtl_cons (o := 6) (o' := 7) r6 (by kernel_rfl) (rtl_nil (hl.trans (by kernel_rfl)))))))))⟩
theorem arg_26 : ArgOk Try.prog 26 (fun x => A_SFire x) wf_SFire := arg_struct Try.underlying26 reads_26 (fun _ => rfl)
theorem arg_3 : ArgOk Try.prog 3 (fun x => .t (tI x)) (fun n => (Lit.int .i64 n).wf = true) := arg_int Try.underlying3 reads_3 (fun _ => rfl) (fun _ => rfl)
theorem reads_36 : Reads Try.prog 36 (Pv.encS enc_SFire) (wfL wf_SFire) := reads_slice (sz := 7) Try.underlying36 reads_26 (by kernel_rfl) (by decide) (fun _ => rfl)
theorem arg_36 : ArgOk Try.prog 36 (fun x => .t (tS enc_SFire x)) (wfL wf_SFire) := arg_slice Try.underlying36 reads_36 (fun _ => rfl)
end Go.Proofs.Ytmocoljbdiphoaa

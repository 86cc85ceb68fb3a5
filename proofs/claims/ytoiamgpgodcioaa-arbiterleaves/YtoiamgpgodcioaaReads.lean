/- What the arguments of the rows hold. Printed by law.py. -/
import Derived.Test.YtoiamgpgodcioaaWf
import Derived.Test.YtoiamgpgodcioaaProg
import Derived.KernelRfl
namespace Go.Proofs.Ytoiamgpgodcioaa
open Go Go.Pv Go.Proofs
theorem reads_3 : Reads Try.prog 3 Pv.encI (fun n => (Lit.int .i64 n).wf = true) := reads_int Try.underlying3 (fun _ => rfl)
theorem reads_35 : Reads Try.prog 35 enc_SRequest wf_SRequest := by
  intro H e w fuel cs x h
  obtain ⟨xs, n, _, rfl, hl, hlen, hf⟩ := DataW.trod_struct Try.underlying35 h
  obtain ⟨y0, w0, r0⟩ := field_of hlen hf 0 rfl reads_3
  obtain ⟨y1, w1, r1⟩ := field_of hlen hf 1 rfl reads_3
  obtain ⟨y2, w2, r2⟩ := field_of hlen hf 2 rfl reads_3
  obtain ⟨y3, w3, r3⟩ := field_of hlen hf 3 rfl reads_3
  exact ⟨⟨y0, y1, y2, y3⟩, ⟨w0, w1, w2, w3⟩, rtl_cons (o := 0) (o' := 1) r0 (by kernel_rfl) (rtl_cons (o := 1) (o' := 2) r1 (by kernel_rfl) (rtl_cons (o := 2) (o' := 3) r2 (by kernel_rfl) (rtl_cons (o := 3) (o' := 4) r3 (by kernel_rfl) (rtl_nil (hl.trans (by kernel_rfl))))))⟩
theorem reads_22 : Reads Try.prog 22 (Pv.encS enc_SRequest) (wfL wf_SRequest) := reads_slice (sz := 4) Try.underlying22 reads_35 (by kernel_rfl) (by decide) (fun _ => rfl)
theorem arg_22 : ArgOk Try.prog 22 (fun x => .t (tS enc_SRequest x)) (wfL wf_SRequest) := arg_slice Try.underlying22 reads_22 (fun _ => rfl)
theorem arg_3 : ArgOk Try.prog 3 (fun x => .t (tI x)) (fun n => (Lit.int .i64 n).wf = true) := arg_int Try.underlying3 reads_3 (fun _ => rfl) (fun _ => rfl)
theorem reads_5 : Reads Try.prog 5 enc_u8 (fun n => (Lit.int .u8 n).wf = true) := reads_int Try.underlying5 (fun _ => rfl)
theorem arg_5 : ArgOk Try.prog 5 (fun x => .t (tK .u8 x)) (fun n => (Lit.int .u8 n).wf = true) := arg_int Try.underlying5 reads_5 (fun _ => rfl) (fun _ => rfl)
end Go.Proofs.Ytoiamgpgodcioaa

/- Proved: ControlRuns, called with any arguments that its row admits, returns true, and every argument reads behind the call as it read before. Conditions: none beyond the row's own. Printed by law.py. This file joins:  -/
import Derived.Test.YtalanclpiojanaaGreatControlRunsJ
import Derived.Test.YtalanclpiojanaaGreatRows
set_option linter.unusedSimpArgs false
set_option linter.unusedVariables false
namespace Go.Proofs.YtalanclpiojanaaGreat.controlRuns
open Go Go.Pv Go.Proofs Go.ChangeShapes Go.WideShapes Go.ChangeAt Go.RowKit Go.Proofs.YtalanclpiojanaaGreat
theorem own : ownKnob Tryz.prog.godebug = none := by kernel_rfl
theorem laidOut : laidOutB Tryz.prog = true := by kernel_rfl
set_option maxRecDepth 100000 in
theorem lifted (os : Os) (started : os.Started) (H : Type) (enc : TypeId × Value → H) :
    ReturnsInHanded {} Tryz.checked os 8 .any (Rows.controlRunsSpec.pre6 enc Tryz.prog Tryz.f8 Rows.controlRunsRow.domain false) (Rows.controlRunsSpec.post enc Tryz.prog Tryz.f8 false true false false) := by
  refine returnsInHanded_of_change (C := Tryz.checked) own started (by kernel_rfl) Tryz.func8
    (ChangeSpec.witness6 (enc := enc) (C := Tryz.checked) false ⟨#[], #[.agg #[.slice none 0 0, .slice none 0 0, .slice none 0 0, .slice none 0 0, .slice none 0 0, .slice none 0 0, .slice none 0 0, .slice none 0 0, .slice none 0 0, .slice none 0 0, .slice none 0 0, .slice none 0 0, .slice none 0 0, .slice none 0 0, .slice none 0 0, .slice none 0 0, .slice none 0 0, .slice none 0 0, .slice none 0 0, .slice none 0 0, .int .i64 0, .int .i64 0, .int .i64 0, .int .i64 0], .agg #[.slice none 0 0, .int .i64 0], .agg #[.int .i64 0, .int .i64 0, .int .i64 0, .int .i64 0, .int .i64 0, .int .i64 0, .int .i64 0], .slice none 0 0], []⟩ 16 (by kernel_rfl) (by kernel_rfl) (by kernel_rfl) (by kernel_rfl)) ?_
  intro W base args ds gs before hval0 hW hcnd _
  have hval : ∀ (j : Nat) t v, Tryz.f8.params[j]? = some t → args[j]? = some v → Value.okWide Tryz.prog W .any base t v := hval0
  have hW' := hW
  obtain ⟨p, q, hA0, hV, rfl, hfz, hnd⟩ := hW
  have hA : DataW.TrodAll enc Tryz.prog W 0 (fun _ => true) true Tryz.f8.params.toList args.toList ds p := hA0
  rw [Tryz.params8] at hA hval
  obtain ⟨v0, vs0, d0, ds0, p0, q0, hargs, rfl, rfl, h0, r0⟩ := trodAll_cons hA
  obtain ⟨v1, vs1, d1, ds1, p1, q1, rfl, rfl, rfl, h1, r1⟩ := trodAll_cons r0
  obtain ⟨v2, vs2, d2, ds2, p2, q2, rfl, rfl, rfl, h2, r2⟩ := trodAll_cons r1
  obtain ⟨v3, vs3, d3, ds3, p3, q3, rfl, rfl, rfl, h3, r3⟩ := trodAll_cons r2
  obtain ⟨rfl, rfl, rfl⟩ := trodAll_nil r3
  obtain rfl : args = #[v0, v1, v2, v3] := by cases args; simp_all
  obtain ⟨rfl, rfl⟩ := trodVars_none hV
  have k0 := h0
  have lt0 : ∀ x ∈ p0, x.block < W.heap.size := by obtain ⟨m, hm⟩ := k0; exact DataW.trod_lt m _ _ _ hm
  obtain ⟨x0, g0, a0⟩ := arg_31 _ _ W _ _ _ _ (hval 0 31 v0 rfl rfl) h0
  have k1 := h1
  have lt1 : ∀ x ∈ p1, x.block < W.heap.size := by obtain ⟨m, hm⟩ := k1; exact DataW.trod_lt m _ _ _ hm
  obtain ⟨x1, g1, a1⟩ := arg_33 _ _ W _ _ _ _ (hval 1 33 v1 rfl rfl) h1
  have k2 := h2
  have lt2 : ∀ x ∈ p2, x.block < W.heap.size := by obtain ⟨m, hm⟩ := k2; exact DataW.trod_lt m _ _ _ hm
  obtain ⟨x2, g2, a2⟩ := arg_62 _ _ W _ _ _ _ (hval 2 62 v2 rfl rfl) h2
  have k3 := h3
  have lt3 : ∀ x ∈ p3, x.block < W.heap.size := by obtain ⟨m, hm⟩ := k3; exact DataW.trod_lt m _ _ _ hm
  obtain ⟨x3, g3, a3⟩ := arg_85 _ _ W _ _ _ _ (hval 3 85 v3 rfl rfl) h3
  clear hA0 hval0
  refine (TieF.calls (q266 x0 x1 x2 x3) (q419 x0 x1 x2 x3 g0 g1 g2 g3) (rvl_cons (a0 _) (rvl_cons (a1 _) (rvl_cons (a2 _) (rvl_cons (a3 _) rvl_nil))))).mono fun e W' ⟨he, bel⟩ => ?_
  subst he
  exact ⟨_, rfl, _, _, _, [], _, [], hW', trodAll_mk1 (shut_bool Tryz.underlying4 _), (trodAll_cons_mk (Below.trod laidOut (by kernel_rfl) (of_decide_eq_true (by kernel_rfl)) k0 bel lt0) (trodAll_cons_mk (Below.trod laidOut (by kernel_rfl) (of_decide_eq_true (by kernel_rfl)) k1 bel lt1) (trodAll_cons_mk (Below.trod laidOut (by kernel_rfl) (of_decide_eq_true (by kernel_rfl)) k2 bel lt2) (trodAll_cons_mk (Below.trod laidOut (by kernel_rfl) (of_decide_eq_true (by kernel_rfl)) k3 bel lt3) trodAll_mk0)))), rfl, bel.frame _, fun h => by cases h⟩
end Go.Proofs.YtalanclpiojanaaGreat.controlRuns
namespace Go.Proofs.YtalanclpiojanaaGreat
theorem controlRuns.inPlace : Tryz.prog.inPlace 8 = Rows.controlRunsRow.inPlace := by kernel_rfl
theorem controlRuns.unfollowed : Tryz.prog.unfollowed 8 = Rows.controlRunsRow.unfollowed := by kernel_rfl
theorem controlRuns.recurses : Tryz.prog.recurses 8 = Rows.controlRunsRow.recurses := by kernel_rfl
theorem controlRuns.named : Tryz.prog.varsNamed 8 = Rows.controlRunsRow.named := by kernel_rfl
theorem controlRuns.stops : Tryz.prog.stops = [] := by kernel_rfl
theorem controlRuns.knobs : Tryz.prog.stopKnobs = [] := by kernel_rfl
theorem controlRuns.heard : Tryz.prog.stopsHeard = true := by kernel_rfl
theorem controlRuns.lifts : Tryz.prog.liftsFinal = Rows.controlRunsRow.lifted := by kernel_rfl
theorem controlRuns.keys : Tryz.prog.plainKeys = Rows.controlRunsRow.plainKeys := by kernel_rfl
theorem controlRuns.joined : joinedFacts Tryz.prog 8 Tryz.f8 Rows.controlRunsSpec Rows.controlRunsRow = true := by
  unfold joinedFacts
  rw [controlRuns.inPlace, controlRuns.unfollowed, controlRuns.recurses, controlRuns.named, controlRuns.laidOut, controlRuns.stops, controlRuns.knobs, controlRuns.heard, controlRuns.lifts, controlRuns.keys]
  kernel_rfl
theorem controlRuns_holds : Rows.ControlRunsSaid :=
  OpenClaim.holds_of_wide 8 Tryz.f8 rfl rfl rfl rfl rfl rfl rfl ⟨rfl, rfl, rfl, rfl, rfl⟩ rfl rfl rfl rfl rfl (by kernel_rfl) Tryz.func8 controlRuns.joined
    (of_decide_eq_true (by kernel_rfl)) (by unfold Func.isWrapper; first | (rw [if_pos (by decide +kernel)]; kernel_rfl) | (rw [if_neg (by decide +kernel)]; exact ⟨rfl, rfl⟩))
    (fun os started H enc _ => controlRuns.lifted os started H enc)
#print axioms controlRuns_holds
end Go.Proofs.YtalanclpiojanaaGreat

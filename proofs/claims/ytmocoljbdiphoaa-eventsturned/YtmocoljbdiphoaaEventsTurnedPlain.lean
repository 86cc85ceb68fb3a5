/- The plain law of EventsTurned. -/
import Derived.Test.YtmocoljbdiphoaaRef
set_option linter.unusedSimpArgs false
namespace Go.Pv
open Go

theorem containsE (s : List SEvent) (v : SEvent) (h : s.length ≤ 9223372036854775807) (hm : v ∈ s) : slices_Contains_sEvent s v = some true := by
  unfold slices_Contains_sEvent slices_Index_sEvent
  have : rangeN (s.length : Int) (slices_Index_sEvent_b1 s v) () = stepsL (fun (i : Int) (x : SEvent) (_ : Unit) => bif ((v.Angle == x.Angle) && ((v.Kind == x.Kind) && ((v.Cylinder == x.Cylinder) && ((v.Pulse == x.Pulse) && true)))) then (some (Fl.ret i)) else (some (Fl.next ()))) s 0 () := rangeN_list s h _ ()
  rw [this]
  obtain ⟨r, h1, h2⟩ := stepsL_index (f := fun (i : Int) (x : SEvent) (_ : Unit) => bif ((v.Angle == x.Angle) && ((v.Kind == x.Kind) && ((v.Cylinder == x.Cylinder) && ((v.Pulse == x.Pulse) && true)))) then (some (Fl.ret i)) else (some (Fl.next ()))) (p := fun x => (v.Angle == x.Angle) && ((v.Kind == x.Kind) && ((v.Cylinder == x.Cylinder) && ((v.Pulse == x.Pulse) && true)))) s 0 (Int.le_refl 0) (fun i y _ => by rw [bsome])
  rw [h1]
  cases r with
  | inl u =>
    simp only at h2
    rw [List.any_eq_false] at h2
    exact (h2 v hm (by simp)).elim
  | inr j =>
    simp only [Option.bind_some]
    rw [decide_eq_true h2.1]

def trnE (e : SEngine) (b : Int) : SEngine := ⟨e.Order, (e.First + b) % 46080⟩

theorem eng_turn {e : SEngine} (b : Int) (h1 : 0 ≤ e.First) (h2 : e.First < 46080) : engP (trnE e b) ↔ engP e := by
  unfold engP trnE
  simp only
  constructor
  · rintro ⟨a1, a2, _, _, a5⟩; exact ⟨a1, a2, h1, h2, a5⟩
  · rintro ⟨a1, a2, _, _, a5⟩; exact ⟨a1, a2, by omega, by omega, a5⟩
theorem fire_turn {e : SEngine} (b : Int) (f : SFire) : fireP (trnE e b) f ↔ fireP e f := Iff.rfl
theorem cen_turn (e : SEngine) (b c : Int) : cen (trnE e b) c = (cen e c + b) % 46080 := by
  unfold cen trnE
  simp only
  omega

theorem evs_turn {e : SEngine} (b t : Int) {f : SFire} {x : SEvent} (h : x ∈ evs e t f) : (⟨(x.Angle + b) % 46080, x.Kind, x.Cylinder, x.Pulse⟩ : SEvent) ∈ evs (trnE e b) t f := by
  unfold evs at *
  rw [List.mem_map] at *
  obtain ⟨o, ho, rfl⟩ := h
  refine ⟨o, ho, ?_⟩
  unfold evF
  rw [cen_turn]
  refine SEvent.ext ?_ rfl rfl rfl
  simp only
  omega
theorem evs_angle {e : SEngine} {t : Int} {f : SFire} {x : SEvent} (h : x ∈ evs e t f) : 0 ≤ x.Angle ∧ x.Angle < 46080 := by
  unfold evs at h
  rw [List.mem_map] at h
  obtain ⟨o, ho, rfl⟩ := h
  unfold evF
  simp only
  omega
theorem evs_len2 (e e' : SEngine) (t : Int) (f : SFire) : (evs e t f).length = (evs e' t f).length := by
  unfold evs; rw [List.length_map, List.length_map]
theorem flat_len2 (e e' : SEngine) (t : Int) (l : List SFire) : (l.flatMap (evs e t)).length = (l.flatMap (evs e' t)).length := by
  induction l with
  | nil => rfl
  | cons x l ih => rw [List.flatMap_cons, List.flatMap_cons, List.length_append, List.length_append, ih, evs_len2 e e']

theorem plain_EventsTurned (x0 : SEngine) (x1 : List SFire) (x2 : Int) (x3 : Int) (_ : wf_SEngine x0) (_ : (wfL wf_SFire) x1) (_ : (fun n => (Lit.int .i64 n).wf = true) x2) (_ : (fun n => (Lit.int .i64 n).wf = true) x3) : magnetolaw23_EventsTurned x0 x1 x2 x3 = some true := by
  unfold magnetolaw23_EventsTurned
  rw [awake23]
  simp only [Option.bind_some, Bool.not_true, cond_false]
  cases hg : (((((decide ((x1.length : Int) > 20)) || (decide (x3 < 0))) || (decide (x3 ≥ 46080))) || (decide (x0.First < 0))) || (decide (x0.First ≥ 46080)))
  · simp only [Bool.or_eq_false_iff, decide_eq_false_iff_not] at hg
    have hl : x1.length ≤ 20 := by omega
    simp only [cond_false]
    rw [w64_of (n := x0.First + x3) (by omega) (by omega), Int.tmod_eq_emod_of_nonneg (by omega), plan_eq _ _ _ (by omega), plan_eq _ _ _ (by omega)]
    simp only [Option.bind_some]
    rw [show (⟨x0.Order, (x0.First + x3) % 46080⟩ : SEngine) = trnE x0 x3 from rfl]
    have key : planV (trnE x0 x3) x1 x2 = (bif !decide (engP x0) then ([], 1) else bif badF x0 x1 then ([], 1) else bif !tickB x2 then ([], 2) else bif dupB x1 then ([], 8) else bif x1.any (long x2) then ([], 2) else (srt (x1.flatMap (evs (trnE x0 x3) x2)), 0)) := by
      unfold planV
      rw [decide_eq_decide.2 (eng_turn (e := x0) x3 (by omega) (by omega))]
      rfl
    rw [key]
    unfold planV
    have nilC : ∀ c : Int, (bif ((([] : List SEvent), c).2 != (([] : List SEvent), c).2) || ((([] : List SEvent), c).1.length : Int) != ((([] : List SEvent), c).1.length : Int) then (some false) else (Option.bind (rangeM (([] : List SEvent), c).1 (magnetolaw23_EventsTurned_b1 x3 (([] : List SEvent), c)) ()) fun (t : Unit ⊕ Bool) => match t with | .inl _ => (some true) | .inr r4 => some r4)) = some true := by
      intro c
      simp only [bne_self_eq_false, Bool.or_self, cond_false]
      rw [rangeM_steps _ (by simp)]
      rfl
    cases decide (engP x0)
    · exact nilC 1
    · cases badF x0 x1
      · cases tickB x2
        · exact nilC 2
        · cases dupB x1
          · cases x1.any (long x2)
            · simp only [Bool.not_true, cond_false, srt_len, flat_len2 x0 (trnE x0 x3) x2 x1, bne_self_eq_false, Bool.or_self]
              have hlen := flat_len (trnE x0 x3) x2 x1
              have hlen0 := flat_len x0 x2 x1
              rw [rangeM_steps _ (by rw [srt_len]; omega)]
              have k := stepsL_any (f := magnetolaw23_EventsTurned_b1 x3 (srt (x1.flatMap (evs (trnE x0 x3) x2)), 0)) (p := fun _ => false) (r := false) (srt (x1.flatMap (evs x0 x2))) 0 (fun i y hy => by
                have hy2 := (srt_perm _).mem_iff.1 hy
                rw [List.mem_flatMap] at hy2
                obtain ⟨f, hf, hyf⟩ := hy2
                have ha := evs_angle hyf
                unfold magnetolaw23_EventsTurned_b1
                rw [w64_of (n := y.Angle + x3) (by omega) (by omega), Int.tmod_eq_emod_of_nonneg (by omega)]
                simp only
                rw [containsE _ _ (by rw [srt_len]; omega) ((srt_perm _).mem_iff.2 (List.mem_flatMap.2 ⟨f, hf, evs_turn x3 x2 hyf⟩))]
                rfl)
              rw [k]
              have : (srt (x1.flatMap (evs x0 x2))).any (fun _ => false) = false := by simp
              rw [this]; rfl
            · exact nilC 2
          · exact nilC 8
      · exact nilC 1
  · rfl
end Go.Pv

/- Ties, printed by gen.py: each function of the loaded program computes its model. -/
import Derived.Test.YtllofihbdbdaeaaModel
import Derived.Test.YtllofihbdbdaeaaProg
import Derived.KernelRfl
namespace Go.Proofs.Ytllofihbdbdaeaa
open Go Go.Pv Go.Proofs
theorem mixed : Try.prog.follows .mixedOrders = true := by kernel_rfl
def tab : Tab := [(3, ⟨1, .int .i64, [.int .i64 0]⟩),
  (4, ⟨1, .bool, [.bool false]⟩),
  (22, ⟨1, .slice 3, [.slice none 0 0]⟩),
  (23, ⟨1, .slice 22, [.slice none 0 0]⟩),
  (25, ⟨3, .struct [(0, 1), (1, 1), (2, 1)], [.slice none 0 0, .slice none 0 0, .slice none 0 0]⟩),
  (27, ⟨2, .struct [(0, 1), (1, 1)], [.slice none 0 0, .slice none 0 0]⟩),
  (29, ⟨4, .struct [(0, 1), (1, 1), (2, 1), (3, 1)], [.int .i64 0, .int .i64 0, .int .i64 0, .int .i64 0]⟩),
  (31, ⟨24, .struct [(0, 3), (3, 3), (6, 3), (9, 3), (12, 2), (14, 2), (16, 2), (18, 2), (20, 4)], [.slice none 0 0, .slice none 0 0, .slice none 0 0, .slice none 0 0, .slice none 0 0, .slice none 0 0, .slice none 0 0, .slice none 0 0, .slice none 0 0, .slice none 0 0, .slice none 0 0, .slice none 0 0, .slice none 0 0, .slice none 0 0, .slice none 0 0, .slice none 0 0, .slice none 0 0, .slice none 0 0, .slice none 0 0, .slice none 0 0, .int .i64 0, .int .i64 0, .int .i64 0, .int .i64 0]⟩),
  (32, ⟨1, .slice 44, [.slice none 0 0]⟩),
  (34, ⟨1, .int .i64, [.int .i64 0]⟩),
  (44, ⟨4, .struct [(0, 1), (1, 1), (2, 1), (3, 1)], [.int .i64 0, .int .i64 0, .int .i64 0, .int .i64 0]⟩),
  (49, ⟨3, .struct [(0, 1), (1, 1), (2, 1)], [.int .i64 0, .int .i64 0, .bool false]⟩),
  (56, ⟨1, .slice 62, [.slice none 0 0]⟩),
  (62, ⟨7, .struct [(0, 1), (1, 1), (2, 1), (3, 1), (4, 1), (5, 1), (6, 1)], [.int .i64 0, .int .i64 0, .int .i64 0, .int .i64 0, .int .i64 0, .int .i64 0, .int .i64 0]⟩)]
theorem ti3 : TIok Try.prog 3 ⟨1, .int .i64, [.int .i64 0]⟩ := ⟨Try.t3, _, by kernel_rfl, rfl, Try.underlying3, rfl, ⟨_, rfl, rfl⟩, Nat.le_of_ble_eq_true rfl⟩
theorem ti4 : TIok Try.prog 4 ⟨1, .bool, [.bool false]⟩ := ⟨Try.t4, _, by kernel_rfl, rfl, Try.underlying4, rfl, ⟨_, rfl, rfl⟩, Nat.le_of_ble_eq_true rfl⟩
theorem ti22 : TIok Try.prog 22 ⟨1, .slice 3, [.slice none 0 0]⟩ := ⟨Try.t22, _, by kernel_rfl, rfl, Try.underlying22, rfl, ⟨_, rfl, rfl⟩, Nat.le_of_ble_eq_true rfl⟩
theorem ti23 : TIok Try.prog 23 ⟨1, .slice 22, [.slice none 0 0]⟩ := ⟨Try.t23, _, by kernel_rfl, rfl, Try.underlying23, rfl, ⟨_, rfl, rfl⟩, Nat.le_of_ble_eq_true rfl⟩
theorem ti25 : TIok Try.prog 25 ⟨3, .struct [(0, 1), (1, 1), (2, 1)], [.slice none 0 0, .slice none 0 0, .slice none 0 0]⟩ := by
  refine ⟨Try.t25, _, by kernel_rfl, rfl, Try.underlying25, ⟨_, rfl, rfl, fun f o n h => ?_⟩, ⟨_, rfl, rfl⟩, Nat.le_of_ble_eq_true rfl⟩
  match f, h with
  | 0, h => cases h; exact ⟨_, Try.t22, rfl, rfl, by kernel_rfl, rfl⟩
  | 1, h => cases h; exact ⟨_, Try.t22, rfl, rfl, by kernel_rfl, rfl⟩
  | 2, h => cases h; exact ⟨_, Try.t23, rfl, rfl, by kernel_rfl, rfl⟩
  | _ + 3, h => simp at h
theorem ti27 : TIok Try.prog 27 ⟨2, .struct [(0, 1), (1, 1)], [.slice none 0 0, .slice none 0 0]⟩ := by
  refine ⟨Try.t27, _, by kernel_rfl, rfl, Try.underlying27, ⟨_, rfl, rfl, fun f o n h => ?_⟩, ⟨_, rfl, rfl⟩, Nat.le_of_ble_eq_true rfl⟩
  match f, h with
  | 0, h => cases h; exact ⟨_, Try.t22, rfl, rfl, by kernel_rfl, rfl⟩
  | 1, h => cases h; exact ⟨_, Try.t22, rfl, rfl, by kernel_rfl, rfl⟩
  | _ + 2, h => simp at h
theorem ti29 : TIok Try.prog 29 ⟨4, .struct [(0, 1), (1, 1), (2, 1), (3, 1)], [.int .i64 0, .int .i64 0, .int .i64 0, .int .i64 0]⟩ := by
  refine ⟨Try.t29, _, by kernel_rfl, rfl, Try.underlying29, ⟨_, rfl, rfl, fun f o n h => ?_⟩, ⟨_, rfl, rfl⟩, Nat.le_of_ble_eq_true rfl⟩
  match f, h with
  | 0, h => cases h; exact ⟨_, Try.t3, rfl, rfl, by kernel_rfl, rfl⟩
  | 1, h => cases h; exact ⟨_, Try.t3, rfl, rfl, by kernel_rfl, rfl⟩
  | 2, h => cases h; exact ⟨_, Try.t3, rfl, rfl, by kernel_rfl, rfl⟩
  | 3, h => cases h; exact ⟨_, Try.t3, rfl, rfl, by kernel_rfl, rfl⟩
  | _ + 4, h => simp at h
theorem ti31 : TIok Try.prog 31 ⟨24, .struct [(0, 3), (3, 3), (6, 3), (9, 3), (12, 2), (14, 2), (16, 2), (18, 2), (20, 4)], [.slice none 0 0, .slice none 0 0, .slice none 0 0, .slice none 0 0, .slice none 0 0, .slice none 0 0, .slice none 0 0, .slice none 0 0, .slice none 0 0, .slice none 0 0, .slice none 0 0, .slice none 0 0, .slice none 0 0, .slice none 0 0, .slice none 0 0, .slice none 0 0, .slice none 0 0, .slice none 0 0, .slice none 0 0, .slice none 0 0, .int .i64 0, .int .i64 0, .int .i64 0, .int .i64 0]⟩ := by
  refine ⟨Try.t31, _, by kernel_rfl, rfl, Try.underlying31, ⟨_, rfl, rfl, fun f o n h => ?_⟩, ⟨_, rfl, rfl⟩, Nat.le_of_ble_eq_true rfl⟩
  match f, h with
  | 0, h => cases h; exact ⟨_, Try.t25, rfl, rfl, by kernel_rfl, rfl⟩
  | 1, h => cases h; exact ⟨_, Try.t25, rfl, rfl, by kernel_rfl, rfl⟩
  | 2, h => cases h; exact ⟨_, Try.t25, rfl, rfl, by kernel_rfl, rfl⟩
  | 3, h => cases h; exact ⟨_, Try.t25, rfl, rfl, by kernel_rfl, rfl⟩
  | 4, h => cases h; exact ⟨_, Try.t27, rfl, rfl, by kernel_rfl, rfl⟩
  | 5, h => cases h; exact ⟨_, Try.t27, rfl, rfl, by kernel_rfl, rfl⟩
  | 6, h => cases h; exact ⟨_, Try.t27, rfl, rfl, by kernel_rfl, rfl⟩
  | 7, h => cases h; exact ⟨_, Try.t27, rfl, rfl, by kernel_rfl, rfl⟩
  | 8, h => cases h; exact ⟨_, Try.t29, rfl, rfl, by kernel_rfl, rfl⟩
  | _ + 9, h => simp at h
theorem ti32 : TIok Try.prog 32 ⟨1, .slice 44, [.slice none 0 0]⟩ := ⟨Try.t32, _, by kernel_rfl, rfl, Try.underlying32, rfl, ⟨_, rfl, rfl⟩, Nat.le_of_ble_eq_true rfl⟩
theorem ti34 : TIok Try.prog 34 ⟨1, .int .i64, [.int .i64 0]⟩ := ⟨Try.t34, _, by kernel_rfl, rfl, Try.underlying34, rfl, ⟨_, rfl, rfl⟩, Nat.le_of_ble_eq_true rfl⟩
theorem ti44 : TIok Try.prog 44 ⟨4, .struct [(0, 1), (1, 1), (2, 1), (3, 1)], [.int .i64 0, .int .i64 0, .int .i64 0, .int .i64 0]⟩ := by
  refine ⟨Try.t44, _, by kernel_rfl, rfl, Try.underlying44, ⟨_, rfl, rfl, fun f o n h => ?_⟩, ⟨_, rfl, rfl⟩, Nat.le_of_ble_eq_true rfl⟩
  match f, h with
  | 0, h => cases h; exact ⟨_, Try.t3, rfl, rfl, by kernel_rfl, rfl⟩
  | 1, h => cases h; exact ⟨_, Try.t3, rfl, rfl, by kernel_rfl, rfl⟩
  | 2, h => cases h; exact ⟨_, Try.t3, rfl, rfl, by kernel_rfl, rfl⟩
  | 3, h => cases h; exact ⟨_, Try.t3, rfl, rfl, by kernel_rfl, rfl⟩
  | _ + 4, h => simp at h
theorem ti49 : TIok Try.prog 49 ⟨3, .struct [(0, 1), (1, 1), (2, 1)], [.int .i64 0, .int .i64 0, .bool false]⟩ := by
  refine ⟨Try.t49, _, by kernel_rfl, rfl, Try.underlying49, ⟨_, rfl, rfl, fun f o n h => ?_⟩, ⟨_, rfl, rfl⟩, Nat.le_of_ble_eq_true rfl⟩
  match f, h with
  | 0, h => cases h; exact ⟨_, Try.t3, rfl, rfl, by kernel_rfl, rfl⟩
  | 1, h => cases h; exact ⟨_, Try.t3, rfl, rfl, by kernel_rfl, rfl⟩
  | 2, h => cases h; exact ⟨_, Try.t4, rfl, rfl, by kernel_rfl, rfl⟩
  | _ + 3, h => simp at h
theorem ti56 : TIok Try.prog 56 ⟨1, .slice 62, [.slice none 0 0]⟩ := ⟨Try.t56, _, by kernel_rfl, rfl, Try.underlying56, rfl, ⟨_, rfl, rfl⟩, Nat.le_of_ble_eq_true rfl⟩
theorem ti62 : TIok Try.prog 62 ⟨7, .struct [(0, 1), (1, 1), (2, 1), (3, 1), (4, 1), (5, 1), (6, 1)], [.int .i64 0, .int .i64 0, .int .i64 0, .int .i64 0, .int .i64 0, .int .i64 0, .int .i64 0]⟩ := by
  refine ⟨Try.t62, _, by kernel_rfl, rfl, Try.underlying62, ⟨_, rfl, rfl, fun f o n h => ?_⟩, ⟨_, rfl, rfl⟩, Nat.le_of_ble_eq_true rfl⟩
  match f, h with
  | 0, h => cases h; exact ⟨_, Try.t3, rfl, rfl, by kernel_rfl, rfl⟩
  | 1, h => cases h; exact ⟨_, Try.t3, rfl, rfl, by kernel_rfl, rfl⟩
  | 2, h => cases h; exact ⟨_, Try.t3, rfl, rfl, by kernel_rfl, rfl⟩
  | 3, h => cases h; exact ⟨_, Try.t3, rfl, rfl, by kernel_rfl, rfl⟩
  | 4, h => cases h; exact ⟨_, Try.t3, rfl, rfl, by kernel_rfl, rfl⟩
  | 5, h => cases h; exact ⟨_, Try.t3, rfl, rfl, by kernel_rfl, rfl⟩
  | 6, h => cases h; exact ⟨_, Try.t3, rfl, rfl, by kernel_rfl, rfl⟩
  | _ + 7, h => simp at h
theorem htab : TabOk Try.prog tab := by
  intro t ti h
  unfold tab at h
  refine tab_step h ti3 fun h => ?_
  refine tab_step h ti4 fun h => ?_
  refine tab_step h ti22 fun h => ?_
  refine tab_step h ti23 fun h => ?_
  refine tab_step h ti25 fun h => ?_
  refine tab_step h ti27 fun h => ?_
  refine tab_step h ti29 fun h => ?_
  refine tab_step h ti31 fun h => ?_
  refine tab_step h ti32 fun h => ?_
  refine tab_step h ti34 fun h => ?_
  refine tab_step h ti44 fun h => ?_
  refine tab_step h ti49 fun h => ?_
  refine tab_step h ti56 fun h => ?_
  refine tab_step h ti62 fun h => ?_
  cases h
theorem eqi_49 (d : Nat) (w : World) (a0 : Int) (a1 : Int) (a2 : Bool) (b0 : Int) (b1 : Int) (b2 : Bool) : (Op.equalIn (d + 2) 49 (.agg #[.int .i64 a0, .int .i64 a1, .bool a2]) (.agg #[.int .i64 b0, .int .i64 b1, .bool b2])).run Try.prog w = .ok ((a0 == b0) && ((a1 == b1) && ((a2 == b2) && true))) w :=
  eq_struct (d := d + 1) (fs := [⟨ "Over", 3, 0, false, "", "", 0⟩, ⟨ "Calm", 3, 1, false, "", "", 8⟩, ⟨ "Off", 4, 2, false, "", "", 16⟩]) (by kernel_rfl) (by kernel_rfl) (by kernel_rfl) (eqf_cons (by decide) (part_one ti3 rfl rfl) (part_one ti3 rfl rfl) (run_equalIn_int w _ 3 _ _ _ _ Try.underlying3) (eqf_cons (by decide) (part_one ti3 rfl rfl) (part_one ti3 rfl rfl) (run_equalIn_int w _ 3 _ _ _ _ Try.underlying3) (eqf_cons (by decide) (part_one ti4 rfl rfl) (part_one ti4 rfl rfl) (run_equalIn_bool' w _ 4 _ _ Try.underlying4) (eqf_nil))))
theorem eqv_49 (a0 : Int) (a1 : Int) (a2 : Bool) (b0 : Int) (b1 : Int) (b2 : Bool) : EqOk Try.prog 49 [.int .i64 a0, .int .i64 a1, .bool a2] [.int .i64 b0, .int .i64 b1, .bool b2] ((a0 == b0) && ((a1 == b1) && ((a2 == b2) && true))) := ⟨fun w => eqi_49 9998 w a0 a1 a2 b0 b1 b2, by kernel_rfl⟩
-- slices.IndexFunc[[]magneto/api.Request,magneto/api.Request]
set_option maxRecDepth 100000 in
theorem tie_slices_IndexFunc_sRequest (s : List SRequest) (n2 : Nat) (f2 : SRequest → Option Bool) (h2 : ∀ x0, TieF Try.prog n2 [A_SRequest x0] (f2 x0) (fun r => .t (tB r))) : TieF Try.prog 47 [.t (tS enc_SRequest s), T.fn n2] (slices_IndexFunc_sRequest s f2) (fun r => .t (tI r)) := by
  refine TieF.intro htab 19 [.tmp 4] Try.call47 Try.func47 rfl rfl rfl (Nat.le_of_ble_eq_true rfl) fun w0 L => ?_
  refine TieS.seq ?_
  refine TieS.region ?_
  refine TieO.run 1 rfl ?_
  refine TieO.nil ?_
  refine TieS.seq ?_
  refine TieS.seq ?_
  refine TieS.region ?_
  refine TieO.run 3 rfl ?_
  refine TieO.nil ?_
  refine TieS.block ?_
  refine TieS.loop (fun p => ⟨[(0, .t (tS enc_SRequest s)), (1, T.fn n2), (7, .t (tI (s.length : Int))), (8, .t (tI p.1))], []⟩) (fun b e σ' => match b with | .inl t => e = .exit 0 ∧ Sub ⟨[], []⟩ σ' | .inr r => e = .ret ∧ retT tab σ' [.tmp 4] = some (((fun r => .t (tI r)) : Int → T) r)) (.of rfl rfl) ?_ ?_
  · rintro ⟨i, s2⟩
    refine TieS.seq ?_
    refine TieS.region ?_
    refine TieO.run 1 rfl ?_
    refine TieO.nil ?_
    refine TieS.seq ?_
    refine TieS.cond rfl ?_ ?_
    · refine TieS.skip ?_
      refine TieS.seq ?_
      refine TieX.sub (σ' := ⟨[(0, .t (tS enc_SRequest s)), (1, T.fn n2), (7, .t (tI (s.length : Int))), (8, .t (tI i))], []⟩) (.of rfl rfl) ?_
      refine TieS.bind (Q₁ := fun f e σ' => match f with | .next t => e = .normal ∧ Sub ⟨[(0, .t (tS enc_SRequest s)), (1, T.fn n2), (7, .t (tI (s.length : Int))), (8, .t (tI i))], []⟩ σ' | .brk t => e = .exit 0 ∧ Sub ⟨[], []⟩ σ' | .ret r => e = .ret ∧ retT tab σ' [.tmp 4] = some (((fun r => .t (tI r)) : Int → T) r)) ?_ ?_
      · refine TieS.block ?_
        refine TieS.seq ?_
        refine TieS.region ?_
        refine TieO.run 2 rfl ?_
        refine TieO.nil ?_
        refine TieS.seq ?_
        refine TieS.region ?_
        refine TieO.run 3 rfl ?_
        refine TieO.index rfl rfl rfl rfl rfl rfl rfl rfl (fun _ => rfl) fun x hx => ?_
        refine TieO.run 1 rfl ?_
        refine TieO.call _ rfl rfl rfl (h2 x) (fun _ => rfl) fun v => ?_
        refine TieO.nil ?_
        refine TieS.cond rfl ?_ ?_
        · refine TieS.seq ?_
          refine TieS.region ?_
          refine TieO.run 2 rfl ?_
          refine TieO.nil ?_
          exact TieS.ret ⟨rfl, rfl⟩
        · refine TieS.skip ?_
          refine TieS.endb ?_
          exact TieS.leaf ⟨rfl, .of rfl rfl⟩
      rintro (t | t | r) e σ' _ hq
      · obtain ⟨rfl, hs⟩ := hq
        refine TieX.sub hs ?_
        refine TieS.region ?_
        refine TieO.run 2 rfl ?_
        refine TieO.nil ?_
        exact TieS.leaf ⟨rfl, .of rfl rfl⟩
      · obtain ⟨rfl, hs⟩ := hq
        exact TieX.exitOut rfl ⟨(fun h => by cases h), rfl, hs⟩
      · obtain ⟨rfl, hs⟩ := hq
        exact TieX.ret ⟨(fun h => by cases h), rfl, hs⟩
    · exact TieS.exitOut rfl ⟨(fun h => by cases h), rfl, .of rfl rfl⟩
  rintro (s3 | r2) e σ' _ hq
  · obtain ⟨rfl, hs⟩ := hq
    refine TieX.exit rfl (TieX.sub hs ?_)
    refine TieS.seq ?_
    refine TieS.region ?_
    refine TieO.run 1 rfl ?_
    refine TieO.nil ?_
    exact TieS.ret ⟨.inl rfl, rfl⟩
  · obtain ⟨rfl, hs⟩ := hq
    exact TieX.ret ⟨.inl rfl, hs⟩
-- slices.ContainsFunc[[]magneto/api.Request,magneto/api.Request]
set_option maxRecDepth 100000 in
theorem tie_slices_ContainsFunc_sRequest (s : List SRequest) (n2 : Nat) (f2 : SRequest → Option Bool) (h2 : ∀ x0, TieF Try.prog n2 [A_SRequest x0] (f2 x0) (fun r => .t (tB r))) : TieF Try.prog 17 [.t (tS enc_SRequest s), T.fn n2] (slices_ContainsFunc_sRequest s f2) (fun r => .t (tB r)) := by
  refine TieF.intro htab 9 [.tmp 4] Try.call17 Try.func17 rfl rfl rfl (Nat.le_of_ble_eq_true rfl) fun w0 L => ?_
  refine TieS.seq ?_
  refine TieS.region ?_
  refine TieO.run 1 rfl ?_
  refine TieO.nil ?_
  refine TieS.seq ?_
  refine TieS.region ?_
  refine TieO.run 2 rfl ?_
  refine TieO.call _ rfl rfl rfl (tie_slices_IndexFunc_sRequest s n2 f2 h2) (fun _ => rfl) fun v => ?_
  refine TieO.run 2 rfl ?_
  refine TieO.nil ?_
  exact TieS.ret ⟨.inl rfl, rfl⟩
-- magneto/surface.element
set_option maxRecDepth 100000 in
theorem tie_surface_element (n2 : Int) : TieF Try.prog 60 [.t (tI n2)] (surface_element n2) (fun r => .t (tB r)) := by
  refine TieF.intro htab 9 [.tmp 2] Try.call60 Try.func60 rfl rfl rfl (Nat.le_of_ble_eq_true rfl) fun w0 L => ?_
  refine TieS.seq ?_
  refine TieS.region ?_
  refine TieO.run 1 rfl ?_
  refine TieO.nil ?_
  refine TieS.seq ?_
  refine TieS.region ?_
  refine TieO.run 3 rfl ?_
  refine TieO.selAnd (v := decide (n2 ≤ 1073741824)) 3 5 (fun b => ⟨[(8, .t (tB b))], []⟩) rfl ?_ ?_ ?_
  · refine TieO.run 3 rfl ?_
    refine TieO.nil ?_
    exact TieS.leaf ⟨rfl, .of rfl rfl⟩
  · refine TieO.run 3 rfl ?_
    refine TieO.nil ?_
    exact TieS.leaf ⟨rfl, .of rfl rfl⟩
  refine TieO.run 1 rfl ?_
  refine TieO.nil ?_
  exact TieS.ret ⟨.inl rfl, rfl⟩
-- magneto/surface.axis
set_option maxRecDepth 100000 in
theorem tie_surface_axis (l : List Int) : TieF Try.prog 57 [.t (tS encI l)] (surface_axis l) (fun r => .t (tB r)) := by
  refine TieF.intro htab 37 [.tmp 2] Try.call57 Try.func57 rfl rfl rfl (Nat.le_of_ble_eq_true rfl) fun w0 L => ?_
  refine TieS.seq ?_
  refine TieS.region ?_
  refine TieO.run 1 rfl ?_
  refine TieO.nil ?_
  refine TieS.seq ?_
  refine TieS.seq ?_
  refine TieS.region ?_
  refine TieO.run 4 rfl ?_
  refine TieO.selOr (v := decide ((l.length : Int) > 32)) 4 8 (fun b => ⟨[(0, .t (tS encI l)), (12, .t (tB b))], []⟩) rfl ?_ ?_ ?_
  · refine TieO.run 4 rfl ?_
    refine TieO.nil ?_
    exact TieS.leaf ⟨rfl, .of rfl rfl⟩
  · refine TieO.run 4 rfl ?_
    refine TieO.nil ?_
    exact TieS.leaf ⟨rfl, .of rfl rfl⟩
  refine TieO.nil ?_
  refine TieS.cond rfl ?_ ?_
  · refine TieS.seq ?_
    refine TieS.region ?_
    refine TieO.run 1 rfl ?_
    refine TieO.nil ?_
    exact TieS.ret ⟨.inl rfl, rfl⟩
  · refine TieS.skip ?_
    refine TieS.seq ?_
    refine TieS.seq ?_
    refine TieS.region ?_
    refine TieO.run 3 rfl ?_
    refine TieO.nil ?_
    refine TieS.block ?_
    refine TieS.loop (fun p => ⟨[(0, .t (tS encI l)), (13, .t (tS encI l)), (14, .t (tI (l.length : Int))), (15, .t (tI p.1))], []⟩) (fun b e σ' => match b with | .inl t => e = .exit 0 ∧ Sub ⟨[], []⟩ σ' | .inr r => e = .ret ∧ retT tab σ' [.tmp 2] = some (((fun r => .t (tB r)) : Bool → T) r)) (.of rfl rfl) ?_ ?_
    · rintro ⟨i, s⟩
      refine TieS.seq ?_
      refine TieS.region ?_
      refine TieO.run 1 rfl ?_
      refine TieO.nil ?_
      refine TieS.seq ?_
      refine TieS.cond rfl ?_ ?_
      · refine TieS.skip ?_
        refine TieS.seq ?_
        refine TieX.sub (σ' := ⟨[(0, .t (tS encI l)), (13, .t (tS encI l)), (14, .t (tI (l.length : Int))), (15, .t (tI i))], []⟩) (.of rfl rfl) ?_
        refine TieS.bind (Q₁ := fun f e σ' => match f with | .next t => e = .normal ∧ Sub ⟨[(0, .t (tS encI l)), (13, .t (tS encI l)), (14, .t (tI (l.length : Int))), (15, .t (tI i))], []⟩ σ' | .brk t => e = .exit 0 ∧ Sub ⟨[], []⟩ σ' | .ret r => e = .ret ∧ retT tab σ' [.tmp 2] = some (((fun r => .t (tB r)) : Bool → T) r)) ?_ ?_
        · refine TieS.block ?_
          refine TieS.seq ?_
          refine TieS.region ?_
          refine TieO.run 1 rfl ?_
          refine TieO.index rfl rfl rfl rfl rfl rfl rfl rfl (fun _ => rfl) fun x hx => ?_
          refine TieO.run 3 rfl ?_
          refine TieO.nil ?_
          refine TieS.seq ?_
          refine TieS.region ?_
          refine TieO.run 1 rfl ?_
          refine TieO.call _ rfl rfl rfl (tie_surface_element x) (fun _ => rfl) fun v => ?_
          refine TieO.run 2 rfl ?_
          refine TieO.bind 12 (fun b3 => ⟨[(0, .t (tS encI l)), (13, .t (tS encI l)), (14, .t (tI (l.length : Int))), (15, .t (tI i)), (35, .t (tB b3))], []⟩) (TieO.split 23 rfl ?_ ?_) fun b3 _ => ?_
          · refine TieO.run 12 rfl ?_
            refine TieO.nil ?_
            exact TieS.leaf ⟨rfl, .of rfl rfl⟩
          · refine TieO.run 3 rfl ?_
            refine TieO.bind 8 (fun b2 => ⟨[(0, .t (tS encI l)), (13, .t (tS encI l)), (14, .t (tI (l.length : Int))), (15, .t (tI i)), (23, .t (tB false)), (34, .t (tB b2))], []⟩) (TieO.split 26 rfl ?_ ?_) fun b2 _ => ?_
            · refine TieO.run 4 rfl ?_
              refine TieO.index rfl rfl rfl rfl rfl rfl rfl rfl (fun _ => rfl) fun x2 hx2 => ?_
              refine TieO.run 3 rfl ?_
              refine TieO.nil ?_
              exact TieS.leaf ⟨rfl, .of rfl rfl⟩
            · refine TieO.run 8 rfl ?_
              refine TieO.nil ?_
              exact TieS.leaf ⟨rfl, .of rfl rfl⟩
            refine TieO.run 1 rfl ?_
            refine TieO.nil ?_
            exact TieS.leaf ⟨rfl, .of rfl rfl⟩
          refine TieO.nil ?_
          refine TieS.cond rfl ?_ ?_
          · refine TieS.seq ?_
            refine TieS.region ?_
            refine TieO.run 1 rfl ?_
            refine TieO.nil ?_
            exact TieS.ret ⟨rfl, rfl⟩
          · refine TieS.skip ?_
            refine TieS.endb ?_
            exact TieS.leaf ⟨rfl, .of rfl rfl⟩
        rintro (t | t | r) e σ' _ hq
        · obtain ⟨rfl, hs⟩ := hq
          refine TieX.sub hs ?_
          refine TieS.region ?_
          refine TieO.run 2 rfl ?_
          refine TieO.nil ?_
          exact TieS.leaf ⟨rfl, .of rfl rfl⟩
        · obtain ⟨rfl, hs⟩ := hq
          exact TieX.exitOut rfl ⟨(fun h => by cases h), rfl, hs⟩
        · obtain ⟨rfl, hs⟩ := hq
          exact TieX.ret ⟨(fun h => by cases h), rfl, hs⟩
      · exact TieS.exitOut rfl ⟨(fun h => by cases h), rfl, .of rfl rfl⟩
    rintro (s2 | r2) e σ' _ hq
    · obtain ⟨rfl, hs⟩ := hq
      refine TieX.exit rfl (TieX.sub hs ?_)
      refine TieS.seq ?_
      refine TieS.region ?_
      refine TieO.run 1 rfl ?_
      refine TieO.nil ?_
      exact TieS.ret ⟨.inl rfl, rfl⟩
    · obtain ⟨rfl, hs⟩ := hq
      exact TieX.ret ⟨.inl rfl, hs⟩
-- slices.IndexFunc[[]int,int]
set_option maxRecDepth 100000 in
theorem tie_slices_IndexFunc_sint (s : List Int) (n2 : Nat) (f2 : Int → Option Bool) (h2 : ∀ x0, TieF Try.prog n2 [.t (tI x0)] (f2 x0) (fun r => .t (tB r))) : TieF Try.prog 76 [.t (tS encI s), T.fn n2] (slices_IndexFunc_sint s f2) (fun r => .t (tI r)) := by
  refine TieF.intro htab 19 [.tmp 4] Try.call76 Try.func76 rfl rfl rfl (Nat.le_of_ble_eq_true rfl) fun w0 L => ?_
  refine TieS.seq ?_
  refine TieS.region ?_
  refine TieO.run 1 rfl ?_
  refine TieO.nil ?_
  refine TieS.seq ?_
  refine TieS.seq ?_
  refine TieS.region ?_
  refine TieO.run 3 rfl ?_
  refine TieO.nil ?_
  refine TieS.block ?_
  refine TieS.loop (fun p => ⟨[(0, .t (tS encI s)), (1, T.fn n2), (7, .t (tI (s.length : Int))), (8, .t (tI p.1))], []⟩) (fun b e σ' => match b with | .inl t => e = .exit 0 ∧ Sub ⟨[], []⟩ σ' | .inr r => e = .ret ∧ retT tab σ' [.tmp 4] = some (((fun r => .t (tI r)) : Int → T) r)) (.of rfl rfl) ?_ ?_
  · rintro ⟨i, s2⟩
    refine TieS.seq ?_
    refine TieS.region ?_
    refine TieO.run 1 rfl ?_
    refine TieO.nil ?_
    refine TieS.seq ?_
    refine TieS.cond rfl ?_ ?_
    · refine TieS.skip ?_
      refine TieS.seq ?_
      refine TieX.sub (σ' := ⟨[(0, .t (tS encI s)), (1, T.fn n2), (7, .t (tI (s.length : Int))), (8, .t (tI i))], []⟩) (.of rfl rfl) ?_
      refine TieS.bind (Q₁ := fun f e σ' => match f with | .next t => e = .normal ∧ Sub ⟨[(0, .t (tS encI s)), (1, T.fn n2), (7, .t (tI (s.length : Int))), (8, .t (tI i))], []⟩ σ' | .brk t => e = .exit 0 ∧ Sub ⟨[], []⟩ σ' | .ret r => e = .ret ∧ retT tab σ' [.tmp 4] = some (((fun r => .t (tI r)) : Int → T) r)) ?_ ?_
      · refine TieS.block ?_
        refine TieS.seq ?_
        refine TieS.region ?_
        refine TieO.run 2 rfl ?_
        refine TieO.nil ?_
        refine TieS.seq ?_
        refine TieS.region ?_
        refine TieO.run 3 rfl ?_
        refine TieO.index rfl rfl rfl rfl rfl rfl rfl rfl (fun _ => rfl) fun x hx => ?_
        refine TieO.run 1 rfl ?_
        refine TieO.call _ rfl rfl rfl (h2 x) (fun _ => rfl) fun v => ?_
        refine TieO.nil ?_
        refine TieS.cond rfl ?_ ?_
        · refine TieS.seq ?_
          refine TieS.region ?_
          refine TieO.run 2 rfl ?_
          refine TieO.nil ?_
          exact TieS.ret ⟨rfl, rfl⟩
        · refine TieS.skip ?_
          refine TieS.endb ?_
          exact TieS.leaf ⟨rfl, .of rfl rfl⟩
      rintro (t | t | r) e σ' _ hq
      · obtain ⟨rfl, hs⟩ := hq
        refine TieX.sub hs ?_
        refine TieS.region ?_
        refine TieO.run 2 rfl ?_
        refine TieO.nil ?_
        exact TieS.leaf ⟨rfl, .of rfl rfl⟩
      · obtain ⟨rfl, hs⟩ := hq
        exact TieX.exitOut rfl ⟨(fun h => by cases h), rfl, hs⟩
      · obtain ⟨rfl, hs⟩ := hq
        exact TieX.ret ⟨(fun h => by cases h), rfl, hs⟩
    · exact TieS.exitOut rfl ⟨(fun h => by cases h), rfl, .of rfl rfl⟩
  rintro (s3 | r2) e σ' _ hq
  · obtain ⟨rfl, hs⟩ := hq
    refine TieX.exit rfl (TieX.sub hs ?_)
    refine TieS.seq ?_
    refine TieS.region ?_
    refine TieO.run 1 rfl ?_
    refine TieO.nil ?_
    exact TieS.ret ⟨.inl rfl, rfl⟩
  · obtain ⟨rfl, hs⟩ := hq
    exact TieX.ret ⟨.inl rfl, hs⟩
-- slices.ContainsFunc[[]int,int]
set_option maxRecDepth 100000 in
theorem tie_slices_ContainsFunc_sint (s : List Int) (n2 : Nat) (f2 : Int → Option Bool) (h2 : ∀ x0, TieF Try.prog n2 [.t (tI x0)] (f2 x0) (fun r => .t (tB r))) : TieF Try.prog 58 [.t (tS encI s), T.fn n2] (slices_ContainsFunc_sint s f2) (fun r => .t (tB r)) := by
  refine TieF.intro htab 9 [.tmp 4] Try.call58 Try.func58 rfl rfl rfl (Nat.le_of_ble_eq_true rfl) fun w0 L => ?_
  refine TieS.seq ?_
  refine TieS.region ?_
  refine TieO.run 1 rfl ?_
  refine TieO.nil ?_
  refine TieS.seq ?_
  refine TieS.region ?_
  refine TieO.run 2 rfl ?_
  refine TieO.call _ rfl rfl rfl (tie_slices_IndexFunc_sint s n2 f2 h2) (fun _ => rfl) fun v => ?_
  refine TieO.run 2 rfl ?_
  refine TieO.nil ?_
  exact TieS.ret ⟨.inl rfl, rfl⟩
-- magneto/surface.Valid$1
set_option maxRecDepth 100000 in
theorem tie_surface_Valid_1 (z : Int) : TieF Try.prog 59 [.t (tI z)] (surface_Valid_1 z) (fun r => .t (tB r)) := by
  refine TieF.intro htab 6 [.tmp 2] Try.call59 Try.func59 rfl rfl rfl (Nat.le_of_ble_eq_true rfl) fun w0 L => ?_
  refine TieS.seq ?_
  refine TieS.region ?_
  refine TieO.run 1 rfl ?_
  refine TieO.nil ?_
  refine TieS.seq ?_
  refine TieS.region ?_
  refine TieO.run 1 rfl ?_
  refine TieO.call _ rfl rfl rfl (tie_surface_element z) (fun _ => rfl) fun v => ?_
  refine TieO.run 2 rfl ?_
  refine TieO.nil ?_
  exact TieS.ret ⟨.inl rfl, rfl⟩
-- magneto/surface.Valid
set_option maxRecDepth 100000 in
theorem tie_surface_Valid (m2 : SMap) : TieF Try.prog 36 [A_SMap m2] (surface_Valid m2) (fun r => .t (tB r)) := by
  refine TieF.intro htab 42 [.tmp 2] Try.call36 Try.func36 rfl rfl rfl (Nat.le_of_ble_eq_true rfl) fun w0 L => ?_
  refine TieS.seq ?_
  refine TieS.region ?_
  refine TieO.run 2 rfl ?_
  refine TieO.nil ?_
  refine TieS.seq ?_
  refine TieS.seq ?_
  refine TieS.region ?_
  refine TieO.run 2 rfl ?_
  refine TieO.call _ rfl rfl rfl (tie_surface_axis m2.X) (fun _ => rfl) fun v => ?_
  refine TieO.run 2 rfl ?_
  refine TieO.bind 5 (fun b2 => ⟨[(1, .ptr 1 0), (14, .t (tB b2))], [(1, .box [.t (tS encI m2.X), .t (tS encI m2.Y), .t (tS (encS encI) m2.Z)])]⟩) (TieO.split 9 rfl ?_ ?_) fun b2 _ => ?_
  · refine TieO.run 5 rfl ?_
    refine TieO.nil ?_
    exact TieS.leaf ⟨rfl, .of rfl rfl⟩
  · refine TieO.run 2 rfl ?_
    refine TieO.call _ rfl rfl rfl (tie_surface_axis m2.Y) (fun _ => rfl) fun v2 => ?_
    refine TieO.run 2 rfl ?_
    refine TieO.nil ?_
    exact TieS.leaf ⟨rfl, .of rfl rfl⟩
  refine TieO.run 1 rfl ?_
  refine TieO.selOr (v := ((m2.Z.length : Int) != (m2.X.length : Int))) 8 15 (fun b => ⟨[(1, .ptr 1 0), (23, .t (tB b))], [(1, .box [.t (tS encI m2.X), .t (tS encI m2.Y), .t (tS (encS encI) m2.Z)])]⟩) rfl ?_ ?_ ?_
  · refine TieO.run 8 rfl ?_
    refine TieO.nil ?_
    exact TieS.leaf ⟨rfl, .of rfl rfl⟩
  · refine TieO.run 8 rfl ?_
    refine TieO.nil ?_
    exact TieS.leaf ⟨rfl, .of rfl rfl⟩
  refine TieO.nil ?_
  refine TieS.cond rfl ?_ ?_
  · refine TieS.seq ?_
    refine TieS.region ?_
    refine TieO.run 1 rfl ?_
    refine TieO.nil ?_
    exact TieS.ret ⟨.inl rfl, rfl⟩
  · refine TieS.skip ?_
    refine TieS.seq ?_
    refine TieS.seq ?_
    refine TieS.region ?_
    refine TieO.run 4 rfl ?_
    refine TieO.nil ?_
    refine TieS.block ?_
    refine TieS.loop (fun p => ⟨[(1, .ptr 1 0), (25, .t (tS (encS encI) m2.Z)), (26, .t (tI (m2.Z.length : Int))), (27, .t (tI p.1))], [(1, .box [.t (tS encI m2.X), .t (tS encI m2.Y), .t (tS (encS encI) m2.Z)])]⟩) (fun b e σ' => match b with | .inl t => e = .exit 0 ∧ Sub ⟨[], []⟩ σ' | .inr r => e = .ret ∧ retT tab σ' [.tmp 2] = some (((fun r => .t (tB r)) : Bool → T) r)) (.of rfl rfl) ?_ ?_
    · rintro ⟨i, s⟩
      refine TieS.seq ?_
      refine TieS.region ?_
      refine TieO.run 1 rfl ?_
      refine TieO.nil ?_
      refine TieS.seq ?_
      refine TieS.cond rfl ?_ ?_
      · refine TieS.skip ?_
        refine TieS.seq ?_
        refine TieX.pre fun x hx => ?_
        refine TieX.sub (σ' := ⟨[(1, .ptr 1 0), (25, .t (tS (encS encI) m2.Z)), (26, .t (tI (m2.Z.length : Int))), (27, .t (tI i))], [(1, .box [.t (tS encI m2.X), .t (tS encI m2.Y), .t (tS (encS encI) m2.Z)])]⟩) (.of rfl rfl) ?_
        refine TieS.bind (Q₁ := fun f e σ' => match f with | .next t => e = .normal ∧ Sub ⟨[(1, .ptr 1 0), (25, .t (tS (encS encI) m2.Z)), (26, .t (tI (m2.Z.length : Int))), (27, .t (tI i))], [(1, .box [.t (tS encI m2.X), .t (tS encI m2.Y), .t (tS (encS encI) m2.Z)])]⟩ σ' | .brk t => e = .exit 0 ∧ Sub ⟨[], []⟩ σ' | .ret r => e = .ret ∧ retT tab σ' [.tmp 2] = some (((fun r => .t (tB r)) : Bool → T) r)) ?_ ?_
        · refine TieS.block ?_
          refine TieS.seq ?_
          refine TieS.region ?_
          refine TieO.indexH hx rfl rfl rfl rfl rfl rfl rfl rfl (fun _ => rfl) ?_
          refine TieO.run 2 rfl ?_
          refine TieO.nil ?_
          refine TieS.seq ?_
          refine TieS.region ?_
          refine TieO.run 7 rfl ?_
          refine TieO.bind 3 (fun b3 => ⟨[(1, .ptr 1 0), (25, .t (tS (encS encI) m2.Z)), (26, .t (tI (m2.Z.length : Int))), (27, .t (tI i)), (40, .t (tB b3))], [(1, .box [.t (tS encI m2.X), .t (tS encI m2.Y), .t (tS (encS encI) m2.Z)])]⟩) (TieO.split 37 rfl ?_ ?_) fun b3 _ => ?_
          · refine TieO.run 3 rfl ?_
            refine TieO.nil ?_
            exact TieS.leaf ⟨rfl, .of rfl rfl⟩
          · refine TieO.run 1 rfl ?_
            refine TieO.call _ rfl rfl rfl (tie_slices_ContainsFunc_sint x 59 surface_Valid_1 tie_surface_Valid_1) (fun _ => rfl) fun v3 => ?_
            refine TieO.run 1 rfl ?_
            refine TieO.nil ?_
            exact TieS.leaf ⟨rfl, .of rfl rfl⟩
          refine TieO.nil ?_
          refine TieS.cond rfl ?_ ?_
          · refine TieS.seq ?_
            refine TieS.region ?_
            refine TieO.run 1 rfl ?_
            refine TieO.nil ?_
            exact TieS.ret ⟨rfl, rfl⟩
          · refine TieS.skip ?_
            refine TieS.endb ?_
            exact TieS.leaf ⟨rfl, .of rfl rfl⟩
        rintro (t | t | r) e σ' _ hq
        · obtain ⟨rfl, hs⟩ := hq
          refine TieX.sub hs ?_
          refine TieS.region ?_
          refine TieO.run 2 rfl ?_
          refine TieO.nil ?_
          exact TieS.leaf ⟨rfl, .of rfl rfl⟩
        · obtain ⟨rfl, hs⟩ := hq
          exact TieX.exitOut rfl ⟨(fun h => by cases h), rfl, hs⟩
        · obtain ⟨rfl, hs⟩ := hq
          exact TieX.ret ⟨(fun h => by cases h), rfl, hs⟩
      · exact TieS.exitOut rfl ⟨(fun h => by cases h), rfl, .of rfl rfl⟩
    rintro (s2 | r2) e σ' _ hq
    · obtain ⟨rfl, hs⟩ := hq
      refine TieX.exit rfl (TieX.sub hs ?_)
      refine TieS.seq ?_
      refine TieS.region ?_
      refine TieO.run 1 rfl ?_
      refine TieO.nil ?_
      exact TieS.ret ⟨.inl rfl, rfl⟩
    · obtain ⟨rfl, hs⟩ := hq
      exact TieX.ret ⟨.inl rfl, hs⟩
-- magneto/arbiter.torque
set_option maxRecDepth 100000 in
theorem tie_arbiter_torque (t2 : Int) : TieF Try.prog 61 [.t (tI t2)] (arbiter_torque t2) (fun r => .t (tB r)) := by
  refine TieF.intro htab 9 [.tmp 2] Try.call61 Try.func61 rfl rfl rfl (Nat.le_of_ble_eq_true rfl) fun w0 L => ?_
  refine TieS.seq ?_
  refine TieS.region ?_
  refine TieO.run 1 rfl ?_
  refine TieO.nil ?_
  refine TieS.seq ?_
  refine TieS.region ?_
  refine TieO.run 3 rfl ?_
  refine TieO.selAnd (v := decide (t2 ≤ 10000)) 3 5 (fun b => ⟨[(8, .t (tB b))], []⟩) rfl ?_ ?_ ?_
  · refine TieO.run 3 rfl ?_
    refine TieO.nil ?_
    exact TieS.leaf ⟨rfl, .of rfl rfl⟩
  · refine TieO.run 3 rfl ?_
    refine TieO.nil ?_
    exact TieS.leaf ⟨rfl, .of rfl rfl⟩
  refine TieO.run 1 rfl ?_
  refine TieO.nil ?_
  exact TieS.ret ⟨.inl rfl, rfl⟩
-- magneto/arbiter.Valid
set_option maxRecDepth 100000 in
theorem tie_arbiter_Valid (r2 : SRequest) : TieF Try.prog 38 [A_SRequest r2] (arbiter_Valid r2) (fun r => .t (tB r)) := by
  refine TieF.intro htab 45 [.tmp 2] Try.call38 Try.func38 rfl rfl rfl (Nat.le_of_ble_eq_true rfl) fun w0 L => ?_
  refine TieS.seq ?_
  refine TieS.region ?_
  refine TieO.run 2 rfl ?_
  refine TieO.nil ?_
  refine TieS.seq ?_
  refine TieS.seq ?_
  refine TieS.region ?_
  refine TieO.run 4 rfl ?_
  refine TieO.selOr (v := decide (r2.Source > 15)) 4 6 (fun b => ⟨[(1, .ptr 1 0), (10, .t (tB b))], [(1, .box [.t (tI r2.Source), .t (tI r2.Kind), .t (tI r2.Torque), .t (tI r2.Priority)])]⟩) rfl ?_ ?_ ?_
  · refine TieO.run 4 rfl ?_
    refine TieO.nil ?_
    exact TieS.leaf ⟨rfl, .of rfl rfl⟩
  · refine TieO.run 4 rfl ?_
    refine TieO.nil ?_
    exact TieS.leaf ⟨rfl, .of rfl rfl⟩
  refine TieO.run 1 rfl ?_
  refine TieO.selOr (v := decide (r2.Priority < 0)) 4 11 (fun b => ⟨[(1, .ptr 1 0), (15, .t (tB b))], [(1, .box [.t (tI r2.Source), .t (tI r2.Kind), .t (tI r2.Torque), .t (tI r2.Priority)])]⟩) rfl ?_ ?_ ?_
  · refine TieO.run 4 rfl ?_
    refine TieO.nil ?_
    exact TieS.leaf ⟨rfl, .of rfl rfl⟩
  · refine TieO.run 4 rfl ?_
    refine TieO.nil ?_
    exact TieS.leaf ⟨rfl, .of rfl rfl⟩
  refine TieO.run 1 rfl ?_
  refine TieO.selOr (v := decide (r2.Priority > 15)) 4 16 (fun b => ⟨[(1, .ptr 1 0), (20, .t (tB b))], [(1, .box [.t (tI r2.Source), .t (tI r2.Kind), .t (tI r2.Torque), .t (tI r2.Priority)])]⟩) rfl ?_ ?_ ?_
  · refine TieO.run 4 rfl ?_
    refine TieO.nil ?_
    exact TieS.leaf ⟨rfl, .of rfl rfl⟩
  · refine TieO.run 4 rfl ?_
    refine TieO.nil ?_
    exact TieS.leaf ⟨rfl, .of rfl rfl⟩
  refine TieO.run 1 rfl ?_
  refine TieO.bind 5 (fun b2 => ⟨[(1, .ptr 1 0), (26, .t (tB b2))], [(1, .box [.t (tI r2.Source), .t (tI r2.Kind), .t (tI r2.Torque), .t (tI r2.Priority)])]⟩) (TieO.split 21 rfl ?_ ?_) fun b2 _ => ?_
  · refine TieO.run 5 rfl ?_
    refine TieO.nil ?_
    exact TieS.leaf ⟨rfl, .of rfl rfl⟩
  · refine TieO.run 2 rfl ?_
    refine TieO.call _ rfl rfl rfl (tie_arbiter_torque r2.Torque) (fun _ => rfl) fun v => ?_
    refine TieO.run 2 rfl ?_
    refine TieO.nil ?_
    exact TieS.leaf ⟨rfl, .of rfl rfl⟩
  refine TieO.nil ?_
  refine TieS.cond rfl ?_ ?_
  · refine TieS.seq ?_
    refine TieS.region ?_
    refine TieO.run 1 rfl ?_
    refine TieO.nil ?_
    exact TieS.ret ⟨.inl rfl, rfl⟩
  · refine TieS.skip ?_
    refine TieS.seq ?_
    refine TieS.region ?_
    refine TieO.run 4 rfl ?_
    refine TieO.bind 14 (fun b4 => ⟨[(44, .t (tB b4))], []⟩) (TieO.split 30 rfl ?_ ?_) fun b4 _ => ?_
    · refine TieO.run 14 rfl ?_
      refine TieO.nil ?_
      exact TieS.leaf ⟨rfl, .of rfl rfl⟩
    · refine TieO.run 4 rfl ?_
      refine TieO.bind 9 (fun b3 => ⟨[(30, .t (tB false)), (43, .t (tB b3))], []⟩) (TieO.split 34 rfl ?_ ?_) fun b3 _ => ?_
      · refine TieO.run 4 rfl ?_
        refine TieO.selOr (v := (r2.Kind == 3)) 4 38 (fun b => ⟨[(30, .t (tB false)), (34, .t (tB true)), (42, .t (tB b))], []⟩) rfl ?_ ?_ ?_
        · refine TieO.run 4 rfl ?_
          refine TieO.nil ?_
          exact TieS.leaf ⟨rfl, .of rfl rfl⟩
        · refine TieO.run 4 rfl ?_
          refine TieO.nil ?_
          exact TieS.leaf ⟨rfl, .of rfl rfl⟩
        refine TieO.run 1 rfl ?_
        refine TieO.nil ?_
        exact TieS.leaf ⟨rfl, .of rfl rfl⟩
      · refine TieO.run 9 rfl ?_
        refine TieO.nil ?_
        exact TieS.leaf ⟨rfl, .of rfl rfl⟩
      refine TieO.run 1 rfl ?_
      refine TieO.nil ?_
      exact TieS.leaf ⟨rfl, .of rfl rfl⟩
    refine TieO.run 1 rfl ?_
    refine TieO.nil ?_
    exact TieS.ret ⟨.inl rfl, rfl⟩
-- magneto/monitor.Permitted$1
set_option maxRecDepth 100000 in
theorem tie_monitor_Permitted_1 (r2 : SRequest) : TieF Try.prog 37 [A_SRequest r2] (monitor_Permitted_1 r2) (fun r => .t (tB r)) := by
  refine TieF.intro htab 6 [.tmp 2] Try.call37 Try.func37 rfl rfl rfl (Nat.le_of_ble_eq_true rfl) fun w0 L => ?_
  refine TieS.seq ?_
  refine TieS.region ?_
  refine TieO.run 2 rfl ?_
  refine TieO.nil ?_
  refine TieS.seq ?_
  refine TieS.region ?_
  refine TieO.run 1 rfl ?_
  refine TieO.call _ rfl rfl rfl (tie_arbiter_Valid r2) (fun _ => rfl) fun v => ?_
  refine TieO.run 2 rfl ?_
  refine TieO.nil ?_
  exact TieS.ret ⟨.inl rfl, rfl⟩
-- magneto/monitor.within
set_option maxRecDepth 100000 in
theorem tie_monitor_within (x : Int) (low : Int) (high : Int) : TieF Try.prog 39 [.t (tI x), .t (tI low), .t (tI high)] (monitor_within x low high) (fun r => .t (tB r)) := by
  refine TieF.intro htab 15 [.tmp 6] Try.call39 Try.func39 rfl rfl rfl (Nat.le_of_ble_eq_true rfl) fun w0 L => ?_
  refine TieS.seq ?_
  refine TieS.region ?_
  refine TieO.run 1 rfl ?_
  refine TieO.nil ?_
  refine TieS.seq ?_
  refine TieS.region ?_
  refine TieO.run 4 rfl ?_
  refine TieO.selAnd (v := decide (x ≤ high)) 4 10 (fun b => ⟨[(14, .t (tB b))], []⟩) rfl ?_ ?_ ?_
  · refine TieO.run 4 rfl ?_
    refine TieO.nil ?_
    exact TieS.leaf ⟨rfl, .of rfl rfl⟩
  · refine TieO.run 4 rfl ?_
    refine TieO.nil ?_
    exact TieS.leaf ⟨rfl, .of rfl rfl⟩
  refine TieO.run 1 rfl ?_
  refine TieO.nil ?_
  exact TieS.ret ⟨.inl rfl, rfl⟩
-- magneto/monitor.around
set_option maxRecDepth 100000 in
theorem tie_monitor_around (axis : List Int) (x : Int) : TieF Try.prog 62 [.t (tS encI axis), .t (tI x)] (monitor_around axis x) (fun r => .tup [.t (tI r.1), .t (tI r.2)]) := by
  refine TieF.intro htab 45 [.tmp 4, .tmp 5] Try.call62 Try.func62 rfl rfl rfl (Nat.le_of_ble_eq_true rfl) fun w0 L => ?_
  refine TieS.seq ?_
  refine TieS.region ?_
  refine TieO.run 2 rfl ?_
  refine TieO.nil ?_
  refine TieS.seq ?_
  refine TieS.seq ?_
  refine TieS.region ?_
  refine TieO.run 3 rfl ?_
  refine TieO.nil ?_
  refine TieS.block ?_
  refine TieS.loop (fun p => ⟨[(0, .t (tS encI axis)), (1, .t (tI x)), (4, .t (tI p.2)), (9, .t (tS encI axis)), (10, .t (tI (axis.length : Int))), (11, .t (tI p.1))], []⟩) (fun b e σ' => match b with | .inl t => e = .exit 0 ∧ Sub ⟨[(0, .t (tS encI axis)), (1, .t (tI x)), (4, .t (tI t))], []⟩ σ' | .inr r => False) (.of rfl rfl) ?_ ?_
  · rintro ⟨i, below⟩
    refine TieS.seq ?_
    refine TieS.region ?_
    refine TieO.run 1 rfl ?_
    refine TieO.nil ?_
    refine TieS.seq ?_
    refine TieS.cond rfl ?_ ?_
    · refine TieS.skip ?_
      refine TieS.seq ?_
      refine TieX.sub (σ' := ⟨[(0, .t (tS encI axis)), (1, .t (tI x)), (4, .t (tI below)), (9, .t (tS encI axis)), (10, .t (tI (axis.length : Int))), (11, .t (tI i))], []⟩) (.of rfl rfl) ?_
      refine TieS.bind (Q₁ := fun f e σ' => match f with | .next t => e = .normal ∧ Sub ⟨[(0, .t (tS encI axis)), (1, .t (tI x)), (4, .t (tI t)), (9, .t (tS encI axis)), (10, .t (tI (axis.length : Int))), (11, .t (tI i))], []⟩ σ' | .brk t => e = .exit 0 ∧ Sub ⟨[(0, .t (tS encI axis)), (1, .t (tI x)), (4, .t (tI t))], []⟩ σ' | .ret r => False) ?_ ?_
      · refine TieS.block ?_
        refine TieS.seq ?_
        refine TieS.region ?_
        refine TieO.run 1 rfl ?_
        refine TieO.index rfl rfl rfl rfl rfl rfl rfl rfl (fun _ => rfl) fun x2 hx2 => ?_
        refine TieO.run 3 rfl ?_
        refine TieO.nil ?_
        refine TieS.seq ?_
        refine TieS.region ?_
        refine TieO.run 3 rfl ?_
        refine TieO.nil ?_
        refine TieS.cond rfl ?_ ?_
        · refine TieS.region ?_
          refine TieO.run 2 rfl ?_
          refine TieO.nil ?_
          refine TieS.endb ?_
          exact TieS.leaf ⟨rfl, .of rfl rfl⟩
        · refine TieS.skip ?_
          refine TieS.endb ?_
          exact TieS.leaf ⟨rfl, .of rfl rfl⟩
      rintro (t | t | r) e σ' _ hq
      · obtain ⟨rfl, hs⟩ := hq
        refine TieX.sub hs ?_
        refine TieS.region ?_
        refine TieO.run 2 rfl ?_
        refine TieO.nil ?_
        exact TieS.leaf ⟨rfl, .of rfl rfl⟩
      · obtain ⟨rfl, hs⟩ := hq
        exact TieX.exitOut rfl ⟨(fun h => by cases h), rfl, hs⟩
      · exact hq.elim
    · exact TieS.exitOut rfl ⟨(fun h => by cases h), rfl, .of rfl rfl⟩
  rintro (below2 | r) e σ' _ hq
  · obtain ⟨rfl, hs⟩ := hq
    refine TieX.exit rfl (TieX.sub hs ?_)
    refine TieS.seq ?_
    refine TieS.region ?_
    refine TieO.run 4 rfl ?_
    refine TieO.nil ?_
    refine TieS.seq ?_
    refine TieS.seq ?_
    refine TieS.region ?_
    refine TieO.run 4 rfl ?_
    refine TieO.nil ?_
    refine TieS.block ?_
    refine TieS.loop (fun t => ⟨[(0, .t (tS encI axis)), (1, .t (tI x)), (4, .t (tI below2)), (5, .t (tI t.2)), (8, .t (tI t.1))], []⟩) (fun b e σ' => match b with | .inl t => e = .exit 2 ∧ Sub ⟨[(0, .t (tS encI axis)), (1, .t (tI x)), (4, .t (tI below2)), (5, .t (tI t.2))], []⟩ σ' | .inr r => False) (.of rfl rfl) ?_ ?_
    · intro s
      refine TieS.seq ?_
      refine TieS.seq ?_
      refine TieS.region ?_
      refine TieO.run 2 rfl ?_
      refine TieO.nil ?_
      refine TieS.cond rfl ?_ ?_
      · refine TieS.skip ?_
        refine TieS.seq ?_
        refine TieS.block ?_
        refine TieS.seq ?_
        refine TieS.region ?_
        refine TieO.run 2 rfl ?_
        refine TieO.index rfl rfl rfl rfl rfl rfl rfl rfl (fun _ => rfl) fun x3 hx3 => ?_
        refine TieO.run 3 rfl ?_
        refine TieO.nil ?_
        refine TieS.cond rfl ?_ ?_
        · refine TieS.region ?_
          refine TieO.run 2 rfl ?_
          refine TieO.nil ?_
          refine TieS.endb ?_
          refine TieS.region ?_
          refine TieO.run 3 rfl ?_
          refine TieO.nil ?_
          exact TieS.leaf ⟨rfl, .of rfl rfl⟩
        · refine TieS.skip ?_
          refine TieS.endb ?_
          refine TieS.region ?_
          refine TieO.run 3 rfl ?_
          refine TieO.nil ?_
          exact TieS.leaf ⟨rfl, .of rfl rfl⟩
      · exact TieS.exitOut rfl ⟨(fun h => by cases h), rfl, .of rfl rfl⟩
    rintro (s2 | r) e σ' _ hq
    · obtain ⟨rfl, hs⟩ := hq
      refine TieX.exit rfl (TieX.sub hs ?_)
      refine TieS.seq ?_
      refine TieS.seq ?_
      refine TieS.region ?_
      refine TieO.run 2 rfl ?_
      refine TieO.index rfl rfl rfl rfl rfl rfl rfl rfl (fun _ => rfl) fun x4 hx4 => ?_
      refine TieO.run 2 rfl ?_
      refine TieO.nil ?_
      refine TieS.cond rfl ?_ ?_
      · refine TieS.region ?_
        refine TieO.run 1 rfl ?_
        refine TieO.nil ?_
        refine TieS.seq ?_
        refine TieS.region ?_
        refine TieO.run 4 rfl ?_
        refine TieO.nil ?_
        exact TieS.ret ⟨.inl rfl, rfl⟩
      · refine TieS.skip ?_
        refine TieS.seq ?_
        refine TieS.region ?_
        refine TieO.run 4 rfl ?_
        refine TieO.nil ?_
        exact TieS.ret ⟨.inl rfl, rfl⟩
    · exact hq.elim
  · exact hq.elim
-- magneto/monitor.corner
set_option maxRecDepth 100000 in
theorem tie_monitor_corner (m2 : SMap) (x : Int) (y : Int) : TieF Try.prog 40 [A_SMap m2, .t (tI x), .t (tI y)] (monitor_corner m2 x y) (fun r => .t (tI r)) := by
  refine TieF.intro htab 58 [.tmp 6] Try.call40 Try.func40 rfl rfl rfl (Nat.le_of_ble_eq_true rfl) fun w0 L => ?_
  refine TieS.seq ?_
  refine TieS.region ?_
  refine TieO.run 2 rfl ?_
  refine TieO.nil ?_
  refine TieS.seq ?_
  refine TieS.region ?_
  refine TieO.run 3 rfl ?_
  refine TieO.call _ rfl rfl rfl (tie_monitor_around m2.X x) (fun _ => rfl) fun r2 => ?_
  refine TieO.run 5 rfl ?_
  refine TieO.nil ?_
  refine TieS.seq ?_
  refine TieS.region ?_
  refine TieO.run 3 rfl ?_
  refine TieO.call _ rfl rfl rfl (tie_monitor_around m2.Y y) (fun _ => rfl) fun r3 => ?_
  refine TieO.run 5 rfl ?_
  refine TieO.nil ?_
  refine TieS.seq ?_
  refine TieX.pre fun x2 hx2 => ?_
  refine TieX.pre fun x3 hx3 => ?_
  refine TieX.pre fun x4 hx4 => ?_
  refine TieX.pre fun x5 hx5 => ?_
  refine TieX.pre fun x6 hx6 => ?_
  refine TieX.pre fun x7 hx7 => ?_
  refine TieS.draw 34 [.ptr 3 2, .t (tS (encS encI) m2.Z), .t (tI r2.1), .el ((encS encI) x2), .t (tS encI x2), .t (tI r3.1), .el (encI x3), .t (tI x3), .ptr 3 2, .t (tS (encS encI) m2.Z), .t (tI r2.1), .el ((encS encI) x2), .t (tS encI x2), .t (tI r3.2), .el (encI x4), .t (tI x4), .ptr 3 2, .t (tS (encS encI) m2.Z), .t (tI r2.2), .el ((encS encI) x5), .t (tS encI x5), .t (tI r3.1), .el (encI x6), .t (tI x6), .ptr 3 2, .t (tS (encS encI) m2.Z), .t (tI r2.2), .el ((encS encI) x5), .t (tS encI x5), .t (tI r3.2), .el (encI x7), .t (tI x7), .t (tI (maxI (maxI (maxI x3 x4) x6) x7)), .t (tI (maxI (maxI (maxI x3 x4) x6) x7))] [(3, .ptr 3 0), (7, .t (tI r2.1)), (8, .t (tI r2.2)), (9, .t (tI r3.1)), (10, .t (tI r3.2))] [(3, .box [.t (tS encI m2.X), .t (tS encI m2.Y), .t (tS (encS encI) m2.Z)])] mixed (.of rfl rfl) rfl rfl rfl rfl (.cons (.quiet rfl rfl rfl) (.cons (.quiet rfl rfl rfl) (.cons (.quiet rfl rfl rfl) (.cons (.index hx2 rfl rfl rfl rfl rfl rfl (fun _ => rfl)) (.cons (.quiet rfl rfl rfl) (.cons (.quiet rfl rfl rfl) (.cons (.index hx3 rfl rfl rfl rfl rfl rfl (fun _ => rfl)) (.cons (.quiet rfl rfl rfl) (.cons (.quiet rfl rfl rfl) (.cons (.quiet rfl rfl rfl) (.cons (.quiet rfl rfl rfl) (.cons (.index hx2 rfl rfl rfl rfl rfl rfl (fun _ => rfl)) (.cons (.quiet rfl rfl rfl) (.cons (.quiet rfl rfl rfl) (.cons (.index hx4 rfl rfl rfl rfl rfl rfl (fun _ => rfl)) (.cons (.quiet rfl rfl rfl) (.cons (.quiet rfl rfl rfl) (.cons (.quiet rfl rfl rfl) (.cons (.quiet rfl rfl rfl) (.cons (.index hx5 rfl rfl rfl rfl rfl rfl (fun _ => rfl)) (.cons (.quiet rfl rfl rfl) (.cons (.quiet rfl rfl rfl) (.cons (.index hx6 rfl rfl rfl rfl rfl rfl (fun _ => rfl)) (.cons (.quiet rfl rfl rfl) (.cons (.quiet rfl rfl rfl) (.cons (.quiet rfl rfl rfl) (.cons (.quiet rfl rfl rfl) (.cons (.index hx5 rfl rfl rfl rfl rfl rfl (fun _ => rfl)) (.cons (.quiet rfl rfl rfl) (.cons (.quiet rfl rfl rfl) (.cons (.index hx7 rfl rfl rfl rfl rfl rfl (fun _ => rfl)) (.cons (.quiet rfl rfl rfl) (.cons (.quiet rfl rfl rfl) (.cons (.quiet rfl rfl rfl) (.nil))))))))))))))))))))))))))))))))))) ?_
  refine TieO.nil ?_
  exact TieS.ret ⟨.inl rfl, rfl⟩
-- magneto/monitor.raises
set_option maxRecDepth 100000 in
theorem tie_monitor_raises (r2 : SRequest) : TieF Try.prog 41 [A_SRequest r2] (monitor_raises r2) (fun r => .t (tB r)) := by
  refine TieF.intro htab 11 [.tmp 2] Try.call41 Try.func41 rfl rfl rfl (Nat.le_of_ble_eq_true rfl) fun w0 L => ?_
  refine TieS.seq ?_
  refine TieS.region ?_
  refine TieO.run 2 rfl ?_
  refine TieO.nil ?_
  refine TieS.seq ?_
  refine TieS.region ?_
  refine TieO.run 4 rfl ?_
  refine TieO.selOr (v := (r2.Kind == 3)) 4 6 (fun b => ⟨[(10, .t (tB b))], []⟩) rfl ?_ ?_ ?_
  · refine TieO.run 4 rfl ?_
    refine TieO.nil ?_
    exact TieS.leaf ⟨rfl, .of rfl rfl⟩
  · refine TieO.run 4 rfl ?_
    refine TieO.nil ?_
    exact TieS.leaf ⟨rfl, .of rfl rfl⟩
  refine TieO.run 1 rfl ?_
  refine TieO.nil ?_
  exact TieS.ret ⟨.inl rfl, rfl⟩
-- magneto/monitor.Permitted
set_option maxRecDepth 100000 in
theorem tie_monitor_Permitted (t2 : STables) (pedal : Int) (speed : Int) (l : List SRequest) : TieF Try.prog 12 [A_STables t2, .t (tI pedal), .t (tI speed), .t (tS enc_SRequest l)] (monitor_Permitted t2 pedal speed l) (fun r => .tup [.t (tI r.1), .t (tI r.2)]) := by
  refine TieF.intro htab 96 [.tmp 8, .tmp 9] Try.call12 Try.func12 rfl rfl rfl (Nat.le_of_ble_eq_true rfl) fun w0 L => ?_
  refine TieS.seq ?_
  refine TieS.region ?_
  refine TieO.run 3 rfl ?_
  refine TieO.nil ?_
  refine TieS.seq ?_
  refine TieS.block ?_
  refine TieS.seq ?_
  refine TieS.region ?_
  refine TieO.run 2 rfl ?_
  refine TieO.call _ rfl rfl rfl (tie_surface_Valid t2.Wish) (fun _ => rfl) fun v => ?_
  refine TieO.run 2 rfl ?_
  refine TieO.bind 3 (fun b2 => ⟨[(1, .t (tI pedal)), (2, .t (tI speed)), (3, .t (tS enc_SRequest l)), (4, .ptr 4 0), (26, .t (tB b2))], [(4, .box [.t (tS encI t2.Air.X), .t (tS encI t2.Air.Y), .t (tS (encS encI) t2.Air.Z), .t (tS encI t2.Spark.X), .t (tS encI t2.Spark.Y), .t (tS (encS encI) t2.Spark.Z), .t (tS encI t2.Torque.X), .t (tS encI t2.Torque.Y), .t (tS (encS encI) t2.Torque.Z), .t (tS encI t2.Wish.X), .t (tS encI t2.Wish.Y), .t (tS (encS encI) t2.Wish.Z), .t (tS encI t2.AirTemp.X), .t (tS encI t2.AirTemp.Y), .t (tS encI t2.Dwell.X), .t (tS encI t2.Dwell.Y), .t (tS encI t2.Dead.X), .t (tS encI t2.Dead.Y), .t (tS encI t2.Efficiency.X), .t (tS encI t2.Efficiency.Y), .t (tI t2.Idle.P), .t (tI t2.Idle.I), .t (tI t2.Idle.Low), .t (tI t2.Idle.High)])]⟩) (TieO.split 23 rfl ?_ ?_) fun b2 _ => ?_
  · refine TieO.run 3 rfl ?_
    refine TieO.nil ?_
    exact TieS.leaf ⟨rfl, .of rfl rfl⟩
  · refine TieO.run 1 rfl ?_
    refine TieO.call _ rfl rfl rfl (tie_slices_ContainsFunc_sRequest l 37 monitor_Permitted_1 tie_monitor_Permitted_1) (fun _ => rfl) fun v2 => ?_
    refine TieO.run 1 rfl ?_
    refine TieO.nil ?_
    exact TieS.leaf ⟨rfl, .of rfl rfl⟩
  refine TieO.run 1 rfl ?_
  refine TieO.nil ?_
  refine TieS.cond rfl ?_ ?_
  · refine TieS.seq ?_
    refine TieS.region ?_
    refine TieO.run 2 rfl ?_
    refine TieO.nil ?_
    exact TieS.ret ⟨.inl rfl, rfl⟩
  · refine TieS.seq ?_
    refine TieS.region ?_
    refine TieO.run 4 rfl ?_
    refine TieO.nil ?_
    refine TieS.cond rfl ?_ ?_
    · refine TieS.seq ?_
      refine TieS.region ?_
      refine TieO.run 2 rfl ?_
      refine TieO.nil ?_
      exact TieS.ret ⟨.inl rfl, rfl⟩
    · refine TieS.seq ?_
      refine TieS.region ?_
      refine TieO.run 1 rfl ?_
      refine TieO.call _ rfl rfl rfl (tie_monitor_within pedal 0 1000) (fun _ => rfl) fun v3 => ?_
      refine TieO.run 2 rfl ?_
      refine TieO.bind 4 (fun b3 => ⟨[(1, .t (tI pedal)), (2, .t (tI speed)), (3, .t (tS enc_SRequest l)), (4, .ptr 4 0), (39, .t (tB b3))], [(4, .box [.t (tS encI t2.Air.X), .t (tS encI t2.Air.Y), .t (tS (encS encI) t2.Air.Z), .t (tS encI t2.Spark.X), .t (tS encI t2.Spark.Y), .t (tS (encS encI) t2.Spark.Z), .t (tS encI t2.Torque.X), .t (tS encI t2.Torque.Y), .t (tS (encS encI) t2.Torque.Z), .t (tS encI t2.Wish.X), .t (tS encI t2.Wish.Y), .t (tS (encS encI) t2.Wish.Z), .t (tS encI t2.AirTemp.X), .t (tS encI t2.AirTemp.Y), .t (tS encI t2.Dwell.X), .t (tS encI t2.Dwell.Y), .t (tS encI t2.Dead.X), .t (tS encI t2.Dead.Y), .t (tS encI t2.Efficiency.X), .t (tS encI t2.Efficiency.Y), .t (tI t2.Idle.P), .t (tI t2.Idle.I), .t (tI t2.Idle.Low), .t (tI t2.Idle.High)])]⟩) (TieO.split 35 rfl ?_ ?_) fun b3 _ => ?_
      · refine TieO.run 4 rfl ?_
        refine TieO.nil ?_
        exact TieS.leaf ⟨rfl, .of rfl rfl⟩
      · refine TieO.run 1 rfl ?_
        refine TieO.call _ rfl rfl rfl (tie_monitor_within speed 0 12000) (fun _ => rfl) fun v4 => ?_
        refine TieO.run 2 rfl ?_
        refine TieO.nil ?_
        exact TieS.leaf ⟨rfl, .of rfl rfl⟩
      refine TieO.run 1 rfl ?_
      refine TieO.nil ?_
      refine TieS.cond rfl ?_ ?_
      · refine TieS.seq ?_
        refine TieS.region ?_
        refine TieO.run 2 rfl ?_
        refine TieO.nil ?_
        exact TieS.ret ⟨.inl rfl, rfl⟩
      · refine TieS.skip ?_
        refine TieS.endb ?_
        refine TieS.seq ?_
        refine TieS.region ?_
        refine TieO.run 4 rfl ?_
        refine TieO.call _ rfl rfl rfl (tie_monitor_corner t2.Wish speed pedal) (fun _ => rfl) fun v5 => ?_
        refine TieO.run 3 rfl ?_
        refine TieO.nil ?_
        refine TieS.seq ?_
        refine TieS.region ?_
        refine TieO.run 2 rfl ?_
        refine TieO.nil ?_
        refine TieS.seq ?_
        refine TieS.seq ?_
        refine TieS.region ?_
        refine TieO.run 3 rfl ?_
        refine TieO.nil ?_
        refine TieS.block ?_
        refine TieS.loop (fun p => ⟨[(3, .t (tS enc_SRequest l)), (10, .t (tI (minI (maxI v5 (-5000)) 10000))), (11, .t (tI p.2.1)), (12, .t (tI p.2.2)), (47, .t (tS enc_SRequest l)), (48, .t (tI (l.length : Int))), (49, .t (tI p.1))], []⟩) (fun b e σ' => match b with | .inl t => e = .exit 1 ∧ Sub ⟨[(3, .t (tS enc_SRequest l)), (10, .t (tI (minI (maxI v5 (-5000)) 10000))), (11, .t (tI t.1)), (12, .t (tI t.2))], []⟩ σ' | .inr r => False) (.of rfl rfl) ?_ ?_
        · rintro ⟨i, s⟩
          refine TieS.seq ?_
          refine TieS.region ?_
          refine TieO.run 1 rfl ?_
          refine TieO.nil ?_
          refine TieS.seq ?_
          refine TieS.cond rfl ?_ ?_
          · refine TieS.skip ?_
            refine TieS.seq ?_
            refine TieX.pre fun x hx => ?_
            refine TieX.sub (σ' := ⟨[(3, .t (tS enc_SRequest l)), (10, .t (tI (minI (maxI v5 (-5000)) 10000))), (11, .t (tI s.1)), (12, .t (tI s.2)), (47, .t (tS enc_SRequest l)), (48, .t (tI (l.length : Int))), (49, .t (tI i))], []⟩) (.of rfl rfl) ?_
            refine TieS.bind (Q₁ := fun f e σ' => match f with | .next t => e = .normal ∧ Sub ⟨[(3, .t (tS enc_SRequest l)), (10, .t (tI (minI (maxI v5 (-5000)) 10000))), (11, .t (tI t.1)), (12, .t (tI t.2)), (47, .t (tS enc_SRequest l)), (48, .t (tI (l.length : Int))), (49, .t (tI i))], []⟩ σ' | .brk t => e = .exit 1 ∧ Sub ⟨[(3, .t (tS enc_SRequest l)), (10, .t (tI (minI (maxI v5 (-5000)) 10000))), (11, .t (tI t.1)), (12, .t (tI t.2))], []⟩ σ' | .ret r => False) ?_ ?_
            · refine TieS.block ?_
              refine TieS.seq ?_
              refine TieS.region ?_
              refine TieO.indexH hx rfl rfl rfl rfl rfl rfl rfl rfl (fun _ => rfl) ?_
              refine TieO.run 3 rfl ?_
              refine TieO.nil ?_
              refine TieS.seq ?_
              refine TieS.seq ?_
              refine TieS.region ?_
              refine TieO.run 1 rfl ?_
              refine TieO.call _ rfl rfl rfl (tie_monitor_raises x) (fun _ => rfl) fun v6 => ?_
              refine TieO.run 1 rfl ?_
              refine TieO.nil ?_
              refine TieS.cond rfl ?_ ?_
              · refine TieS.exit rfl ?_
                exact TieS.leaf ⟨rfl, .of rfl rfl⟩
              · refine TieS.skip ?_
                refine TieS.seq ?_
                refine TieS.region ?_
                refine TieO.run 5 rfl ?_
                refine TieO.nil ?_
                refine TieS.seq ?_
                refine TieS.region ?_
                refine TieO.run 3 rfl ?_
                refine TieO.nil ?_
                refine TieS.cond rfl ?_ ?_
                · refine TieS.region ?_
                  refine TieO.run 6 rfl ?_
                  refine TieO.nil ?_
                  refine TieS.endb ?_
                  exact TieS.leaf ⟨rfl, .of rfl rfl⟩
                · refine TieS.skip ?_
                  refine TieS.endb ?_
                  exact TieS.leaf ⟨rfl, .of rfl rfl⟩
            rintro (t | t | r) e σ' _ hq
            · obtain ⟨rfl, hs⟩ := hq
              refine TieX.sub hs ?_
              refine TieS.region ?_
              refine TieO.run 2 rfl ?_
              refine TieO.nil ?_
              exact TieS.leaf ⟨rfl, .of rfl rfl⟩
            · obtain ⟨rfl, hs⟩ := hq
              exact TieX.exitOut rfl ⟨(fun h => by cases h), rfl, hs⟩
            · exact hq.elim
          · exact TieS.exitOut rfl ⟨(fun h => by cases h), rfl, .of rfl rfl⟩
        rintro (s2 | r) e σ' _ hq
        · obtain ⟨rfl, hs⟩ := hq
          refine TieX.exit rfl (TieX.sub hs ?_)
          refine TieS.seq ?_
          refine TieS.region ?_
          refine TieO.run 1 rfl ?_
          refine TieO.nil ?_
          refine TieS.seq ?_
          refine TieS.seq ?_
          refine TieS.region ?_
          refine TieO.run 3 rfl ?_
          refine TieO.nil ?_
          refine TieS.block ?_
          refine TieS.loop (fun p => ⟨[(10, .t (tI (minI (maxI v5 (-5000)) 10000))), (11, .t (tI s2.1)), (12, .t (tI s2.2)), (15, .t (tI p.2)), (69, .t (tS enc_SRequest l)), (70, .t (tI (l.length : Int))), (71, .t (tI p.1))], []⟩) (fun b e σ' => match b with | .inl t => e = .exit 3 ∧ Sub ⟨[(10, .t (tI (minI (maxI v5 (-5000)) 10000))), (11, .t (tI s2.1)), (15, .t (tI t))], []⟩ σ' | .inr r => False) (.of rfl rfl) ?_ ?_
          · rintro ⟨i2, limit⟩
            refine TieS.seq ?_
            refine TieS.region ?_
            refine TieO.run 1 rfl ?_
            refine TieO.nil ?_
            refine TieS.seq ?_
            refine TieS.cond rfl ?_ ?_
            · refine TieS.skip ?_
              refine TieS.seq ?_
              refine TieX.pre fun x2 hx2 => ?_
              refine TieX.sub (σ' := ⟨[(10, .t (tI (minI (maxI v5 (-5000)) 10000))), (11, .t (tI s2.1)), (12, .t (tI s2.2)), (15, .t (tI limit)), (69, .t (tS enc_SRequest l)), (70, .t (tI (l.length : Int))), (71, .t (tI i2))], []⟩) (.of rfl rfl) ?_
              refine TieS.bind (Q₁ := fun f e σ' => match f with | .next t => e = .normal ∧ Sub ⟨[(10, .t (tI (minI (maxI v5 (-5000)) 10000))), (11, .t (tI s2.1)), (12, .t (tI s2.2)), (15, .t (tI t)), (69, .t (tS enc_SRequest l)), (70, .t (tI (l.length : Int))), (71, .t (tI i2))], []⟩ σ' | .brk t => e = .exit 3 ∧ Sub ⟨[(10, .t (tI (minI (maxI v5 (-5000)) 10000))), (11, .t (tI s2.1)), (15, .t (tI t))], []⟩ σ' | .ret r => False) ?_ ?_
              · refine TieS.block ?_
                refine TieS.seq ?_
                refine TieS.region ?_
                refine TieO.indexH hx2 rfl rfl rfl rfl rfl rfl rfl rfl (fun _ => rfl) ?_
                refine TieO.run 3 rfl ?_
                refine TieO.nil ?_
                refine TieS.seq ?_
                refine TieS.region ?_
                refine TieO.run 4 rfl ?_
                refine TieO.selAnd (v := decide (x2.Priority > s2.2)) 5 78 (fun b => ⟨[(10, .t (tI (minI (maxI v5 (-5000)) 10000))), (11, .t (tI s2.1)), (12, .t (tI s2.2)), (15, .t (tI limit)), (17, .ptr 17 0), (69, .t (tS enc_SRequest l)), (70, .t (tI (l.length : Int))), (71, .t (tI i2)), (83, .t (tB b))], [(17, .box [.t (tI x2.Source), .t (tI x2.Kind), .t (tI x2.Torque), .t (tI x2.Priority)])]⟩) rfl ?_ ?_ ?_
                · refine TieO.run 5 rfl ?_
                  refine TieO.nil ?_
                  exact TieS.leaf ⟨rfl, .of rfl rfl⟩
                · refine TieO.run 5 rfl ?_
                  refine TieO.nil ?_
                  exact TieS.leaf ⟨rfl, .of rfl rfl⟩
                refine TieO.nil ?_
                refine TieS.cond rfl ?_ ?_
                · refine TieS.region ?_
                  refine TieO.run 5 rfl ?_
                  refine TieO.nil ?_
                  refine TieS.endb ?_
                  exact TieS.leaf ⟨rfl, .of rfl rfl⟩
                · refine TieS.skip ?_
                  refine TieS.endb ?_
                  exact TieS.leaf ⟨rfl, .of rfl rfl⟩
              rintro (t | t | r) e σ' _ hq
              · obtain ⟨rfl, hs⟩ := hq
                refine TieX.sub hs ?_
                refine TieS.region ?_
                refine TieO.run 2 rfl ?_
                refine TieO.nil ?_
                exact TieS.leaf ⟨rfl, .of rfl rfl⟩
              · obtain ⟨rfl, hs⟩ := hq
                exact TieX.exitOut rfl ⟨(fun h => by cases h), rfl, hs⟩
              · exact hq.elim
            · exact TieS.exitOut rfl ⟨(fun h => by cases h), rfl, .of rfl rfl⟩
          rintro (limit2 | r) e σ' _ hq
          · obtain ⟨rfl, hs⟩ := hq
            refine TieX.exit rfl (TieX.sub hs ?_)
            refine TieS.seq ?_
            refine TieS.region ?_
            refine TieO.run 9 rfl ?_
            refine TieO.nil ?_
            exact TieS.ret ⟨.inl rfl, rfl⟩
          · exact hq.elim
        · exact hq.elim
-- magneto/monitor.Steps
set_option maxRecDepth 100000 in
theorem tie_monitor_Steps : TieF Try.prog 31 [] (monitor_Steps) (fun r => .t (tI r)) := by
  refine TieF.intro htab 1 [.tmp 0] Try.call31 Try.func31 rfl rfl rfl (Nat.le_of_ble_eq_true rfl) fun w0 L => ?_
  refine TieS.seq ?_
  refine TieS.region ?_
  refine TieO.run 1 rfl ?_
  refine TieO.nil ?_
  refine TieS.seq ?_
  refine TieS.region ?_
  refine TieO.run 1 rfl ?_
  refine TieO.nil ?_
  exact TieS.ret ⟨.inl rfl, rfl⟩
-- magneto/magnetolaw39.tables
set_option maxRecDepth 100000 in
theorem tie_magnetolaw39_tables : TieF Try.prog 35 [] (magnetolaw39_tables) (fun r => A_STables r) := by
  refine TieF.intro htab 8 [.cell 0 31] Try.call35 Try.func35 rfl rfl rfl (Nat.le_of_ble_eq_true rfl) fun w0 L => ?_
  refine TieS.seq ?_
  refine TieS.region ?_
  refine TieO.run 1 rfl ?_
  refine TieO.nil ?_
  refine TieS.seq ?_
  refine TieS.region ?_
  refine TieO.run 4 rfl ?_
  refine TieO.frz 3 rfl ?_
  refine TieO.frz 4 rfl ?_
  refine TieO.run 4 rfl ?_
  refine TieO.nil ?_
  exact TieS.ret ⟨.inl rfl, rfl⟩
-- magneto/magnetolaw39.awake
set_option maxRecDepth 100000 in
theorem tie_magnetolaw39_awake : TieF Try.prog 11 [] (magnetolaw39_awake) (fun r => .t (tB r)) := by
  refine TieF.intro htab 35 [.tmp 0] Try.call11 Try.func11 rfl rfl rfl (Nat.le_of_ble_eq_true rfl) fun w0 L => ?_
  refine TieS.seq ?_
  refine TieS.region ?_
  refine TieO.run 1 rfl ?_
  refine TieO.nil ?_
  refine TieS.seq ?_
  refine TieS.region ?_
  refine TieO.call _ rfl rfl rfl (tie_magnetolaw39_tables) (fun _ => rfl) fun v => ?_
  refine TieO.call _ rfl rfl rfl (tie_monitor_Permitted v 100 700 ([] : List SRequest)) (fun _ => rfl) fun r2 => ?_
  refine TieO.run 5 rfl ?_
  refine TieO.nil ?_
  refine TieS.seq ?_
  refine TieS.region ?_
  refine TieO.call _ rfl rfl rfl (tie_magnetolaw39_tables) (fun _ => rfl) fun v2 => ?_
  refine TieO.run 2 rfl ?_
  refine TieO.callS _ rfl rfl rfl (tie_monitor_Permitted v2 100 700 ([(⟨3, 1, 400, 0⟩ : SRequest)] : List SRequest)) (fun _ => rfl) (fun _ => rfl) fun r3 => ?_
  refine TieO.run 5 rfl ?_
  refine TieO.nil ?_
  refine TieS.seq ?_
  refine TieS.region ?_
  refine TieO.run 3 rfl ?_
  refine TieO.selAnd (v := (r2.1 == 1100)) 3 19 (fun b => ⟨[(3, .t (tI r3.1)), (4, .t (tI r3.2)), (22, .t (tB b))], []⟩) rfl ?_ ?_ ?_
  · refine TieO.run 3 rfl ?_
    refine TieO.nil ?_
    exact TieS.leaf ⟨rfl, .of rfl rfl⟩
  · refine TieO.run 3 rfl ?_
    refine TieO.nil ?_
    exact TieS.leaf ⟨rfl, .of rfl rfl⟩
  refine TieO.run 1 rfl ?_
  refine TieO.selAnd (v := (r3.2 == 0)) 3 23 (fun b => ⟨[(3, .t (tI r3.1)), (26, .t (tB b))], []⟩) rfl ?_ ?_ ?_
  · refine TieO.run 3 rfl ?_
    refine TieO.nil ?_
    exact TieS.leaf ⟨rfl, .of rfl rfl⟩
  · refine TieO.run 3 rfl ?_
    refine TieO.nil ?_
    exact TieS.leaf ⟨rfl, .of rfl rfl⟩
  refine TieO.run 1 rfl ?_
  refine TieO.selAnd (v := (r3.1 == 500)) 3 27 (fun b => ⟨[(30, .t (tB b))], []⟩) rfl ?_ ?_ ?_
  · refine TieO.run 3 rfl ?_
    refine TieO.nil ?_
    exact TieS.leaf ⟨rfl, .of rfl rfl⟩
  · refine TieO.run 3 rfl ?_
    refine TieO.nil ?_
    exact TieS.leaf ⟨rfl, .of rfl rfl⟩
  refine TieO.run 1 rfl ?_
  refine TieO.bind 3 (fun b2 => ⟨[(34, .t (tB b2))], []⟩) (TieO.split 31 rfl ?_ ?_) fun b2 _ => ?_
  · refine TieO.call _ rfl rfl rfl (tie_monitor_Steps) (fun _ => rfl) fun v3 => ?_
    refine TieO.run 2 rfl ?_
    refine TieO.nil ?_
    exact TieS.leaf ⟨rfl, .of rfl rfl⟩
  · refine TieO.run 3 rfl ?_
    refine TieO.nil ?_
    exact TieS.leaf ⟨rfl, .of rfl rfl⟩
  refine TieO.run 1 rfl ?_
  refine TieO.nil ?_
  exact TieS.ret ⟨.inl rfl, rfl⟩
-- magneto/magnetoref06.far
set_option maxRecDepth 100000 in
theorem tie_magnetoref06_far (n2 : Int) : TieF Try.prog 64 [.t (tI n2)] (magnetoref06_far n2) (fun r => .t (tB r)) := by
  refine TieF.intro htab 9 [.tmp 2] Try.call64 Try.func64 rfl rfl rfl (Nat.le_of_ble_eq_true rfl) fun w0 L => ?_
  refine TieS.seq ?_
  refine TieS.region ?_
  refine TieO.run 1 rfl ?_
  refine TieO.nil ?_
  refine TieS.seq ?_
  refine TieS.region ?_
  refine TieO.run 3 rfl ?_
  refine TieO.selOr (v := decide (n2 > 1073741824)) 3 5 (fun b => ⟨[(8, .t (tB b))], []⟩) rfl ?_ ?_ ?_
  · refine TieO.run 3 rfl ?_
    refine TieO.nil ?_
    exact TieS.leaf ⟨rfl, .of rfl rfl⟩
  · refine TieO.run 3 rfl ?_
    refine TieO.nil ?_
    exact TieS.leaf ⟨rfl, .of rfl rfl⟩
  refine TieO.run 1 rfl ?_
  refine TieO.nil ?_
  exact TieS.ret ⟨.inl rfl, rfl⟩
-- magneto/magnetoref06.Axis
set_option maxRecDepth 100000 in
theorem tie_magnetoref06_Axis (l : List Int) : TieF Try.prog 63 [.t (tS encI l)] (magnetoref06_Axis l) (fun r => .t (tB r)) := by
  refine TieF.intro htab 39 [.tmp 2] Try.call63 Try.func63 rfl rfl rfl (Nat.le_of_ble_eq_true rfl) fun w0 L => ?_
  refine TieS.seq ?_
  refine TieS.region ?_
  refine TieO.run 1 rfl ?_
  refine TieO.nil ?_
  refine TieS.seq ?_
  refine TieS.seq ?_
  refine TieS.region ?_
  refine TieO.run 4 rfl ?_
  refine TieO.selOr (v := decide ((l.length : Int) > 32)) 4 7 (fun b => ⟨[(0, .t (tS encI l)), (11, .t (tB b))], []⟩) rfl ?_ ?_ ?_
  · refine TieO.run 4 rfl ?_
    refine TieO.nil ?_
    exact TieS.leaf ⟨rfl, .of rfl rfl⟩
  · refine TieO.run 4 rfl ?_
    refine TieO.nil ?_
    exact TieS.leaf ⟨rfl, .of rfl rfl⟩
  refine TieO.nil ?_
  refine TieS.cond rfl ?_ ?_
  · refine TieS.seq ?_
    refine TieS.region ?_
    refine TieO.run 1 rfl ?_
    refine TieO.nil ?_
    exact TieS.ret ⟨.inl rfl, rfl⟩
  · refine TieS.skip ?_
    refine TieS.seq ?_
    refine TieS.seq ?_
    refine TieS.region ?_
    refine TieO.run 1 rfl ?_
    refine TieO.nil ?_
    refine TieS.block ?_
    refine TieS.loop (fun t => ⟨[(0, .t (tS encI l)), (3, .t (tI t))], []⟩) (fun b e σ' => match b with | .inl t => e = .exit 0 ∧ Sub ⟨[], []⟩ σ' | .inr r => e = .ret ∧ retT tab σ' [.tmp 2] = some (((fun r => .t (tB r)) : Bool → T) r)) (.of rfl rfl) ?_ ?_
    · intro i
      refine TieS.seq ?_
      refine TieS.seq ?_
      refine TieS.region ?_
      refine TieO.run 4 rfl ?_
      refine TieO.nil ?_
      refine TieS.cond rfl ?_ ?_
      · refine TieS.skip ?_
        refine TieS.seq ?_
        refine TieS.block ?_
        refine TieS.seq ?_
        refine TieS.bind (Q₁ := fun t e σ' => e = .normal ∧ Sub ⟨[(0, .t (tS encI l)), (3, .t (tI i)), (38, .t (tB t))], []⟩ σ') ?_ ?_
        · refine TieX.pre fun x hx => ?_
          refine TieX.pre fun v hv => ?_
          refine TieX.split (fun hg => ?_) (fun hg2 => ?_)
          · refine TieS.draw 21 [.t (tS encI l), .t (tI i), .el (encI x), .t (tI x), .t (tB v), .t (tB true), .t (.v undef), .t (.v undef), .t (.v undef), .t (.v undef), .t (.v undef), .t (.v undef), .t (.v undef), .t (.v undef), .t (.v undef), .t (.v undef), .t (.v undef), .t (.v undef), .t (.v undef), .t (.v undef), .t (tB true)] [(0, .t (tS encI l)), (3, .t (tI i))] [] mixed (.of rfl rfl) rfl rfl rfl rfl (.cons (.quiet rfl rfl rfl) (.cons (.quiet rfl rfl rfl) (.cons (.index hx rfl rfl rfl rfl rfl rfl (fun _ => rfl)) (.cons (.quiet rfl rfl rfl) (.cons (.callV (tie_magnetoref06_far x) hv rfl rfl rfl rfl) (.cons (.cast (congrArg T.B hg) (.quiet rfl rfl rfl)) (.cons (.skip rfl) (.cons (.skip rfl) (.cons (.skip rfl) (.cons (.skip rfl) (.cons (.skip rfl) (.cons (.skip rfl) (.cons (.skip rfl) (.cons (.skip rfl) (.cons (.skip rfl) (.cons (.skip rfl) (.cons (.skip rfl) (.cons (.skip rfl) (.cons (.skip rfl) (.cons (.skip rfl) (.cons (.quiet rfl rfl rfl) (.nil)))))))))))))))))))))) ?_
            refine TieO.nil ?_
            exact TieS.leaf ⟨rfl, .of rfl rfl⟩
          · refine TieX.split (fun hg3 => ?_) (fun hg4 => ?_)
            · refine TieX.pre fun x2 hx2 => ?_
              refine TieS.draw 21 [.t (tS encI l), .t (tI i), .el (encI x), .t (tI x), .t (tB v), .t (tB false), .t (tI i), .t (tB (decide (i > 0))), .t (tB true), .t (tS encI l), .t (tI i), .el (encI x), .t (tI x), .t (tS encI l), .t (tI i), .t (tI (w64 (i - 1))), .el (encI x2), .t (tI x2), .t (tB (decide (x ≤ x2))), .t (tB (decide (x ≤ x2))), .t (tB (decide (x ≤ x2)))] [(0, .t (tS encI l)), (3, .t (tI i))] [] mixed (.of rfl rfl) rfl rfl rfl rfl (.cons (.quiet rfl rfl rfl) (.cons (.quiet rfl rfl rfl) (.cons (.index hx rfl rfl rfl rfl rfl rfl (fun _ => rfl)) (.cons (.quiet rfl rfl rfl) (.cons (.callV (tie_magnetoref06_far x) hv rfl rfl rfl rfl) (.cons (.cast (congrArg T.B hg2) (.quiet rfl rfl rfl)) (.cons (.quiet rfl rfl rfl) (.cons (.quiet rfl rfl rfl) (.cons (.cast (congrArg T.B hg3) (.quiet rfl rfl rfl)) (.cons (.quiet rfl rfl rfl) (.cons (.quiet rfl rfl rfl) (.cons (.index hx rfl rfl rfl rfl rfl rfl (fun _ => rfl)) (.cons (.quiet rfl rfl rfl) (.cons (.quiet rfl rfl rfl) (.cons (.quiet rfl rfl rfl) (.cons (.quiet rfl rfl rfl) (.cons (.index hx2 rfl rfl rfl rfl rfl rfl (fun _ => rfl)) (.cons (.quiet rfl rfl rfl) (.cons (.quiet rfl rfl rfl) (.cons (.quiet rfl rfl rfl) (.cons (.quiet rfl rfl rfl) (.nil)))))))))))))))))))))) ?_
              refine TieO.nil ?_
              exact TieS.leaf ⟨rfl, .of rfl rfl⟩
            · refine TieS.draw 21 [.t (tS encI l), .t (tI i), .el (encI x), .t (tI x), .t (tB v), .t (tB false), .t (tI i), .t (tB (decide (i > 0))), .t (tB false), .t (.v undef), .t (.v undef), .t (.v undef), .t (.v undef), .t (.v undef), .t (.v undef), .t (.v undef), .t (.v undef), .t (.v undef), .t (.v undef), .t (tB false), .t (tB false)] [(0, .t (tS encI l)), (3, .t (tI i))] [] mixed (.of rfl rfl) rfl rfl rfl rfl (.cons (.quiet rfl rfl rfl) (.cons (.quiet rfl rfl rfl) (.cons (.index hx rfl rfl rfl rfl rfl rfl (fun _ => rfl)) (.cons (.quiet rfl rfl rfl) (.cons (.callV (tie_magnetoref06_far x) hv rfl rfl rfl rfl) (.cons (.cast (congrArg T.B hg2) (.quiet rfl rfl rfl)) (.cons (.quiet rfl rfl rfl) (.cons (.quiet rfl rfl rfl) (.cons (.cast (congrArg T.B hg4) (.quiet rfl rfl rfl)) (.cons (.skip rfl) (.cons (.skip rfl) (.cons (.skip rfl) (.cons (.skip rfl) (.cons (.skip rfl) (.cons (.skip rfl) (.cons (.skip rfl) (.cons (.skip rfl) (.cons (.skip rfl) (.cons (.skip rfl) (.cons (.quiet rfl rfl rfl) (.cons (.quiet rfl rfl rfl) (.nil)))))))))))))))))))))) ?_
              refine TieO.nil ?_
              exact TieS.leaf ⟨rfl, .of rfl rfl⟩
        rintro v2 e σ' _ ⟨rfl, hs⟩
        refine TieX.sub hs ?_
        refine TieS.cond rfl ?_ ?_
        · refine TieS.seq ?_
          refine TieS.region ?_
          refine TieO.run 1 rfl ?_
          refine TieO.nil ?_
          exact TieS.ret ⟨(fun h => by cases h), rfl, rfl⟩
        · refine TieS.skip ?_
          refine TieS.endb ?_
          refine TieS.region ?_
          refine TieO.run 3 rfl ?_
          refine TieO.nil ?_
          exact TieS.leaf ⟨rfl, .of rfl rfl⟩
      · exact TieS.exitOut rfl ⟨(fun h => by cases h), rfl, .of rfl rfl⟩
    rintro (i2 | r2) e σ' _ hq
    · obtain ⟨rfl, hs⟩ := hq
      refine TieX.exit rfl (TieX.sub hs ?_)
      refine TieS.seq ?_
      refine TieS.region ?_
      refine TieO.run 1 rfl ?_
      refine TieO.nil ?_
      exact TieS.ret ⟨.inl rfl, rfl⟩
    · obtain ⟨rfl, hs⟩ := hq
      exact TieX.ret ⟨.inl rfl, hs⟩
-- magneto/magnetoref06.Valid
set_option maxRecDepth 100000 in
theorem tie_magnetoref06_Valid (m2 : SMap) : TieF Try.prog 42 [A_SMap m2] (magnetoref06_Valid m2) (fun r => .t (tB r)) := by
  refine TieF.intro htab 57 [.tmp 2] Try.call42 Try.func42 rfl rfl rfl (Nat.le_of_ble_eq_true rfl) fun w0 L => ?_
  refine TieS.seq ?_
  refine TieS.region ?_
  refine TieO.run 2 rfl ?_
  refine TieO.nil ?_
  refine TieS.seq ?_
  refine TieS.seq ?_
  refine TieS.region ?_
  refine TieO.run 2 rfl ?_
  refine TieO.call _ rfl rfl rfl (tie_magnetoref06_Axis m2.X) (fun _ => rfl) fun v => ?_
  refine TieO.run 2 rfl ?_
  refine TieO.bind 5 (fun b2 => ⟨[(1, .ptr 1 0), (14, .t (tB b2))], [(1, .box [.t (tS encI m2.X), .t (tS encI m2.Y), .t (tS (encS encI) m2.Z)])]⟩) (TieO.split 9 rfl ?_ ?_) fun b2 _ => ?_
  · refine TieO.run 5 rfl ?_
    refine TieO.nil ?_
    exact TieS.leaf ⟨rfl, .of rfl rfl⟩
  · refine TieO.run 2 rfl ?_
    refine TieO.call _ rfl rfl rfl (tie_magnetoref06_Axis m2.Y) (fun _ => rfl) fun v2 => ?_
    refine TieO.run 2 rfl ?_
    refine TieO.nil ?_
    exact TieS.leaf ⟨rfl, .of rfl rfl⟩
  refine TieO.run 1 rfl ?_
  refine TieO.selOr (v := ((m2.Z.length : Int) != (m2.X.length : Int))) 8 15 (fun b => ⟨[(1, .ptr 1 0), (23, .t (tB b))], [(1, .box [.t (tS encI m2.X), .t (tS encI m2.Y), .t (tS (encS encI) m2.Z)])]⟩) rfl ?_ ?_ ?_
  · refine TieO.run 8 rfl ?_
    refine TieO.nil ?_
    exact TieS.leaf ⟨rfl, .of rfl rfl⟩
  · refine TieO.run 8 rfl ?_
    refine TieO.nil ?_
    exact TieS.leaf ⟨rfl, .of rfl rfl⟩
  refine TieO.nil ?_
  refine TieS.cond rfl ?_ ?_
  · refine TieS.seq ?_
    refine TieS.region ?_
    refine TieO.run 1 rfl ?_
    refine TieO.nil ?_
    exact TieS.ret ⟨.inl rfl, rfl⟩
  · refine TieS.skip ?_
    refine TieS.seq ?_
    refine TieS.seq ?_
    refine TieS.region ?_
    refine TieO.run 1 rfl ?_
    refine TieO.nil ?_
    refine TieS.block ?_
    refine TieS.loop (fun t => ⟨[(1, .ptr 1 0), (3, .t (tI t))], [(1, .box [.t (tS encI m2.X), .t (tS encI m2.Y), .t (tS (encS encI) m2.Z)])]⟩) (fun b e σ' => match b with | .inl t => e = .exit 0 ∧ Sub ⟨[], []⟩ σ' | .inr r => e = .ret ∧ retT tab σ' [.tmp 2] = some (((fun r => .t (tB r)) : Bool → T) r)) (.of rfl rfl) ?_ ?_
    · intro i
      refine TieS.seq ?_
      refine TieS.seq ?_
      refine TieS.region ?_
      refine TieO.run 5 rfl ?_
      refine TieO.nil ?_
      refine TieS.cond rfl ?_ ?_
      · refine TieS.skip ?_
        refine TieS.seq ?_
        refine TieS.block ?_
        refine TieS.seq ?_
        refine TieS.seq ?_
        refine TieX.pre fun x hx => ?_
        refine TieS.draw 10 [.ptr 1 2, .t (tS (encS encI) m2.Z), .t (tI i), .el ((encS encI) x), .t (tS encI x), .t (tI (x.length : Int)), .ptr 1 1, .t (tS encI m2.Y), .t (tI (m2.Y.length : Int)), .t (tB ((x.length : Int) != (m2.Y.length : Int)))] [(1, .ptr 1 0), (3, .t (tI i))] [(1, .box [.t (tS encI m2.X), .t (tS encI m2.Y), .t (tS (encS encI) m2.Z)])] mixed (.of rfl rfl) rfl rfl rfl rfl (.cons (.quiet rfl rfl rfl) (.cons (.quiet rfl rfl rfl) (.cons (.quiet rfl rfl rfl) (.cons (.index hx rfl rfl rfl rfl rfl rfl (fun _ => rfl)) (.cons (.quiet rfl rfl rfl) (.cons (.quiet rfl rfl rfl) (.cons (.quiet rfl rfl rfl) (.cons (.quiet rfl rfl rfl) (.cons (.quiet rfl rfl rfl) (.cons (.quiet rfl rfl rfl) (.nil))))))))))) ?_
        refine TieO.nil ?_
        refine TieS.cond rfl ?_ ?_
        · refine TieS.seq ?_
          refine TieS.region ?_
          refine TieO.run 1 rfl ?_
          refine TieO.nil ?_
          exact TieS.ret ⟨(fun h => by cases h), rfl, rfl⟩
        · refine TieS.skip ?_
          refine TieS.seq ?_
          refine TieS.region ?_
          refine TieO.run 1 rfl ?_
          refine TieO.nil ?_
          refine TieS.block ?_
          refine TieS.loop (fun t => ⟨[(1, .ptr 1 0), (3, .t (tI i)), (4, .t (tI t))], [(1, .box [.t (tS encI m2.X), .t (tS encI m2.Y), .t (tS (encS encI) m2.Z)])]⟩) (fun b e σ' => match b with | .inl t => e = .exit 2 ∧ Sub ⟨[(1, .ptr 1 0), (3, .t (tI i))], [(1, .box [.t (tS encI m2.X), .t (tS encI m2.Y), .t (tS (encS encI) m2.Z)])]⟩ σ' | .inr r => e = .ret ∧ retT tab σ' [.tmp 2] = some (((fun r => .t (tB r)) : Bool → T) r)) (.of rfl rfl) ?_ ?_
          · intro j
            refine TieS.seq ?_
            refine TieS.seq ?_
            refine TieS.region ?_
            refine TieO.run 5 rfl ?_
            refine TieO.nil ?_
            refine TieS.cond rfl ?_ ?_
            · refine TieS.skip ?_
              refine TieS.seq ?_
              refine TieS.block ?_
              refine TieS.seq ?_
              refine TieS.region ?_
              refine TieO.run 3 rfl ?_
              refine TieO.indexH hx rfl rfl rfl rfl rfl rfl rfl rfl (fun _ => rfl) ?_
              refine TieO.run 2 rfl ?_
              refine TieO.index rfl rfl rfl rfl rfl rfl rfl rfl (fun _ => rfl) fun x2 hx2 => ?_
              refine TieO.run 1 rfl ?_
              refine TieO.call _ rfl rfl rfl (tie_magnetoref06_far x2) (fun _ => rfl) fun v3 => ?_
              refine TieO.nil ?_
              refine TieS.cond rfl ?_ ?_
              · refine TieS.seq ?_
                refine TieS.region ?_
                refine TieO.run 1 rfl ?_
                refine TieO.nil ?_
                exact TieS.ret ⟨(fun h => by cases h), rfl, rfl⟩
              · refine TieS.skip ?_
                refine TieS.endb ?_
                refine TieS.region ?_
                refine TieO.run 3 rfl ?_
                refine TieO.nil ?_
                exact TieS.leaf ⟨rfl, .of rfl rfl⟩
            · exact TieS.exitOut rfl ⟨(fun h => by cases h), rfl, .of rfl rfl⟩
          rintro (j2 | r2) e σ' _ hq
          · obtain ⟨rfl, hs⟩ := hq
            refine TieX.exit rfl (TieX.sub hs ?_)
            refine TieS.endb ?_
            refine TieS.region ?_
            refine TieO.run 3 rfl ?_
            refine TieO.nil ?_
            exact TieS.leaf ⟨rfl, .of rfl rfl⟩
          · obtain ⟨rfl, hs⟩ := hq
            exact TieX.ret ⟨(fun h => by cases h), rfl, hs⟩
      · exact TieS.exitOut rfl ⟨(fun h => by cases h), rfl, .of rfl rfl⟩
    rintro (i2 | r3) e σ' _ hq
    · obtain ⟨rfl, hs⟩ := hq
      refine TieX.exit rfl (TieX.sub hs ?_)
      refine TieS.seq ?_
      refine TieS.region ?_
      refine TieO.run 1 rfl ?_
      refine TieO.nil ?_
      exact TieS.ret ⟨.inl rfl, rfl⟩
    · obtain ⟨rfl, hs⟩ := hq
      exact TieX.ret ⟨.inl rfl, hs⟩
-- magneto/magnetoref39.Map
set_option maxRecDepth 100000 in
theorem tie_magnetoref39_Map (m2 : SMap) : TieF Try.prog 13 [A_SMap m2] (magnetoref39_Map m2) (fun r => .t (tB r)) := by
  refine TieF.intro htab 5 [.tmp 2] Try.call13 Try.func13 rfl rfl rfl (Nat.le_of_ble_eq_true rfl) fun w0 L => ?_
  refine TieS.seq ?_
  refine TieS.region ?_
  refine TieO.run 2 rfl ?_
  refine TieO.nil ?_
  refine TieS.seq ?_
  refine TieS.region ?_
  refine TieO.run 1 rfl ?_
  refine TieO.call _ rfl rfl rfl (tie_magnetoref06_Valid m2) (fun _ => rfl) fun v => ?_
  refine TieO.run 1 rfl ?_
  refine TieO.nil ?_
  exact TieS.ret ⟨.inl rfl, rfl⟩
-- magneto/magnetoref36.Torque
set_option maxRecDepth 100000 in
theorem tie_magnetoref36_Torque (t2 : Int) : TieF Try.prog 65 [.t (tI t2)] (magnetoref36_Torque t2) (fun r => .t (tB r)) := by
  refine TieF.intro htab 9 [.tmp 2] Try.call65 Try.func65 rfl rfl rfl (Nat.le_of_ble_eq_true rfl) fun w0 L => ?_
  refine TieS.seq ?_
  refine TieS.region ?_
  refine TieO.run 1 rfl ?_
  refine TieO.nil ?_
  refine TieS.seq ?_
  refine TieS.region ?_
  refine TieO.run 3 rfl ?_
  refine TieO.selAnd (v := decide (t2 ≤ 10000)) 3 5 (fun b => ⟨[(8, .t (tB b))], []⟩) rfl ?_ ?_ ?_
  · refine TieO.run 3 rfl ?_
    refine TieO.nil ?_
    exact TieS.leaf ⟨rfl, .of rfl rfl⟩
  · refine TieO.run 3 rfl ?_
    refine TieO.nil ?_
    exact TieS.leaf ⟨rfl, .of rfl rfl⟩
  refine TieO.run 1 rfl ?_
  refine TieO.nil ?_
  exact TieS.ret ⟨.inl rfl, rfl⟩
-- magneto/magnetoref36.Valid
set_option maxRecDepth 100000 in
theorem tie_magnetoref36_Valid (r2 : SRequest) : TieF Try.prog 43 [A_SRequest r2] (magnetoref36_Valid r2) (fun r => .t (tB r)) := by
  refine TieF.intro htab 45 [.tmp 2] Try.call43 Try.func43 rfl rfl rfl (Nat.le_of_ble_eq_true rfl) fun w0 L => ?_
  refine TieS.seq ?_
  refine TieS.region ?_
  refine TieO.run 2 rfl ?_
  refine TieO.nil ?_
  refine TieS.seq ?_
  refine TieS.seq ?_
  refine TieS.region ?_
  refine TieO.run 4 rfl ?_
  refine TieO.selOr (v := decide (r2.Source > 15)) 4 6 (fun b => ⟨[(1, .ptr 1 0), (10, .t (tB b))], [(1, .box [.t (tI r2.Source), .t (tI r2.Kind), .t (tI r2.Torque), .t (tI r2.Priority)])]⟩) rfl ?_ ?_ ?_
  · refine TieO.run 4 rfl ?_
    refine TieO.nil ?_
    exact TieS.leaf ⟨rfl, .of rfl rfl⟩
  · refine TieO.run 4 rfl ?_
    refine TieO.nil ?_
    exact TieS.leaf ⟨rfl, .of rfl rfl⟩
  refine TieO.run 1 rfl ?_
  refine TieO.selOr (v := decide (r2.Priority < 0)) 4 11 (fun b => ⟨[(1, .ptr 1 0), (15, .t (tB b))], [(1, .box [.t (tI r2.Source), .t (tI r2.Kind), .t (tI r2.Torque), .t (tI r2.Priority)])]⟩) rfl ?_ ?_ ?_
  · refine TieO.run 4 rfl ?_
    refine TieO.nil ?_
    exact TieS.leaf ⟨rfl, .of rfl rfl⟩
  · refine TieO.run 4 rfl ?_
    refine TieO.nil ?_
    exact TieS.leaf ⟨rfl, .of rfl rfl⟩
  refine TieO.run 1 rfl ?_
  refine TieO.selOr (v := decide (r2.Priority > 15)) 4 16 (fun b => ⟨[(1, .ptr 1 0), (20, .t (tB b))], [(1, .box [.t (tI r2.Source), .t (tI r2.Kind), .t (tI r2.Torque), .t (tI r2.Priority)])]⟩) rfl ?_ ?_ ?_
  · refine TieO.run 4 rfl ?_
    refine TieO.nil ?_
    exact TieS.leaf ⟨rfl, .of rfl rfl⟩
  · refine TieO.run 4 rfl ?_
    refine TieO.nil ?_
    exact TieS.leaf ⟨rfl, .of rfl rfl⟩
  refine TieO.run 1 rfl ?_
  refine TieO.bind 5 (fun b2 => ⟨[(1, .ptr 1 0), (26, .t (tB b2))], [(1, .box [.t (tI r2.Source), .t (tI r2.Kind), .t (tI r2.Torque), .t (tI r2.Priority)])]⟩) (TieO.split 21 rfl ?_ ?_) fun b2 _ => ?_
  · refine TieO.run 5 rfl ?_
    refine TieO.nil ?_
    exact TieS.leaf ⟨rfl, .of rfl rfl⟩
  · refine TieO.run 2 rfl ?_
    refine TieO.call _ rfl rfl rfl (tie_magnetoref36_Torque r2.Torque) (fun _ => rfl) fun v => ?_
    refine TieO.run 2 rfl ?_
    refine TieO.nil ?_
    exact TieS.leaf ⟨rfl, .of rfl rfl⟩
  refine TieO.run 1 rfl ?_
  refine TieO.selOr (v := decide (r2.Kind < 1)) 4 27 (fun b => ⟨[(1, .ptr 1 0), (31, .t (tB b))], [(1, .box [.t (tI r2.Source), .t (tI r2.Kind), .t (tI r2.Torque), .t (tI r2.Priority)])]⟩) rfl ?_ ?_ ?_
  · refine TieO.run 4 rfl ?_
    refine TieO.nil ?_
    exact TieS.leaf ⟨rfl, .of rfl rfl⟩
  · refine TieO.run 4 rfl ?_
    refine TieO.nil ?_
    exact TieS.leaf ⟨rfl, .of rfl rfl⟩
  refine TieO.run 1 rfl ?_
  refine TieO.selOr (v := decide (r2.Kind > 3)) 4 32 (fun b => ⟨[(1, .ptr 1 0), (36, .t (tB b))], [(1, .box [.t (tI r2.Source), .t (tI r2.Kind), .t (tI r2.Torque), .t (tI r2.Priority)])]⟩) rfl ?_ ?_ ?_
  · refine TieO.run 4 rfl ?_
    refine TieO.nil ?_
    exact TieS.leaf ⟨rfl, .of rfl rfl⟩
  · refine TieO.run 4 rfl ?_
    refine TieO.nil ?_
    exact TieS.leaf ⟨rfl, .of rfl rfl⟩
  refine TieO.nil ?_
  refine TieS.cond rfl ?_ ?_
  · refine TieS.seq ?_
    refine TieS.region ?_
    refine TieO.run 1 rfl ?_
    refine TieO.nil ?_
    exact TieS.ret ⟨.inl rfl, rfl⟩
  · refine TieS.skip ?_
    refine TieS.seq ?_
    refine TieS.region ?_
    refine TieO.run 4 rfl ?_
    refine TieO.selOr (v := (r2.Kind == 1)) 4 40 (fun b => ⟨[(44, .t (tB b))], []⟩) rfl ?_ ?_ ?_
    · refine TieO.run 4 rfl ?_
      refine TieO.nil ?_
      exact TieS.leaf ⟨rfl, .of rfl rfl⟩
    · refine TieO.run 4 rfl ?_
      refine TieO.nil ?_
      exact TieS.leaf ⟨rfl, .of rfl rfl⟩
    refine TieO.run 1 rfl ?_
    refine TieO.nil ?_
    exact TieS.ret ⟨.inl rfl, rfl⟩
-- magneto/magnetoref39.Requests
set_option maxRecDepth 100000 in
theorem tie_magnetoref39_Requests (l : List SRequest) : TieF Try.prog 14 [.t (tS enc_SRequest l)] (magnetoref39_Requests l) (fun r => .t (tB r)) := by
  refine TieF.intro htab 16 [.tmp 2] Try.call14 Try.func14 rfl rfl rfl (Nat.le_of_ble_eq_true rfl) fun w0 L => ?_
  refine TieS.seq ?_
  refine TieS.region ?_
  refine TieO.run 1 rfl ?_
  refine TieO.nil ?_
  refine TieS.seq ?_
  refine TieS.seq ?_
  refine TieS.region ?_
  refine TieO.run 1 rfl ?_
  refine TieO.nil ?_
  refine TieS.block ?_
  refine TieS.loop (fun t => ⟨[(0, .t (tS enc_SRequest l)), (3, .t (tI t))], []⟩) (fun b e σ' => match b with | .inl t => e = .exit 0 ∧ Sub ⟨[], []⟩ σ' | .inr r => e = .ret ∧ retT tab σ' [.tmp 2] = some (((fun r => .t (tB r)) : Bool → T) r)) (.of rfl rfl) ?_ ?_
  · intro i
    refine TieS.seq ?_
    refine TieS.seq ?_
    refine TieS.region ?_
    refine TieO.run 4 rfl ?_
    refine TieO.nil ?_
    refine TieS.cond rfl ?_ ?_
    · refine TieS.skip ?_
      refine TieS.seq ?_
      refine TieS.block ?_
      refine TieS.seq ?_
      refine TieS.region ?_
      refine TieO.run 2 rfl ?_
      refine TieO.index rfl rfl rfl rfl rfl rfl rfl rfl (fun _ => rfl) fun x hx => ?_
      refine TieO.run 1 rfl ?_
      refine TieO.call _ rfl rfl rfl (tie_magnetoref36_Valid x) (fun _ => rfl) fun v => ?_
      refine TieO.run 1 rfl ?_
      refine TieO.nil ?_
      refine TieS.cond rfl ?_ ?_
      · refine TieS.seq ?_
        refine TieS.region ?_
        refine TieO.run 1 rfl ?_
        refine TieO.nil ?_
        exact TieS.ret ⟨(fun h => by cases h), rfl, rfl⟩
      · refine TieS.skip ?_
        refine TieS.endb ?_
        refine TieS.region ?_
        refine TieO.run 3 rfl ?_
        refine TieO.nil ?_
        exact TieS.leaf ⟨rfl, .of rfl rfl⟩
    · exact TieS.exitOut rfl ⟨(fun h => by cases h), rfl, .of rfl rfl⟩
  rintro (i2 | r2) e σ' _ hq
  · obtain ⟨rfl, hs⟩ := hq
    refine TieX.exit rfl (TieX.sub hs ?_)
    refine TieS.seq ?_
    refine TieS.region ?_
    refine TieO.run 1 rfl ?_
    refine TieO.nil ?_
    exact TieS.ret ⟨.inl rfl, rfl⟩
  · obtain ⟨rfl, hs⟩ := hq
    exact TieX.ret ⟨.inl rfl, hs⟩
-- magneto/magnetoref39.In
set_option maxRecDepth 100000 in
theorem tie_magnetoref39_In (x : Int) (low : Int) (high : Int) : TieF Try.prog 15 [.t (tI x), .t (tI low), .t (tI high)] (magnetoref39_In x low high) (fun r => .t (tB r)) := by
  refine TieF.intro htab 15 [.tmp 6] Try.call15 Try.func15 rfl rfl rfl (Nat.le_of_ble_eq_true rfl) fun w0 L => ?_
  refine TieS.seq ?_
  refine TieS.region ?_
  refine TieO.run 1 rfl ?_
  refine TieO.nil ?_
  refine TieS.seq ?_
  refine TieS.region ?_
  refine TieO.run 4 rfl ?_
  refine TieO.selAnd (v := decide (x ≤ high)) 4 10 (fun b => ⟨[(14, .t (tB b))], []⟩) rfl ?_ ?_ ?_
  · refine TieO.run 4 rfl ?_
    refine TieO.nil ?_
    exact TieS.leaf ⟨rfl, .of rfl rfl⟩
  · refine TieO.run 4 rfl ?_
    refine TieO.nil ?_
    exact TieS.leaf ⟨rfl, .of rfl rfl⟩
  refine TieO.run 1 rfl ?_
  refine TieO.nil ?_
  exact TieS.ret ⟨.inl rfl, rfl⟩
-- magneto/magnetoref39.limit
set_option maxRecDepth 100000 in
theorem tie_magnetoref39_limit (x : Int) (low : Int) (high : Int) : TieF Try.prog 44 [.t (tI x), .t (tI low), .t (tI high)] (magnetoref39_limit x low high) (fun r => .t (tI r)) := by
  refine TieF.intro htab 16 [.tmp 6] Try.call44 Try.func44 rfl rfl rfl (Nat.le_of_ble_eq_true rfl) fun w0 L => ?_
  refine TieS.seq ?_
  refine TieS.region ?_
  refine TieO.run 1 rfl ?_
  refine TieO.nil ?_
  refine TieS.seq ?_
  refine TieS.seq ?_
  refine TieS.region ?_
  refine TieO.run 3 rfl ?_
  refine TieO.nil ?_
  refine TieS.cond rfl ?_ ?_
  · refine TieS.seq ?_
    refine TieS.region ?_
    refine TieO.run 2 rfl ?_
    refine TieO.nil ?_
    exact TieS.ret ⟨.inl rfl, rfl⟩
  · refine TieS.skip ?_
    refine TieS.seq ?_
    refine TieS.seq ?_
    refine TieS.region ?_
    refine TieO.run 3 rfl ?_
    refine TieO.nil ?_
    refine TieS.cond rfl ?_ ?_
    · refine TieS.seq ?_
      refine TieS.region ?_
      refine TieO.run 2 rfl ?_
      refine TieO.nil ?_
      exact TieS.ret ⟨.inl rfl, rfl⟩
    · refine TieS.skip ?_
      refine TieS.seq ?_
      refine TieS.region ?_
      refine TieO.run 2 rfl ?_
      refine TieO.nil ?_
      exact TieS.ret ⟨.inl rfl, rfl⟩
-- magneto/magnetoref39.Around
set_option maxRecDepth 100000 in
theorem tie_magnetoref39_Around (l : List Int) (x : Int) : TieF Try.prog 66 [.t (tS encI l), .t (tI x)] (magnetoref39_Around l x) (fun r => .tup [.t (tI r.1), .t (tI r.2)]) := by
  refine TieF.intro htab 42 [.tmp 4, .tmp 5] Try.call66 Try.func66 rfl rfl rfl (Nat.le_of_ble_eq_true rfl) fun w0 L => ?_
  refine TieS.seq ?_
  refine TieS.region ?_
  refine TieO.run 2 rfl ?_
  refine TieO.nil ?_
  refine TieS.seq ?_
  refine TieS.region ?_
  refine TieO.run 5 rfl ?_
  refine TieO.nil ?_
  refine TieS.seq ?_
  refine TieS.seq ?_
  refine TieS.region ?_
  refine TieO.run 1 rfl ?_
  refine TieO.nil ?_
  refine TieS.block ?_
  refine TieS.loop (fun t => ⟨[(0, .t (tS encI l)), (1, .t (tI x)), (6, .t (tI t.2)), (7, .t (tI (w64 ((l.length : Int) - 1)))), (8, .t (tI t.1))], []⟩) (fun b e σ' => match b with | .inl t => e = .exit 0 ∧ Sub ⟨[(0, .t (tS encI l)), (1, .t (tI x)), (6, .t (tI t.2)), (7, .t (tI (w64 ((l.length : Int) - 1))))], []⟩ σ' | .inr r => False) (.of rfl rfl) ?_ ?_
  · intro s
    refine TieS.seq ?_
    refine TieS.seq ?_
    refine TieS.region ?_
    refine TieO.run 4 rfl ?_
    refine TieO.nil ?_
    refine TieS.cond rfl ?_ ?_
    · refine TieS.skip ?_
      refine TieS.seq ?_
      refine TieS.block ?_
      refine TieS.seq ?_
      refine TieS.region ?_
      refine TieO.run 2 rfl ?_
      refine TieO.index rfl rfl rfl rfl rfl rfl rfl rfl (fun _ => rfl) fun x2 hx2 => ?_
      refine TieO.run 3 rfl ?_
      refine TieO.nil ?_
      refine TieS.cond rfl ?_ ?_
      · refine TieS.region ?_
        refine TieO.run 2 rfl ?_
        refine TieO.nil ?_
        refine TieS.endb ?_
        refine TieS.region ?_
        refine TieO.run 3 rfl ?_
        refine TieO.nil ?_
        exact TieS.leaf ⟨rfl, .of rfl rfl⟩
      · refine TieS.skip ?_
        refine TieS.endb ?_
        refine TieS.region ?_
        refine TieO.run 3 rfl ?_
        refine TieO.nil ?_
        exact TieS.leaf ⟨rfl, .of rfl rfl⟩
    · exact TieS.exitOut rfl ⟨(fun h => by cases h), rfl, .of rfl rfl⟩
  rintro (s2 | r) e σ' _ hq
  · obtain ⟨rfl, hs⟩ := hq
    refine TieX.exit rfl (TieX.sub hs ?_)
    refine TieS.seq ?_
    refine TieS.seq ?_
    refine TieS.region ?_
    refine TieO.run 4 rfl ?_
    refine TieO.nil ?_
    refine TieS.block ?_
    refine TieS.loop (fun t => ⟨[(0, .t (tS encI l)), (1, .t (tI x)), (6, .t (tI s2.2)), (7, .t (tI t.2)), (9, .t (tI t.1))], []⟩) (fun b e σ' => match b with | .inl t => e = .exit 2 ∧ Sub ⟨[(6, .t (tI s2.2)), (7, .t (tI t.2))], []⟩ σ' | .inr r => False) (.of rfl rfl) ?_ ?_
    · intro s3
      refine TieS.seq ?_
      refine TieS.seq ?_
      refine TieS.region ?_
      refine TieO.run 2 rfl ?_
      refine TieO.nil ?_
      refine TieS.cond rfl ?_ ?_
      · refine TieS.skip ?_
        refine TieS.seq ?_
        refine TieS.block ?_
        refine TieS.seq ?_
        refine TieS.region ?_
        refine TieO.run 2 rfl ?_
        refine TieO.index rfl rfl rfl rfl rfl rfl rfl rfl (fun _ => rfl) fun x3 hx3 => ?_
        refine TieO.run 3 rfl ?_
        refine TieO.nil ?_
        refine TieS.cond rfl ?_ ?_
        · refine TieS.region ?_
          refine TieO.run 2 rfl ?_
          refine TieO.nil ?_
          refine TieS.endb ?_
          refine TieS.region ?_
          refine TieO.run 3 rfl ?_
          refine TieO.nil ?_
          exact TieS.leaf ⟨rfl, .of rfl rfl⟩
        · refine TieS.skip ?_
          refine TieS.endb ?_
          refine TieS.region ?_
          refine TieO.run 3 rfl ?_
          refine TieO.nil ?_
          exact TieS.leaf ⟨rfl, .of rfl rfl⟩
      · exact TieS.exitOut rfl ⟨(fun h => by cases h), rfl, .of rfl rfl⟩
    rintro (s4 | r) e σ' _ hq
    · obtain ⟨rfl, hs⟩ := hq
      refine TieX.exit rfl (TieX.sub hs ?_)
      refine TieS.seq ?_
      refine TieS.region ?_
      refine TieO.run 4 rfl ?_
      refine TieO.nil ?_
      exact TieS.ret ⟨.inl rfl, rfl⟩
    · exact hq.elim
  · exact hq.elim
-- magneto/magnetoref39.Corner
set_option maxRecDepth 100000 in
theorem tie_magnetoref39_Corner (m2 : SMap) (x : Int) (y : Int) : TieF Try.prog 45 [A_SMap m2, .t (tI x), .t (tI y)] (magnetoref39_Corner m2 x y) (fun r => .t (tI r)) := by
  refine TieF.intro htab 89 [.tmp 6] Try.call45 Try.func45 rfl rfl rfl (Nat.le_of_ble_eq_true rfl) fun w0 L => ?_
  refine TieS.seq ?_
  refine TieS.region ?_
  refine TieO.run 2 rfl ?_
  refine TieO.nil ?_
  refine TieS.seq ?_
  refine TieS.region ?_
  refine TieO.run 3 rfl ?_
  refine TieO.call _ rfl rfl rfl (tie_magnetoref39_Around m2.X x) (fun _ => rfl) fun r2 => ?_
  refine TieO.run 5 rfl ?_
  refine TieO.nil ?_
  refine TieS.seq ?_
  refine TieS.region ?_
  refine TieO.run 3 rfl ?_
  refine TieO.call _ rfl rfl rfl (tie_magnetoref39_Around m2.Y y) (fun _ => rfl) fun r3 => ?_
  refine TieO.run 5 rfl ?_
  refine TieO.nil ?_
  refine TieS.seq ?_
  refine TieS.region ?_
  refine TieO.run 3 rfl ?_
  refine TieO.index rfl rfl rfl rfl rfl rfl rfl rfl (fun _ => rfl) fun x2 hx2 => ?_
  refine TieO.run 2 rfl ?_
  refine TieO.index rfl rfl rfl rfl rfl rfl rfl rfl (fun _ => rfl) fun x3 hx3 => ?_
  refine TieO.run 2 rfl ?_
  refine TieO.nil ?_
  refine TieS.seq ?_
  refine TieS.seq ?_
  refine TieS.region ?_
  refine TieO.run 3 rfl ?_
  refine TieO.indexH hx2 rfl rfl rfl rfl rfl rfl rfl rfl (fun _ => rfl) ?_
  refine TieO.run 2 rfl ?_
  refine TieO.index rfl rfl rfl rfl rfl rfl rfl rfl (fun _ => rfl) fun x4 hx4 => ?_
  refine TieO.run 3 rfl ?_
  refine TieO.nil ?_
  refine TieS.bind (Q₁ := fun t e σ' => e = .normal ∧ Sub ⟨[(3, .ptr 3 0), (8, .t (tI r2.2)), (9, .t (tI r3.1)), (10, .t (tI r3.2)), (11, .t (tI t))], [(3, .box [.t (tS encI m2.X), .t (tS encI m2.Y), .t (tS (encS encI) m2.Z)])]⟩ σ') ?_ ?_
  · refine TieS.cond rfl ?_ ?_
    · refine TieS.region ?_
      refine TieO.run 3 rfl ?_
      refine TieO.indexH hx2 rfl rfl rfl rfl rfl rfl rfl rfl (fun _ => rfl) ?_
      refine TieO.run 2 rfl ?_
      refine TieO.indexH hx4 rfl rfl rfl rfl rfl rfl rfl rfl (fun _ => rfl) ?_
      refine TieO.run 2 rfl ?_
      refine TieO.nil ?_
      exact TieS.leaf ⟨rfl, .of rfl rfl⟩
    · refine TieS.skip ?_
      exact TieS.leaf ⟨rfl, .of rfl rfl⟩
  rintro z e σ' _ ⟨rfl, hs⟩
  refine TieX.sub hs ?_
  refine TieS.seq ?_
  refine TieS.seq ?_
  refine TieS.region ?_
  refine TieO.run 3 rfl ?_
  refine TieO.index rfl rfl rfl rfl rfl rfl rfl rfl (fun _ => rfl) fun x5 hx5 => ?_
  refine TieO.run 2 rfl ?_
  refine TieO.index rfl rfl rfl rfl rfl rfl rfl rfl (fun _ => rfl) fun x6 hx6 => ?_
  refine TieO.run 3 rfl ?_
  refine TieO.nil ?_
  refine TieS.bind (Q₁ := fun t e σ' => e = .normal ∧ Sub ⟨[(3, .ptr 3 0), (8, .t (tI r2.2)), (10, .t (tI r3.2)), (11, .t (tI t))], [(3, .box [.t (tS encI m2.X), .t (tS encI m2.Y), .t (tS (encS encI) m2.Z)])]⟩ σ') ?_ ?_
  · refine TieS.cond rfl ?_ ?_
    · refine TieS.region ?_
      refine TieO.run 3 rfl ?_
      refine TieO.indexH hx5 rfl rfl rfl rfl rfl rfl rfl rfl (fun _ => rfl) ?_
      refine TieO.run 2 rfl ?_
      refine TieO.indexH hx6 rfl rfl rfl rfl rfl rfl rfl rfl (fun _ => rfl) ?_
      refine TieO.run 2 rfl ?_
      refine TieO.nil ?_
      exact TieS.leaf ⟨rfl, .of rfl rfl⟩
    · refine TieS.skip ?_
      exact TieS.leaf ⟨rfl, .of rfl rfl⟩
  rintro z2 e σ' _ ⟨rfl, hs⟩
  refine TieX.sub hs ?_
  refine TieS.seq ?_
  refine TieS.seq ?_
  refine TieS.region ?_
  refine TieO.run 3 rfl ?_
  refine TieO.indexH hx5 rfl rfl rfl rfl rfl rfl rfl rfl (fun _ => rfl) ?_
  refine TieO.run 2 rfl ?_
  refine TieO.index rfl rfl rfl rfl rfl rfl rfl rfl (fun _ => rfl) fun x7 hx7 => ?_
  refine TieO.run 3 rfl ?_
  refine TieO.nil ?_
  refine TieS.cond rfl ?_ ?_
  · refine TieS.region ?_
    refine TieO.run 3 rfl ?_
    refine TieO.indexH hx5 rfl rfl rfl rfl rfl rfl rfl rfl (fun _ => rfl) ?_
    refine TieO.run 2 rfl ?_
    refine TieO.indexH hx7 rfl rfl rfl rfl rfl rfl rfl rfl (fun _ => rfl) ?_
    refine TieO.run 2 rfl ?_
    refine TieO.nil ?_
    refine TieS.seq ?_
    refine TieS.region ?_
    refine TieO.run 2 rfl ?_
    refine TieO.nil ?_
    exact TieS.ret ⟨.inl rfl, rfl⟩
  · refine TieS.skip ?_
    refine TieS.seq ?_
    refine TieS.region ?_
    refine TieO.run 2 rfl ?_
    refine TieO.nil ?_
    exact TieS.ret ⟨.inl rfl, rfl⟩
-- magneto/magnetoref39.Raises
set_option maxRecDepth 100000 in
theorem tie_magnetoref39_Raises (r2 : SRequest) : TieF Try.prog 46 [A_SRequest r2] (magnetoref39_Raises r2) (fun r => .t (tB r)) := by
  refine TieF.intro htab 11 [.tmp 2] Try.call46 Try.func46 rfl rfl rfl (Nat.le_of_ble_eq_true rfl) fun w0 L => ?_
  refine TieS.seq ?_
  refine TieS.region ?_
  refine TieO.run 2 rfl ?_
  refine TieO.nil ?_
  refine TieS.seq ?_
  refine TieS.region ?_
  refine TieO.run 4 rfl ?_
  refine TieO.selOr (v := (r2.Kind == 3)) 4 6 (fun b => ⟨[(10, .t (tB b))], []⟩) rfl ?_ ?_ ?_
  · refine TieO.run 4 rfl ?_
    refine TieO.nil ?_
    exact TieS.leaf ⟨rfl, .of rfl rfl⟩
  · refine TieO.run 4 rfl ?_
    refine TieO.nil ?_
    exact TieS.leaf ⟨rfl, .of rfl rfl⟩
  refine TieO.run 1 rfl ?_
  refine TieO.nil ?_
  exact TieS.ret ⟨.inl rfl, rfl⟩
-- magneto/magnetoref39.Permitted
set_option maxRecDepth 100000 in
theorem tie_magnetoref39_Permitted (t2 : STables) (pedal : Int) (speed : Int) (l : List SRequest) : TieF Try.prog 16 [A_STables t2, .t (tI pedal), .t (tI speed), .t (tS enc_SRequest l)] (magnetoref39_Permitted t2 pedal speed l) (fun r => .t (tI r)) := by
  refine TieF.intro htab 110 [.tmp 8] Try.call16 Try.func16 rfl rfl rfl (Nat.le_of_ble_eq_true rfl) fun w0 L => ?_
  refine TieS.seq ?_
  refine TieS.region ?_
  refine TieO.run 2 rfl ?_
  refine TieO.nil ?_
  refine TieS.seq ?_
  refine TieS.region ?_
  refine TieO.run 4 rfl ?_
  refine TieO.call _ rfl rfl rfl (tie_magnetoref39_Corner t2.Wish speed pedal) (fun _ => rfl) fun v => ?_
  refine TieO.call _ rfl rfl rfl (tie_magnetoref39_limit v (-5000) 10000) (fun _ => rfl) fun v2 => ?_
  refine TieO.run 1 rfl ?_
  refine TieO.nil ?_
  refine TieS.seq ?_
  refine TieS.region ?_
  refine TieO.run 1 rfl ?_
  refine TieO.nil ?_
  refine TieS.seq ?_
  refine TieS.region ?_
  refine TieO.run 1 rfl ?_
  refine TieO.nil ?_
  refine TieS.seq ?_
  refine TieS.seq ?_
  refine TieS.region ?_
  refine TieO.run 1 rfl ?_
  refine TieO.nil ?_
  refine TieS.block ?_
  refine TieS.loop (fun t => ⟨[(3, .t (tS enc_SRequest l)), (9, .t (tI v2)), (10, .t (tI t.1)), (11, .t (tI t.2.1)), (12, .t (tI t.2.2))], []⟩) (fun b e σ' => match b with | .inl t => e = .exit 0 ∧ Sub ⟨[(3, .t (tS enc_SRequest l)), (9, .t (tI v2)), (10, .t (tI t.1)), (11, .t (tI t.2.1))], []⟩ σ' | .inr r => False) (.of rfl rfl) ?_ ?_
  · intro s
    refine TieS.seq ?_
    refine TieS.seq ?_
    refine TieS.region ?_
    refine TieO.run 4 rfl ?_
    refine TieO.nil ?_
    refine TieS.cond rfl ?_ ?_
    · refine TieS.skip ?_
      refine TieS.seq ?_
      refine TieS.block ?_
      refine TieS.seq ?_
      refine TieS.seq ?_
      refine TieS.region ?_
      refine TieO.run 2 rfl ?_
      refine TieO.index rfl rfl rfl rfl rfl rfl rfl rfl (fun _ => rfl) fun x hx => ?_
      refine TieO.run 1 rfl ?_
      refine TieO.call _ rfl rfl rfl (tie_magnetoref39_Raises x) (fun _ => rfl) fun v3 => ?_
      refine TieO.run 1 rfl ?_
      refine TieO.nil ?_
      refine TieS.cond rfl ?_ ?_
      · refine TieS.exit rfl ?_
        refine TieS.region ?_
        refine TieO.run 3 rfl ?_
        refine TieO.nil ?_
        exact TieS.leaf ⟨rfl, .of rfl rfl⟩
      · refine TieS.skip ?_
        refine TieS.seq ?_
        refine TieS.seq ?_
        refine TieS.region ?_
        refine TieO.run 2 rfl ?_
        refine TieO.indexH hx rfl rfl rfl rfl rfl rfl rfl rfl (fun _ => rfl) ?_
        refine TieO.run 4 rfl ?_
        refine TieO.nil ?_
        refine TieS.bind (Q₁ := fun t e σ' => e = .normal ∧ Sub ⟨[(3, .t (tS enc_SRequest l)), (9, .t (tI v2)), (10, .t (tI s.1)), (11, .t (tI t)), (12, .t (tI s.2.2))], []⟩ σ') ?_ ?_
        · refine TieS.cond rfl ?_ ?_
          · refine TieS.region ?_
            refine TieO.run 2 rfl ?_
            refine TieO.indexH hx rfl rfl rfl rfl rfl rfl rfl rfl (fun _ => rfl) ?_
            refine TieO.run 3 rfl ?_
            refine TieO.nil ?_
            exact TieS.leaf ⟨rfl, .of rfl rfl⟩
          · refine TieS.skip ?_
            exact TieS.leaf ⟨rfl, .of rfl rfl⟩
        rintro priority e σ' _ ⟨rfl, hs⟩
        refine TieX.sub hs ?_
        refine TieS.seq ?_
        refine TieS.region ?_
        refine TieO.run 2 rfl ?_
        refine TieO.indexH hx rfl rfl rfl rfl rfl rfl rfl rfl (fun _ => rfl) ?_
        refine TieO.run 4 rfl ?_
        refine TieO.bind 8 (fun b2 => ⟨[(3, .t (tS enc_SRequest l)), (9, .t (tI v2)), (10, .t (tI s.1)), (11, .t (tI priority)), (12, .t (tI s.2.2)), (59, .t (tB b2))], []⟩) (TieO.split 51 rfl ?_ ?_) fun b2 _ => ?_
        · refine TieO.run 2 rfl ?_
          refine TieO.indexH hx rfl rfl rfl rfl rfl rfl rfl rfl (fun _ => rfl) ?_
          refine TieO.run 5 rfl ?_
          refine TieO.nil ?_
          exact TieS.leaf ⟨rfl, .of rfl rfl⟩
        · refine TieO.run 8 rfl ?_
          refine TieO.nil ?_
          exact TieS.leaf ⟨rfl, .of rfl rfl⟩
        refine TieO.nil ?_
        refine TieS.cond rfl ?_ ?_
        · refine TieS.region ?_
          refine TieO.run 2 rfl ?_
          refine TieO.indexH hx rfl rfl rfl rfl rfl rfl rfl rfl (fun _ => rfl) ?_
          refine TieO.run 3 rfl ?_
          refine TieO.nil ?_
          refine TieS.endb ?_
          refine TieS.region ?_
          refine TieO.run 3 rfl ?_
          refine TieO.nil ?_
          exact TieS.leaf ⟨rfl, .of rfl rfl⟩
        · refine TieS.skip ?_
          refine TieS.endb ?_
          refine TieS.region ?_
          refine TieO.run 3 rfl ?_
          refine TieO.nil ?_
          exact TieS.leaf ⟨rfl, .of rfl rfl⟩
    · exact TieS.exitOut rfl ⟨(fun h => by cases h), rfl, .of rfl rfl⟩
  rintro (s2 | r) e σ' _ hq
  · obtain ⟨rfl, hs⟩ := hq
    refine TieX.exit rfl (TieX.sub hs ?_)
    refine TieS.seq ?_
    refine TieS.seq ?_
    refine TieS.region ?_
    refine TieO.run 2 rfl ?_
    refine TieO.nil ?_
    refine TieS.bind (Q₁ := fun t e σ' => e = .normal ∧ Sub ⟨[(3, .t (tS enc_SRequest l)), (9, .t (tI v2)), (10, .t (tI t)), (11, .t (tI s2.2.1))], []⟩ σ') ?_ ?_
    · refine TieS.cond rfl ?_ ?_
      · refine TieS.region ?_
        refine TieO.run 1 rfl ?_
        refine TieO.nil ?_
        exact TieS.leaf ⟨rfl, .of rfl rfl⟩
      · refine TieS.skip ?_
        exact TieS.leaf ⟨rfl, .of rfl rfl⟩
    rintro idle e σ' _ ⟨rfl, hs⟩
    refine TieX.sub hs ?_
    refine TieS.seq ?_
    refine TieS.region ?_
    refine TieO.run 2 rfl ?_
    refine TieO.nil ?_
    refine TieS.seq ?_
    refine TieS.seq ?_
    refine TieS.region ?_
    refine TieO.run 3 rfl ?_
    refine TieO.nil ?_
    refine TieS.bind (Q₁ := fun t e σ' => e = .normal ∧ Sub ⟨[(3, .t (tS enc_SRequest l)), (11, .t (tI s2.2.1)), (13, .t (tI t))], []⟩ σ') ?_ ?_
    · refine TieS.cond rfl ?_ ?_
      · refine TieS.region ?_
        refine TieO.run 2 rfl ?_
        refine TieO.nil ?_
        exact TieS.leaf ⟨rfl, .of rfl rfl⟩
      · refine TieS.skip ?_
        exact TieS.leaf ⟨rfl, .of rfl rfl⟩
    rintro most e σ' _ ⟨rfl, hs⟩
    refine TieX.sub hs ?_
    refine TieS.seq ?_
    refine TieS.seq ?_
    refine TieS.region ?_
    refine TieO.run 1 rfl ?_
    refine TieO.nil ?_
    refine TieS.block ?_
    refine TieS.loop (fun t => ⟨[(3, .t (tS enc_SRequest l)), (11, .t (tI s2.2.1)), (13, .t (tI t.1)), (14, .t (tI t.2))], []⟩) (fun b e σ' => match b with | .inl t => e = .exit 2 ∧ Sub ⟨[(13, .t (tI t.1))], []⟩ σ' | .inr r => False) (.of rfl rfl) ?_ ?_
    · intro s3
      refine TieS.seq ?_
      refine TieS.seq ?_
      refine TieS.region ?_
      refine TieO.run 4 rfl ?_
      refine TieO.nil ?_
      refine TieS.cond rfl ?_ ?_
      · refine TieS.skip ?_
        refine TieS.seq ?_
        refine TieS.block ?_
        refine TieS.seq ?_
        refine TieS.region ?_
        refine TieO.run 2 rfl ?_
        refine TieO.index rfl rfl rfl rfl rfl rfl rfl rfl (fun _ => rfl) fun x2 hx2 => ?_
        refine TieO.run 4 rfl ?_
        refine TieO.bind 8 (fun b3 => ⟨[(3, .t (tS enc_SRequest l)), (11, .t (tI s2.2.1)), (13, .t (tI s3.1)), (14, .t (tI s3.2)), (92, .t (tB b3))], []⟩) (TieO.split 84 rfl ?_ ?_) fun b3 _ => ?_
        · refine TieO.run 2 rfl ?_
          refine TieO.indexH hx2 rfl rfl rfl rfl rfl rfl rfl rfl (fun _ => rfl) ?_
          refine TieO.run 5 rfl ?_
          refine TieO.nil ?_
          exact TieS.leaf ⟨rfl, .of rfl rfl⟩
        · refine TieO.run 8 rfl ?_
          refine TieO.nil ?_
          exact TieS.leaf ⟨rfl, .of rfl rfl⟩
        refine TieO.run 1 rfl ?_
        refine TieO.bind 8 (fun b4 => ⟨[(3, .t (tS enc_SRequest l)), (11, .t (tI s2.2.1)), (13, .t (tI s3.1)), (14, .t (tI s3.2)), (101, .t (tB b4))], []⟩) (TieO.split 93 rfl ?_ ?_) fun b4 _ => ?_
        · refine TieO.run 2 rfl ?_
          refine TieO.indexH hx2 rfl rfl rfl rfl rfl rfl rfl rfl (fun _ => rfl) ?_
          refine TieO.run 5 rfl ?_
          refine TieO.nil ?_
          exact TieS.leaf ⟨rfl, .of rfl rfl⟩
        · refine TieO.run 8 rfl ?_
          refine TieO.nil ?_
          exact TieS.leaf ⟨rfl, .of rfl rfl⟩
        refine TieO.nil ?_
        refine TieS.cond rfl ?_ ?_
        · refine TieS.region ?_
          refine TieO.run 2 rfl ?_
          refine TieO.indexH hx2 rfl rfl rfl rfl rfl rfl rfl rfl (fun _ => rfl) ?_
          refine TieO.run 3 rfl ?_
          refine TieO.nil ?_
          refine TieS.endb ?_
          refine TieS.region ?_
          refine TieO.run 3 rfl ?_
          refine TieO.nil ?_
          exact TieS.leaf ⟨rfl, .of rfl rfl⟩
        · refine TieS.skip ?_
          refine TieS.endb ?_
          refine TieS.region ?_
          refine TieO.run 3 rfl ?_
          refine TieO.nil ?_
          exact TieS.leaf ⟨rfl, .of rfl rfl⟩
      · exact TieS.exitOut rfl ⟨(fun h => by cases h), rfl, .of rfl rfl⟩
    rintro (s4 | r) e σ' _ hq
    · obtain ⟨rfl, hs⟩ := hq
      refine TieX.exit rfl (TieX.sub hs ?_)
      refine TieS.seq ?_
      refine TieS.region ?_
      refine TieO.run 1 rfl ?_
      refine TieO.call _ rfl rfl rfl (tie_magnetoref39_limit s4.1 0 10000) (fun _ => rfl) fun v4 => ?_
      refine TieO.run 2 rfl ?_
      refine TieO.nil ?_
      exact TieS.ret ⟨.inl rfl, rfl⟩
    · exact hq.elim
  · exact hq.elim
-- magneto/magnetolaw39.MonitorPermits
set_option maxRecDepth 100000 in
theorem tie_magnetolaw39_MonitorPermits (t2 : STables) (value : Int) (speed : Int) (l : List SRequest) : TieF Try.prog 3 [A_STables t2, .t (tI value), .t (tI speed), .t (tS enc_SRequest l)] (magnetolaw39_MonitorPermits t2 value speed l) (fun r => .t (tB r)) := by
  refine TieF.intro htab 76 [.tmp 8] Try.call3 Try.func3 rfl rfl rfl (Nat.le_of_ble_eq_true rfl) fun w0 L => ?_
  refine TieS.seq ?_
  refine TieS.region ?_
  refine TieO.run 2 rfl ?_
  refine TieO.nil ?_
  refine TieS.seq ?_
  refine TieS.seq ?_
  refine TieS.region ?_
  refine TieO.call _ rfl rfl rfl (tie_magnetolaw39_awake) (fun _ => rfl) fun v => ?_
  refine TieO.run 1 rfl ?_
  refine TieO.nil ?_
  refine TieS.cond rfl ?_ ?_
  · refine TieS.seq ?_
    refine TieS.region ?_
    refine TieO.run 1 rfl ?_
    refine TieO.nil ?_
    exact TieS.ret ⟨.inl rfl, rfl⟩
  · refine TieS.skip ?_
    refine TieS.seq ?_
    refine TieS.seq ?_
    refine TieS.region ?_
    refine TieO.run 3 rfl ?_
    refine TieO.nil ?_
    refine TieS.cond rfl ?_ ?_
    · refine TieS.seq ?_
      refine TieS.region ?_
      refine TieO.run 1 rfl ?_
      refine TieO.nil ?_
      exact TieS.ret ⟨.inl rfl, rfl⟩
    · refine TieS.skip ?_
      refine TieS.seq ?_
      refine TieS.region ?_
      refine TieO.run 4 rfl ?_
      refine TieO.call _ rfl rfl rfl (tie_monitor_Permitted t2 value speed l) (fun _ => rfl) fun r2 => ?_
      refine TieO.run 5 rfl ?_
      refine TieO.nil ?_
      refine TieS.seq ?_
      refine TieS.block ?_
      refine TieS.seq ?_
      refine TieS.region ?_
      refine TieO.run 2 rfl ?_
      refine TieO.call _ rfl rfl rfl (tie_magnetoref39_Map t2.Wish) (fun _ => rfl) fun v2 => ?_
      refine TieO.run 2 rfl ?_
      refine TieO.bind 4 (fun b2 => ⟨[(1, .t (tI value)), (2, .t (tI speed)), (3, .t (tS enc_SRequest l)), (4, .ptr 4 0), (9, .t (tI r2.1)), (10, .t (tI r2.2)), (33, .t (tB b2))], [(4, .box [.t (tS encI t2.Air.X), .t (tS encI t2.Air.Y), .t (tS (encS encI) t2.Air.Z), .t (tS encI t2.Spark.X), .t (tS encI t2.Spark.Y), .t (tS (encS encI) t2.Spark.Z), .t (tS encI t2.Torque.X), .t (tS encI t2.Torque.Y), .t (tS (encS encI) t2.Torque.Z), .t (tS encI t2.Wish.X), .t (tS encI t2.Wish.Y), .t (tS (encS encI) t2.Wish.Z), .t (tS encI t2.AirTemp.X), .t (tS encI t2.AirTemp.Y), .t (tS encI t2.Dwell.X), .t (tS encI t2.Dwell.Y), .t (tS encI t2.Dead.X), .t (tS encI t2.Dead.Y), .t (tS encI t2.Efficiency.X), .t (tS encI t2.Efficiency.Y), .t (tI t2.Idle.P), .t (tI t2.Idle.I), .t (tI t2.Idle.Low), .t (tI t2.Idle.High)])]⟩) (TieO.split 29 rfl ?_ ?_) fun b2 _ => ?_
      · refine TieO.run 4 rfl ?_
        refine TieO.nil ?_
        exact TieS.leaf ⟨rfl, .of rfl rfl⟩
      · refine TieO.run 1 rfl ?_
        refine TieO.call _ rfl rfl rfl (tie_magnetoref39_Requests l) (fun _ => rfl) fun v3 => ?_
        refine TieO.run 2 rfl ?_
        refine TieO.nil ?_
        exact TieS.leaf ⟨rfl, .of rfl rfl⟩
      refine TieO.run 1 rfl ?_
      refine TieO.nil ?_
      refine TieS.cond rfl ?_ ?_
      · refine TieS.seq ?_
        refine TieS.region ?_
        refine TieO.run 3 rfl ?_
        refine TieO.selAnd (v := (r2.1 == 0)) 3 36 (fun b => ⟨[(39, .t (tB b))], []⟩) rfl ?_ ?_ ?_
        · refine TieO.run 3 rfl ?_
          refine TieO.nil ?_
          exact TieS.leaf ⟨rfl, .of rfl rfl⟩
        · refine TieO.run 3 rfl ?_
          refine TieO.nil ?_
          exact TieS.leaf ⟨rfl, .of rfl rfl⟩
        refine TieO.run 1 rfl ?_
        refine TieO.nil ?_
        exact TieS.ret ⟨.inl rfl, rfl⟩
      · refine TieS.seq ?_
        refine TieS.region ?_
        refine TieO.run 4 rfl ?_
        refine TieO.nil ?_
        refine TieS.cond rfl ?_ ?_
        · refine TieS.seq ?_
          refine TieS.region ?_
          refine TieO.run 3 rfl ?_
          refine TieO.selAnd (v := (r2.1 == 0)) 3 46 (fun b => ⟨[(49, .t (tB b))], []⟩) rfl ?_ ?_ ?_
          · refine TieO.run 3 rfl ?_
            refine TieO.nil ?_
            exact TieS.leaf ⟨rfl, .of rfl rfl⟩
          · refine TieO.run 3 rfl ?_
            refine TieO.nil ?_
            exact TieS.leaf ⟨rfl, .of rfl rfl⟩
          refine TieO.run 1 rfl ?_
          refine TieO.nil ?_
          exact TieS.ret ⟨.inl rfl, rfl⟩
        · refine TieS.seq ?_
          refine TieS.region ?_
          refine TieO.run 1 rfl ?_
          refine TieO.call _ rfl rfl rfl (tie_magnetoref39_In value 0 1000) (fun _ => rfl) fun v4 => ?_
          refine TieO.run 2 rfl ?_
          refine TieO.bind 4 (fun b3 => ⟨[(1, .t (tI value)), (2, .t (tI speed)), (3, .t (tS enc_SRequest l)), (4, .ptr 4 0), (9, .t (tI r2.1)), (10, .t (tI r2.2)), (58, .t (tB b3))], [(4, .box [.t (tS encI t2.Air.X), .t (tS encI t2.Air.Y), .t (tS (encS encI) t2.Air.Z), .t (tS encI t2.Spark.X), .t (tS encI t2.Spark.Y), .t (tS (encS encI) t2.Spark.Z), .t (tS encI t2.Torque.X), .t (tS encI t2.Torque.Y), .t (tS (encS encI) t2.Torque.Z), .t (tS encI t2.Wish.X), .t (tS encI t2.Wish.Y), .t (tS (encS encI) t2.Wish.Z), .t (tS encI t2.AirTemp.X), .t (tS encI t2.AirTemp.Y), .t (tS encI t2.Dwell.X), .t (tS encI t2.Dwell.Y), .t (tS encI t2.Dead.X), .t (tS encI t2.Dead.Y), .t (tS encI t2.Efficiency.X), .t (tS encI t2.Efficiency.Y), .t (tI t2.Idle.P), .t (tI t2.Idle.I), .t (tI t2.Idle.Low), .t (tI t2.Idle.High)])]⟩) (TieO.split 54 rfl ?_ ?_) fun b3 _ => ?_
          · refine TieO.run 4 rfl ?_
            refine TieO.nil ?_
            exact TieS.leaf ⟨rfl, .of rfl rfl⟩
          · refine TieO.run 1 rfl ?_
            refine TieO.call _ rfl rfl rfl (tie_magnetoref39_In speed 0 12000) (fun _ => rfl) fun v5 => ?_
            refine TieO.run 2 rfl ?_
            refine TieO.nil ?_
            exact TieS.leaf ⟨rfl, .of rfl rfl⟩
          refine TieO.run 1 rfl ?_
          refine TieO.nil ?_
          refine TieS.cond rfl ?_ ?_
          · refine TieS.seq ?_
            refine TieS.region ?_
            refine TieO.run 3 rfl ?_
            refine TieO.selAnd (v := (r2.1 == 0)) 3 61 (fun b => ⟨[(64, .t (tB b))], []⟩) rfl ?_ ?_ ?_
            · refine TieO.run 3 rfl ?_
              refine TieO.nil ?_
              exact TieS.leaf ⟨rfl, .of rfl rfl⟩
            · refine TieO.run 3 rfl ?_
              refine TieO.nil ?_
              exact TieS.leaf ⟨rfl, .of rfl rfl⟩
            refine TieO.run 1 rfl ?_
            refine TieO.nil ?_
            exact TieS.ret ⟨.inl rfl, rfl⟩
          · refine TieS.skip ?_
            refine TieS.endb ?_
            refine TieS.seq ?_
            refine TieS.region ?_
            refine TieO.run 3 rfl ?_
            refine TieO.bind 8 (fun b4 => ⟨[(75, .t (tB b4))], []⟩) (TieO.split 67 rfl ?_ ?_) fun b4 _ => ?_
            · refine TieO.run 5 rfl ?_
              refine TieO.call _ rfl rfl rfl (tie_magnetoref39_Permitted t2 value speed l) (fun _ => rfl) fun v6 => ?_
              refine TieO.run 2 rfl ?_
              refine TieO.nil ?_
              exact TieS.leaf ⟨rfl, .of rfl rfl⟩
            · refine TieO.run 8 rfl ?_
              refine TieO.nil ?_
              exact TieS.leaf ⟨rfl, .of rfl rfl⟩
            refine TieO.run 1 rfl ?_
            refine TieO.nil ?_
            exact TieS.ret ⟨.inl rfl, rfl⟩
-- magneto/monitor.Valid
set_option maxRecDepth 100000 in
theorem tie_monitor_Valid (g : SGuard) : TieF Try.prog 21 [A_SGuard g] (monitor_Valid g) (fun r => .t (tB r)) := by
  refine TieF.intro htab 30 [.tmp 2] Try.call21 Try.func21 rfl rfl rfl (Nat.le_of_ble_eq_true rfl) fun w0 L => ?_
  refine TieS.seq ?_
  refine TieS.region ?_
  refine TieO.run 2 rfl ?_
  refine TieO.nil ?_
  refine TieS.seq ?_
  refine TieS.region ?_
  refine TieO.run 2 rfl ?_
  refine TieO.call _ rfl rfl rfl (tie_monitor_within g.Over 0 5) (fun _ => rfl) fun v => ?_
  refine TieO.run 1 rfl ?_
  refine TieO.bind 4 (fun b2 => ⟨[(1, .ptr 1 0), (10, .t (tB b2))], [(1, .box [.t (tI g.Over), .t (tI g.Calm), .t (tB g.Off)])]⟩) (TieO.split 6 rfl ?_ ?_) fun b2 _ => ?_
  · refine TieO.run 2 rfl ?_
    refine TieO.call _ rfl rfl rfl (tie_monitor_within g.Calm 0 1000) (fun _ => rfl) fun v2 => ?_
    refine TieO.run 1 rfl ?_
    refine TieO.nil ?_
    exact TieS.leaf ⟨rfl, .of rfl rfl⟩
  · refine TieO.run 4 rfl ?_
    refine TieO.nil ?_
    exact TieS.leaf ⟨rfl, .of rfl rfl⟩
  refine TieO.run 1 rfl ?_
  refine TieO.bind 9 (fun b3 => ⟨[(1, .ptr 1 0), (20, .t (tB b3))], [(1, .box [.t (tI g.Over), .t (tI g.Calm), .t (tB g.Off)])]⟩) (TieO.split 11 rfl ?_ ?_) fun b3 _ => ?_
  · refine TieO.run 4 rfl ?_
    refine TieO.selOr (v := (g.Calm == 0)) 4 15 (fun b => ⟨[(1, .ptr 1 0), (11, .t (tB true)), (19, .t (tB b))], [(1, .box [.t (tI g.Over), .t (tI g.Calm), .t (tB g.Off)])]⟩) rfl ?_ ?_ ?_
    · refine TieO.run 4 rfl ?_
      refine TieO.nil ?_
      exact TieS.leaf ⟨rfl, .of rfl rfl⟩
    · refine TieO.run 4 rfl ?_
      refine TieO.nil ?_
      exact TieS.leaf ⟨rfl, .of rfl rfl⟩
    refine TieO.run 1 rfl ?_
    refine TieO.nil ?_
    exact TieS.leaf ⟨rfl, .of rfl rfl⟩
  · refine TieO.run 9 rfl ?_
    refine TieO.nil ?_
    exact TieS.leaf ⟨rfl, .of rfl rfl⟩
  refine TieO.run 1 rfl ?_
  refine TieO.bind 8 (fun b4 => ⟨[(29, .t (tB b4))], []⟩) (TieO.split 21 rfl ?_ ?_) fun b4 _ => ?_
  · refine TieO.run 3 rfl ?_
    refine TieO.selOr (v := decide (g.Over < 5)) 4 24 (fun b => ⟨[(21, .t (tB true)), (28, .t (tB b))], []⟩) rfl ?_ ?_ ?_
    · refine TieO.run 4 rfl ?_
      refine TieO.nil ?_
      exact TieS.leaf ⟨rfl, .of rfl rfl⟩
    · refine TieO.run 4 rfl ?_
      refine TieO.nil ?_
      exact TieS.leaf ⟨rfl, .of rfl rfl⟩
    refine TieO.run 1 rfl ?_
    refine TieO.nil ?_
    exact TieS.leaf ⟨rfl, .of rfl rfl⟩
  · refine TieO.run 8 rfl ?_
    refine TieO.nil ?_
    exact TieS.leaf ⟨rfl, .of rfl rfl⟩
  refine TieO.run 1 rfl ?_
  refine TieO.nil ?_
  exact TieS.ret ⟨.inl rfl, rfl⟩
-- magneto/monitor.Step$1
set_option maxRecDepth 100000 in
theorem tie_monitor_Step_1 (t2 : Int) : TieF Try.prog 48 [.t (tI t2)] (monitor_Step_1 t2) (fun r => .t (tB r)) := by
  refine TieF.intro htab 5 [.tmp 2] Try.call48 Try.func48 rfl rfl rfl (Nat.le_of_ble_eq_true rfl) fun w0 L => ?_
  refine TieS.seq ?_
  refine TieS.region ?_
  refine TieO.run 1 rfl ?_
  refine TieO.nil ?_
  refine TieS.seq ?_
  refine TieS.region ?_
  refine TieO.run 1 rfl ?_
  refine TieO.call _ rfl rfl rfl (tie_monitor_within t2 (-20000) 20000) (fun _ => rfl) fun v => ?_
  refine TieO.run 1 rfl ?_
  refine TieO.nil ?_
  exact TieS.ret ⟨.inl rfl, rfl⟩
-- magneto/monitor.Step
set_option maxRecDepth 100000 in
theorem tie_monitor_Step (g : SGuard) (permitted : Int) (actual : Int) : TieF Try.prog 20 [A_SGuard g, .t (tI permitted), .t (tI actual)] (monitor_Step g permitted actual) (fun r => .tup [A_SGuard r.1, .t (tI r.2)]) := by
  refine TieF.intro htab 49 [.cell 6 49, .tmp 7] Try.call20 Try.func20 rfl rfl rfl (Nat.le_of_ble_eq_true rfl) fun w0 L => ?_
  refine TieS.seq ?_
  refine TieS.region ?_
  refine TieO.run 3 rfl ?_
  refine TieO.nil ?_
  refine TieS.seq ?_
  refine TieS.region ?_
  refine TieO.run 1 rfl ?_
  refine TieO.nil ?_
  refine TieS.seq ?_
  refine TieS.block ?_
  refine TieS.seq ?_
  refine TieS.region ?_
  refine TieO.run 1 rfl ?_
  refine TieO.call _ rfl rfl rfl (tie_monitor_Valid g) (fun _ => rfl) fun v => ?_
  refine TieO.run 2 rfl ?_
  refine TieO.nil ?_
  refine TieS.cond rfl ?_ ?_
  · refine TieS.seq ?_
    refine TieS.region ?_
    refine TieO.run 3 rfl ?_
    refine TieO.nil ?_
    exact TieS.ret ⟨.inl rfl, rfl⟩
  · refine TieS.seq ?_
    refine TieS.region ?_
    refine TieO.run 2 rfl ?_
    refine TieO.call _ rfl rfl rfl (tie_monitor_Step_1 permitted) (fun _ => rfl) fun v2 => ?_
    refine TieO.run 2 rfl ?_
    refine TieO.bind 5 (fun b2 => ⟨[(1, .t (tI permitted)), (2, .t (tI actual)), (3, .ptr 3 0), (6, .ptr 6 0), (25, .t (tB b2))], [(3, .box [.t (tI g.Over), .t (tI g.Calm), .t (tB g.Off)]), (6, .box [.t (tI 0), .t (tI 0), .t (tB false)])]⟩) (TieO.split 20 rfl ?_ ?_) fun b2 _ => ?_
    · refine TieO.run 5 rfl ?_
      refine TieO.nil ?_
      exact TieS.leaf ⟨rfl, .of rfl rfl⟩
    · refine TieO.run 2 rfl ?_
      refine TieO.call _ rfl rfl rfl (tie_monitor_Step_1 actual) (fun _ => rfl) fun v3 => ?_
      refine TieO.run 2 rfl ?_
      refine TieO.nil ?_
      exact TieS.leaf ⟨rfl, .of rfl rfl⟩
    refine TieO.run 1 rfl ?_
    refine TieO.nil ?_
    refine TieS.cond rfl ?_ ?_
    · refine TieS.seq ?_
      refine TieS.region ?_
      refine TieO.run 3 rfl ?_
      refine TieO.nil ?_
      exact TieS.ret ⟨.inl rfl, rfl⟩
    · refine TieS.skip ?_
      refine TieS.endb ?_
      refine TieS.seq ?_
      refine TieS.seq ?_
      refine TieS.region ?_
      refine TieO.run 3 rfl ?_
      refine TieO.nil ?_
      refine TieS.cond rfl ?_ ?_
      · refine TieS.seq ?_
        refine TieS.region ?_
        refine TieO.run 5 rfl ?_
        refine TieO.nil ?_
        refine TieS.seq ?_
        refine TieS.region ?_
        refine TieO.run 4 rfl ?_
        refine TieO.selOr (v := ((minI 5 (w64 (g.Over + 1))) == 5)) 3 37 (fun b => ⟨[(6, .ptr 6 0), (34, .t (tI (minI 5 (w64 (g.Over + 1))))), (40, .t (tB b))], [(6, .box [.t (tI 0), .t (tI 0), .t (tB false)])]⟩) rfl ?_ ?_ ?_
        · refine TieO.run 3 rfl ?_
          refine TieO.nil ?_
          exact TieS.leaf ⟨rfl, .of rfl rfl⟩
        · refine TieO.run 3 rfl ?_
          refine TieO.nil ?_
          exact TieS.leaf ⟨rfl, .of rfl rfl⟩
        refine TieO.run 3 rfl ?_
        refine TieO.nil ?_
        exact TieS.ret ⟨.inl rfl, rfl⟩
      · refine TieS.skip ?_
        refine TieS.seq ?_
        refine TieS.region ?_
        refine TieO.run 9 rfl ?_
        refine TieO.nil ?_
        exact TieS.ret ⟨.inl rfl, rfl⟩
-- magneto/magnetoref39.Valid
set_option maxRecDepth 100000 in
theorem tie_magnetoref39_Valid (g : SGuard) : TieF Try.prog 22 [A_SGuard g] (magnetoref39_Valid g) (fun r => .t (tB r)) := by
  refine TieF.intro htab 30 [.tmp 2] Try.call22 Try.func22 rfl rfl rfl (Nat.le_of_ble_eq_true rfl) fun w0 L => ?_
  refine TieS.seq ?_
  refine TieS.region ?_
  refine TieO.run 2 rfl ?_
  refine TieO.nil ?_
  refine TieS.seq ?_
  refine TieS.region ?_
  refine TieO.run 2 rfl ?_
  refine TieO.call _ rfl rfl rfl (tie_magnetoref39_In g.Over 0 5) (fun _ => rfl) fun v => ?_
  refine TieO.run 1 rfl ?_
  refine TieO.bind 4 (fun b2 => ⟨[(1, .ptr 1 0), (10, .t (tB b2))], [(1, .box [.t (tI g.Over), .t (tI g.Calm), .t (tB g.Off)])]⟩) (TieO.split 6 rfl ?_ ?_) fun b2 _ => ?_
  · refine TieO.run 2 rfl ?_
    refine TieO.call _ rfl rfl rfl (tie_magnetoref39_In g.Calm 0 1000) (fun _ => rfl) fun v2 => ?_
    refine TieO.run 1 rfl ?_
    refine TieO.nil ?_
    exact TieS.leaf ⟨rfl, .of rfl rfl⟩
  · refine TieO.run 4 rfl ?_
    refine TieO.nil ?_
    exact TieS.leaf ⟨rfl, .of rfl rfl⟩
  refine TieO.run 1 rfl ?_
  refine TieO.bind 9 (fun b3 => ⟨[(1, .ptr 1 0), (20, .t (tB b3))], [(1, .box [.t (tI g.Over), .t (tI g.Calm), .t (tB g.Off)])]⟩) (TieO.split 11 rfl ?_ ?_) fun b3 _ => ?_
  · refine TieO.run 4 rfl ?_
    refine TieO.selOr (v := (g.Calm == 0)) 4 15 (fun b => ⟨[(1, .ptr 1 0), (11, .t (tB true)), (19, .t (tB b))], [(1, .box [.t (tI g.Over), .t (tI g.Calm), .t (tB g.Off)])]⟩) rfl ?_ ?_ ?_
    · refine TieO.run 4 rfl ?_
      refine TieO.nil ?_
      exact TieS.leaf ⟨rfl, .of rfl rfl⟩
    · refine TieO.run 4 rfl ?_
      refine TieO.nil ?_
      exact TieS.leaf ⟨rfl, .of rfl rfl⟩
    refine TieO.run 1 rfl ?_
    refine TieO.nil ?_
    exact TieS.leaf ⟨rfl, .of rfl rfl⟩
  · refine TieO.run 9 rfl ?_
    refine TieO.nil ?_
    exact TieS.leaf ⟨rfl, .of rfl rfl⟩
  refine TieO.run 1 rfl ?_
  refine TieO.bind 8 (fun b4 => ⟨[(29, .t (tB b4))], []⟩) (TieO.split 21 rfl ?_ ?_) fun b4 _ => ?_
  · refine TieO.run 4 rfl ?_
    refine TieO.selOr (v := g.Off) 3 25 (fun b => ⟨[(21, .t (tB true)), (28, .t (tB b))], []⟩) rfl ?_ ?_ ?_
    · refine TieO.run 3 rfl ?_
      refine TieO.nil ?_
      exact TieS.leaf ⟨rfl, .of rfl rfl⟩
    · refine TieO.run 3 rfl ?_
      refine TieO.nil ?_
      exact TieS.leaf ⟨rfl, .of rfl rfl⟩
    refine TieO.run 1 rfl ?_
    refine TieO.nil ?_
    exact TieS.leaf ⟨rfl, .of rfl rfl⟩
  · refine TieO.run 8 rfl ?_
    refine TieO.nil ?_
    exact TieS.leaf ⟨rfl, .of rfl rfl⟩
  refine TieO.run 1 rfl ?_
  refine TieO.nil ?_
  exact TieS.ret ⟨.inl rfl, rfl⟩
-- magneto/magnetoref39.Torque
set_option maxRecDepth 100000 in
theorem tie_magnetoref39_Torque (n2 : Int) : TieF Try.prog 23 [.t (tI n2)] (magnetoref39_Torque n2) (fun r => .t (tB r)) := by
  refine TieF.intro htab 5 [.tmp 2] Try.call23 Try.func23 rfl rfl rfl (Nat.le_of_ble_eq_true rfl) fun w0 L => ?_
  refine TieS.seq ?_
  refine TieS.region ?_
  refine TieO.run 1 rfl ?_
  refine TieO.nil ?_
  refine TieS.seq ?_
  refine TieS.region ?_
  refine TieO.run 1 rfl ?_
  refine TieO.call _ rfl rfl rfl (tie_magnetoref39_In n2 (-20000) 20000) (fun _ => rfl) fun v => ?_
  refine TieO.run 1 rfl ?_
  refine TieO.nil ?_
  exact TieS.ret ⟨.inl rfl, rfl⟩
-- magneto/magnetoref39.Step
set_option maxRecDepth 100000 in
theorem tie_magnetoref39_Step (g : SGuard) (permitted : Int) (actual : Int) : TieF Try.prog 24 [A_SGuard g, .t (tI permitted), .t (tI actual)] (magnetoref39_Step g permitted actual) (fun r => A_SGuard r) := by
  refine TieF.intro htab 34 [.cell 6 49] Try.call24 Try.func24 rfl rfl rfl (Nat.le_of_ble_eq_true rfl) fun w0 L => ?_
  refine TieS.seq ?_
  refine TieS.region ?_
  refine TieO.run 2 rfl ?_
  refine TieO.nil ?_
  refine TieS.seq ?_
  refine TieS.seq ?_
  refine TieS.region ?_
  refine TieO.run 3 rfl ?_
  refine TieO.nil ?_
  refine TieS.cond rfl ?_ ?_
  · refine TieS.seq ?_
    refine TieS.region ?_
    refine TieO.run 4 rfl ?_
    refine TieO.nil ?_
    refine TieS.seq ?_
    refine TieS.seq ?_
    refine TieS.region ?_
    refine TieO.run 2 rfl ?_
    refine TieO.nil ?_
    refine TieS.bind (Q₁ := fun t e σ' => e = .normal ∧ Sub ⟨[(3, .ptr 3 0), (6, .ptr 6 0), (7, .t (tI t))], [(3, .box [.t (tI g.Over), .t (tI g.Calm), .t (tB g.Off)]), (6, .box [.t (tI 0), .t (tI 0), .t (tB false)])]⟩ σ') ?_ ?_
    · refine TieS.cond rfl ?_ ?_
      · refine TieS.region ?_
        refine TieO.run 1 rfl ?_
        refine TieO.nil ?_
        exact TieS.leaf ⟨rfl, .of rfl rfl⟩
      · refine TieS.skip ?_
        exact TieS.leaf ⟨rfl, .of rfl rfl⟩
    rintro over e σ' _ ⟨rfl, hs⟩
    refine TieX.sub hs ?_
    refine TieS.seq ?_
    refine TieS.region ?_
    refine TieO.run 4 rfl ?_
    refine TieO.selOr (v := (over == 5)) 3 20 (fun b => ⟨[(6, .ptr 6 0), (17, .t (tI over)), (23, .t (tB b))], [(6, .box [.t (tI 0), .t (tI 0), .t (tB false)])]⟩) rfl ?_ ?_ ?_
    · refine TieO.run 3 rfl ?_
      refine TieO.nil ?_
      exact TieS.leaf ⟨rfl, .of rfl rfl⟩
    · refine TieO.run 3 rfl ?_
      refine TieO.nil ?_
      exact TieS.leaf ⟨rfl, .of rfl rfl⟩
    refine TieO.run 2 rfl ?_
    refine TieO.nil ?_
    exact TieS.ret ⟨.inl rfl, rfl⟩
  · refine TieS.skip ?_
    refine TieS.seq ?_
    refine TieS.region ?_
    refine TieO.run 4 rfl ?_
    refine TieO.nil ?_
    refine TieS.seq ?_
    refine TieS.seq ?_
    refine TieS.region ?_
    refine TieO.run 2 rfl ?_
    refine TieO.nil ?_
    refine TieS.cond rfl ?_ ?_
    · refine TieS.region ?_
      refine TieO.run 1 rfl ?_
      refine TieO.nil ?_
      refine TieS.seq ?_
      refine TieS.region ?_
      refine TieO.run 5 rfl ?_
      refine TieO.nil ?_
      exact TieS.ret ⟨.inl rfl, rfl⟩
    · refine TieS.skip ?_
      refine TieS.seq ?_
      refine TieS.region ?_
      refine TieO.run 5 rfl ?_
      refine TieO.nil ?_
      exact TieS.ret ⟨.inl rfl, rfl⟩
-- magneto/magnetolaw39.MonitorSteps
set_option maxRecDepth 100000 in
theorem tie_magnetolaw39_MonitorSteps (g : SGuard) (permitted : Int) (actual : Int) : TieF Try.prog 5 [A_SGuard g, .t (tI permitted), .t (tI actual)] (magnetolaw39_MonitorSteps g permitted actual) (fun r => .t (tB r)) := by
  refine TieF.intro htab 64 [.tmp 6] Try.call5 Try.func5 rfl rfl rfl (Nat.le_of_ble_eq_true rfl) fun w0 L => ?_
  refine TieS.seq ?_
  refine TieS.region ?_
  refine TieO.run 2 rfl ?_
  refine TieO.nil ?_
  refine TieS.seq ?_
  refine TieS.seq ?_
  refine TieS.region ?_
  refine TieO.call _ rfl rfl rfl (tie_magnetolaw39_awake) (fun _ => rfl) fun v => ?_
  refine TieO.run 1 rfl ?_
  refine TieO.nil ?_
  refine TieS.cond rfl ?_ ?_
  · refine TieS.seq ?_
    refine TieS.region ?_
    refine TieO.run 1 rfl ?_
    refine TieO.nil ?_
    exact TieS.ret ⟨.inl rfl, rfl⟩
  · refine TieS.skip ?_
    refine TieS.seq ?_
    refine TieS.region ?_
    refine TieO.run 3 rfl ?_
    refine TieO.call _ rfl rfl rfl (tie_monitor_Step g permitted actual) (fun _ => rfl) fun r2 => ?_
    refine TieO.run 6 rfl ?_
    refine TieO.nil ?_
    refine TieS.seq ?_
    refine TieS.seq ?_
    refine TieX.pre fun v2 hv2 => ?_
    refine TieX.pre fun v3 hv3 => ?_
    refine TieS.draw 5 [.agg [.t (tI g.Over), .t (tI g.Calm), .t (tB g.Off)], .t (tB v2), .agg [.t (tI g.Over), .t (tI g.Calm), .t (tB g.Off)], .t (tB v3), .t (tB (!(v2 == v3)))] [(1, .t (tI permitted)), (2, .t (tI actual)), (3, .ptr 3 0), (7, .ptr 7 0), (8, .t (tI r2.2))] [(3, .box [.t (tI g.Over), .t (tI g.Calm), .t (tB g.Off)]), (7, .box [.t (tI r2.1.Over), .t (tI r2.1.Calm), .t (tB r2.1.Off)])] mixed (.of rfl rfl) rfl rfl rfl rfl (.cons (.quiet rfl rfl rfl) (.cons (.callV (tie_monitor_Valid g) hv2 rfl rfl rfl rfl) (.cons (.quiet rfl rfl rfl) (.cons (.callV (tie_magnetoref39_Valid g) hv3 rfl rfl rfl rfl) (.cons (.quiet rfl rfl rfl) (.nil)))))) ?_
    refine TieO.nil ?_
    refine TieS.cond rfl ?_ ?_
    · refine TieS.seq ?_
      refine TieS.region ?_
      refine TieO.run 1 rfl ?_
      refine TieO.nil ?_
      exact TieS.ret ⟨.inl rfl, rfl⟩
    · refine TieS.skip ?_
      refine TieS.seq ?_
      refine TieS.block ?_
      refine TieS.seq ?_
      refine TieS.region ?_
      refine TieO.run 1 rfl ?_
      refine TieO.call _ rfl rfl rfl (tie_magnetoref39_Valid g) (fun _ => rfl) fun v4 => ?_
      refine TieO.run 2 rfl ?_
      refine TieO.nil ?_
      refine TieS.cond rfl ?_ ?_
      · refine TieS.seq ?_
        refine TieS.region ?_
        refine TieO.run 3 rfl ?_
        refine TieO.bind 4 (fun b2 => ⟨[(33, .t (tB b2))], []⟩) (TieO.split 29 rfl ?_ ?_) fun b2 _ => ?_
        · refine TieO.run 2 rfl ?_
          refine TieO.eqS [.int .i64 r2.1.Over, .int .i64 r2.1.Calm, .bool r2.1.Off] [.int .i64 0, .int .i64 0, .bool false] (eqv_49 r2.1.Over r2.1.Calm r2.1.Off 0 0 false) rfl rfl rfl rfl rfl rfl ?_
          refine TieO.run 1 rfl ?_
          refine TieO.nil ?_
          exact TieS.leaf ⟨rfl, .of rfl rfl⟩
        · refine TieO.run 4 rfl ?_
          refine TieO.nil ?_
          exact TieS.leaf ⟨rfl, .of rfl rfl⟩
        refine TieO.run 1 rfl ?_
        refine TieO.nil ?_
        exact TieS.ret ⟨.inl rfl, rfl⟩
      · refine TieS.seq ?_
        refine TieS.region ?_
        refine TieO.run 1 rfl ?_
        refine TieO.call _ rfl rfl rfl (tie_magnetoref39_Torque permitted) (fun _ => rfl) fun v5 => ?_
        refine TieO.run 2 rfl ?_
        refine TieO.bind 4 (fun b3 => ⟨[(1, .t (tI permitted)), (2, .t (tI actual)), (3, .ptr 3 0), (7, .ptr 7 0), (8, .t (tI r2.2)), (42, .t (tB b3))], [(3, .box [.t (tI g.Over), .t (tI g.Calm), .t (tB g.Off)]), (7, .box [.t (tI r2.1.Over), .t (tI r2.1.Calm), .t (tB r2.1.Off)])]⟩) (TieO.split 38 rfl ?_ ?_) fun b3 _ => ?_
        · refine TieO.run 4 rfl ?_
          refine TieO.nil ?_
          exact TieS.leaf ⟨rfl, .of rfl rfl⟩
        · refine TieO.run 1 rfl ?_
          refine TieO.call _ rfl rfl rfl (tie_magnetoref39_Torque actual) (fun _ => rfl) fun v6 => ?_
          refine TieO.run 2 rfl ?_
          refine TieO.nil ?_
          exact TieS.leaf ⟨rfl, .of rfl rfl⟩
        refine TieO.run 1 rfl ?_
        refine TieO.nil ?_
        refine TieS.cond rfl ?_ ?_
        · refine TieS.seq ?_
          refine TieS.region ?_
          refine TieO.run 3 rfl ?_
          refine TieO.bind 4 (fun b4 => ⟨[(49, .t (tB b4))], []⟩) (TieO.split 45 rfl ?_ ?_) fun b4 _ => ?_
          · refine TieO.run 2 rfl ?_
            refine TieO.eqS [.int .i64 r2.1.Over, .int .i64 r2.1.Calm, .bool r2.1.Off] [.int .i64 0, .int .i64 0, .bool false] (eqv_49 r2.1.Over r2.1.Calm r2.1.Off 0 0 false) rfl rfl rfl rfl rfl rfl ?_
            refine TieO.run 1 rfl ?_
            refine TieO.nil ?_
            exact TieS.leaf ⟨rfl, .of rfl rfl⟩
          · refine TieO.run 4 rfl ?_
            refine TieO.nil ?_
            exact TieS.leaf ⟨rfl, .of rfl rfl⟩
          refine TieO.run 1 rfl ?_
          refine TieO.nil ?_
          exact TieS.ret ⟨.inl rfl, rfl⟩
        · refine TieS.skip ?_
          refine TieS.endb ?_
          refine TieS.seq ?_
          refine TieX.split (fun hg => ?_) (fun hg4 => ?_)
          · refine TieX.pre fun v7 hv7 => ?_
            refine TieX.split (fun hg2 => ?_) (fun hg3 => ?_)
            · refine TieX.pre fun v8 hv8 => ?_
              refine TieS.draw 15 [.t (tI r2.2), .t (tB (r2.2 == 0)), .t (tB true), .agg [.t (tI r2.1.Over), .t (tI r2.1.Calm), .t (tB r2.1.Off)], .agg [.t (tI g.Over), .t (tI g.Calm), .t (tB g.Off)], .t (tI permitted), .t (tI actual), .agg [.t (tI v7.Over), .t (tI v7.Calm), .t (tB v7.Off)], .t (tB ((r2.1.Over == v7.Over) && ((r2.1.Calm == v7.Calm) && ((r2.1.Off == v7.Off) && true)))), .t (tB ((r2.1.Over == v7.Over) && ((r2.1.Calm == v7.Calm) && ((r2.1.Off == v7.Off) && true)))), .t (tB true), .agg [.t (tI r2.1.Over), .t (tI r2.1.Calm), .t (tB r2.1.Off)], .t (tB v8), .t (tB v8), .t (tB v8)] [(1, .t (tI permitted)), (2, .t (tI actual)), (3, .ptr 3 0), (7, .ptr 7 0), (8, .t (tI r2.2))] [(3, .box [.t (tI g.Over), .t (tI g.Calm), .t (tB g.Off)]), (7, .box [.t (tI r2.1.Over), .t (tI r2.1.Calm), .t (tB r2.1.Off)])] mixed (.of rfl rfl) rfl rfl rfl rfl (.cons (.quiet rfl rfl rfl) (.cons (.quiet rfl rfl rfl) (.cons (.cast (congrArg T.B hg) (.quiet rfl rfl rfl)) (.cons (.quiet rfl rfl rfl) (.cons (.quiet rfl rfl rfl) (.cons (.quiet rfl rfl rfl) (.cons (.quiet rfl rfl rfl) (.cons (.callV (tie_magnetoref39_Step g permitted actual) hv7 rfl rfl rfl rfl) (.cons (.eqS [.int .i64 r2.1.Over, .int .i64 r2.1.Calm, .bool r2.1.Off] [.int .i64 v7.Over, .int .i64 v7.Calm, .bool v7.Off] (eqv_49 r2.1.Over r2.1.Calm r2.1.Off v7.Over v7.Calm v7.Off) rfl rfl rfl rfl) (.cons (.quiet rfl rfl rfl) (.cons (.cast (congrArg T.B hg2) (.quiet rfl rfl rfl)) (.cons (.quiet rfl rfl rfl) (.cons (.callV (tie_monitor_Valid (⟨r2.1.Over, r2.1.Calm, r2.1.Off⟩ : SGuard)) hv8 rfl rfl rfl rfl) (.cons (.quiet rfl rfl rfl) (.cons (.quiet rfl rfl rfl) (.nil)))))))))))))))) ?_
              refine TieO.nil ?_
              exact TieS.ret ⟨.inl rfl, rfl⟩
            · refine TieS.draw 15 [.t (tI r2.2), .t (tB (r2.2 == 0)), .t (tB true), .agg [.t (tI r2.1.Over), .t (tI r2.1.Calm), .t (tB r2.1.Off)], .agg [.t (tI g.Over), .t (tI g.Calm), .t (tB g.Off)], .t (tI permitted), .t (tI actual), .agg [.t (tI v7.Over), .t (tI v7.Calm), .t (tB v7.Off)], .t (tB ((r2.1.Over == v7.Over) && ((r2.1.Calm == v7.Calm) && ((r2.1.Off == v7.Off) && true)))), .t (tB ((r2.1.Over == v7.Over) && ((r2.1.Calm == v7.Calm) && ((r2.1.Off == v7.Off) && true)))), .t (tB false), .t (.v undef), .t (.v undef), .t (tB false), .t (tB false)] [(1, .t (tI permitted)), (2, .t (tI actual)), (3, .ptr 3 0), (7, .ptr 7 0), (8, .t (tI r2.2))] [(3, .box [.t (tI g.Over), .t (tI g.Calm), .t (tB g.Off)]), (7, .box [.t (tI r2.1.Over), .t (tI r2.1.Calm), .t (tB r2.1.Off)])] mixed (.of rfl rfl) rfl rfl rfl rfl (.cons (.quiet rfl rfl rfl) (.cons (.quiet rfl rfl rfl) (.cons (.cast (congrArg T.B hg) (.quiet rfl rfl rfl)) (.cons (.quiet rfl rfl rfl) (.cons (.quiet rfl rfl rfl) (.cons (.quiet rfl rfl rfl) (.cons (.quiet rfl rfl rfl) (.cons (.callV (tie_magnetoref39_Step g permitted actual) hv7 rfl rfl rfl rfl) (.cons (.eqS [.int .i64 r2.1.Over, .int .i64 r2.1.Calm, .bool r2.1.Off] [.int .i64 v7.Over, .int .i64 v7.Calm, .bool v7.Off] (eqv_49 r2.1.Over r2.1.Calm r2.1.Off v7.Over v7.Calm v7.Off) rfl rfl rfl rfl) (.cons (.quiet rfl rfl rfl) (.cons (.cast (congrArg T.B hg3) (.quiet rfl rfl rfl)) (.cons (.skip rfl) (.cons (.skip rfl) (.cons (.quiet rfl rfl rfl) (.cons (.quiet rfl rfl rfl) (.nil)))))))))))))))) ?_
              refine TieO.nil ?_
              exact TieS.ret ⟨.inl rfl, rfl⟩
          · refine TieS.draw 15 [.t (tI r2.2), .t (tB (r2.2 == 0)), .t (tB false), .t (.v undef), .t (.v undef), .t (.v undef), .t (.v undef), .t (.v undef), .t (.v undef), .t (tB false), .t (tB false), .t (.v undef), .t (.v undef), .t (tB false), .t (tB false)] [(1, .t (tI permitted)), (2, .t (tI actual)), (3, .ptr 3 0), (7, .ptr 7 0), (8, .t (tI r2.2))] [(3, .box [.t (tI g.Over), .t (tI g.Calm), .t (tB g.Off)]), (7, .box [.t (tI r2.1.Over), .t (tI r2.1.Calm), .t (tB r2.1.Off)])] mixed (.of rfl rfl) rfl rfl rfl rfl (.cons (.quiet rfl rfl rfl) (.cons (.quiet rfl rfl rfl) (.cons (.cast (congrArg T.B hg4) (.quiet rfl rfl rfl)) (.cons (.skip rfl) (.cons (.skip rfl) (.cons (.skip rfl) (.cons (.skip rfl) (.cons (.skip rfl) (.cons (.skip rfl) (.cons (.quiet rfl rfl rfl) (.cons (.quiet rfl rfl rfl) (.cons (.skip rfl) (.cons (.skip rfl) (.cons (.quiet rfl rfl rfl) (.cons (.quiet rfl rfl rfl) (.nil)))))))))))))))) ?_
            refine TieO.nil ?_
            exact TieS.ret ⟨.inl rfl, rfl⟩
-- magneto/monitor.Actual
set_option maxRecDepth 100000 in
theorem tie_monitor_Actual (t2 : STables) (speed : Int) (charge : Int) (l : List SFire) : TieF Try.prog 25 [A_STables t2, .t (tI speed), .t (tI charge), .t (tS enc_SFire l)] (monitor_Actual t2 speed charge l) (fun r => .tup [.t (tI r.1), .t (tI r.2)]) := by
  refine TieF.intro htab 65 [.tmp 8, .tmp 9] Try.call25 Try.func25 rfl rfl rfl (Nat.le_of_ble_eq_true rfl) fun w0 L => ?_
  refine TieS.seq ?_
  refine TieS.region ?_
  refine TieO.run 3 rfl ?_
  refine TieO.nil ?_
  refine TieS.seq ?_
  refine TieS.block ?_
  refine TieS.seq ?_
  refine TieS.region ?_
  refine TieO.run 2 rfl ?_
  refine TieO.call _ rfl rfl rfl (tie_surface_Valid t2.Torque) (fun _ => rfl) fun v => ?_
  refine TieO.run 2 rfl ?_
  refine TieO.nil ?_
  refine TieS.cond rfl ?_ ?_
  · refine TieS.seq ?_
    refine TieS.region ?_
    refine TieO.run 2 rfl ?_
    refine TieO.nil ?_
    exact TieS.ret ⟨.inl rfl, rfl⟩
  · refine TieS.seq ?_
    refine TieS.region ?_
    refine TieO.run 4 rfl ?_
    refine TieO.nil ?_
    refine TieS.cond rfl ?_ ?_
    · refine TieS.seq ?_
      refine TieS.region ?_
      refine TieO.run 2 rfl ?_
      refine TieO.nil ?_
      exact TieS.ret ⟨.inl rfl, rfl⟩
    · refine TieS.seq ?_
      refine TieS.region ?_
      refine TieO.run 1 rfl ?_
      refine TieO.call _ rfl rfl rfl (tie_monitor_within speed 0 12000) (fun _ => rfl) fun v2 => ?_
      refine TieO.run 2 rfl ?_
      refine TieO.bind 4 (fun b2 => ⟨[(1, .t (tI speed)), (2, .t (tI charge)), (3, .t (tS enc_SFire l)), (4, .ptr 4 0), (31, .t (tB b2))], [(4, .box [.t (tS encI t2.Air.X), .t (tS encI t2.Air.Y), .t (tS (encS encI) t2.Air.Z), .t (tS encI t2.Spark.X), .t (tS encI t2.Spark.Y), .t (tS (encS encI) t2.Spark.Z), .t (tS encI t2.Torque.X), .t (tS encI t2.Torque.Y), .t (tS (encS encI) t2.Torque.Z), .t (tS encI t2.Wish.X), .t (tS encI t2.Wish.Y), .t (tS (encS encI) t2.Wish.Z), .t (tS encI t2.AirTemp.X), .t (tS encI t2.AirTemp.Y), .t (tS encI t2.Dwell.X), .t (tS encI t2.Dwell.Y), .t (tS encI t2.Dead.X), .t (tS encI t2.Dead.Y), .t (tS encI t2.Efficiency.X), .t (tS encI t2.Efficiency.Y), .t (tI t2.Idle.P), .t (tI t2.Idle.I), .t (tI t2.Idle.Low), .t (tI t2.Idle.High)])]⟩) (TieO.split 27 rfl ?_ ?_) fun b2 _ => ?_
      · refine TieO.run 4 rfl ?_
        refine TieO.nil ?_
        exact TieS.leaf ⟨rfl, .of rfl rfl⟩
      · refine TieO.run 1 rfl ?_
        refine TieO.call _ rfl rfl rfl (tie_monitor_within charge 0 1048576) (fun _ => rfl) fun v3 => ?_
        refine TieO.run 2 rfl ?_
        refine TieO.nil ?_
        exact TieS.leaf ⟨rfl, .of rfl rfl⟩
      refine TieO.run 1 rfl ?_
      refine TieO.nil ?_
      refine TieS.cond rfl ?_ ?_
      · refine TieS.seq ?_
        refine TieS.region ?_
        refine TieO.run 2 rfl ?_
        refine TieO.nil ?_
        exact TieS.ret ⟨.inl rfl, rfl⟩
      · refine TieS.seq ?_
        refine TieS.region ?_
        refine TieO.run 4 rfl ?_
        refine TieO.nil ?_
        refine TieS.cond rfl ?_ ?_
        · refine TieS.seq ?_
          refine TieS.region ?_
          refine TieO.run 2 rfl ?_
          refine TieO.nil ?_
          exact TieS.ret ⟨.inl rfl, rfl⟩
        · refine TieS.skip ?_
          refine TieS.endb ?_
          refine TieS.seq ?_
          refine TieS.region ?_
          refine TieO.run 1 rfl ?_
          refine TieO.nil ?_
          refine TieS.seq ?_
          refine TieS.seq ?_
          refine TieS.region ?_
          refine TieO.run 3 rfl ?_
          refine TieO.nil ?_
          refine TieS.block ?_
          refine TieS.loop (fun p => ⟨[(1, .t (tI speed)), (2, .t (tI charge)), (3, .t (tS enc_SFire l)), (4, .ptr 4 0), (10, .t (tI p.2)), (36, .t (tS enc_SFire l)), (37, .t (tI (l.length : Int))), (38, .t (tI p.1))], [(4, .box [.t (tS encI t2.Air.X), .t (tS encI t2.Air.Y), .t (tS (encS encI) t2.Air.Z), .t (tS encI t2.Spark.X), .t (tS encI t2.Spark.Y), .t (tS (encS encI) t2.Spark.Z), .t (tS encI t2.Torque.X), .t (tS encI t2.Torque.Y), .t (tS (encS encI) t2.Torque.Z), .t (tS encI t2.Wish.X), .t (tS encI t2.Wish.Y), .t (tS (encS encI) t2.Wish.Z), .t (tS encI t2.AirTemp.X), .t (tS encI t2.AirTemp.Y), .t (tS encI t2.Dwell.X), .t (tS encI t2.Dwell.Y), .t (tS encI t2.Dead.X), .t (tS encI t2.Dead.Y), .t (tS encI t2.Efficiency.X), .t (tS encI t2.Efficiency.Y), .t (tI t2.Idle.P), .t (tI t2.Idle.I), .t (tI t2.Idle.Low), .t (tI t2.Idle.High)])]⟩) (fun b e σ' => match b with | .inl t => e = .exit 1 ∧ Sub ⟨[(1, .t (tI speed)), (2, .t (tI charge)), (3, .t (tS enc_SFire l)), (4, .ptr 4 0), (10, .t (tI t))], [(4, .box [.t (tS encI t2.Air.X), .t (tS encI t2.Air.Y), .t (tS (encS encI) t2.Air.Z), .t (tS encI t2.Spark.X), .t (tS encI t2.Spark.Y), .t (tS (encS encI) t2.Spark.Z), .t (tS encI t2.Torque.X), .t (tS encI t2.Torque.Y), .t (tS (encS encI) t2.Torque.Z), .t (tS encI t2.Wish.X), .t (tS encI t2.Wish.Y), .t (tS (encS encI) t2.Wish.Z), .t (tS encI t2.AirTemp.X), .t (tS encI t2.AirTemp.Y), .t (tS encI t2.Dwell.X), .t (tS encI t2.Dwell.Y), .t (tS encI t2.Dead.X), .t (tS encI t2.Dead.Y), .t (tS encI t2.Efficiency.X), .t (tS encI t2.Efficiency.Y), .t (tI t2.Idle.P), .t (tI t2.Idle.I), .t (tI t2.Idle.Low), .t (tI t2.Idle.High)])]⟩ σ' | .inr r => False) (.of rfl rfl) ?_ ?_
          · rintro ⟨i, n2⟩
            refine TieS.seq ?_
            refine TieS.region ?_
            refine TieO.run 1 rfl ?_
            refine TieO.nil ?_
            refine TieS.seq ?_
            refine TieS.cond rfl ?_ ?_
            · refine TieS.skip ?_
              refine TieS.seq ?_
              refine TieX.pre fun x hx => ?_
              refine TieX.sub (σ' := ⟨[(1, .t (tI speed)), (2, .t (tI charge)), (3, .t (tS enc_SFire l)), (4, .ptr 4 0), (10, .t (tI n2)), (36, .t (tS enc_SFire l)), (37, .t (tI (l.length : Int))), (38, .t (tI i))], [(4, .box [.t (tS encI t2.Air.X), .t (tS encI t2.Air.Y), .t (tS (encS encI) t2.Air.Z), .t (tS encI t2.Spark.X), .t (tS encI t2.Spark.Y), .t (tS (encS encI) t2.Spark.Z), .t (tS encI t2.Torque.X), .t (tS encI t2.Torque.Y), .t (tS (encS encI) t2.Torque.Z), .t (tS encI t2.Wish.X), .t (tS encI t2.Wish.Y), .t (tS (encS encI) t2.Wish.Z), .t (tS encI t2.AirTemp.X), .t (tS encI t2.AirTemp.Y), .t (tS encI t2.Dwell.X), .t (tS encI t2.Dwell.Y), .t (tS encI t2.Dead.X), .t (tS encI t2.Dead.Y), .t (tS encI t2.Efficiency.X), .t (tS encI t2.Efficiency.Y), .t (tI t2.Idle.P), .t (tI t2.Idle.I), .t (tI t2.Idle.Low), .t (tI t2.Idle.High)])]⟩) (.of rfl rfl) ?_
              refine TieS.bind (Q₁ := fun f e σ' => match f with | .next t => e = .normal ∧ Sub ⟨[(1, .t (tI speed)), (2, .t (tI charge)), (3, .t (tS enc_SFire l)), (4, .ptr 4 0), (10, .t (tI t)), (36, .t (tS enc_SFire l)), (37, .t (tI (l.length : Int))), (38, .t (tI i))], [(4, .box [.t (tS encI t2.Air.X), .t (tS encI t2.Air.Y), .t (tS (encS encI) t2.Air.Z), .t (tS encI t2.Spark.X), .t (tS encI t2.Spark.Y), .t (tS (encS encI) t2.Spark.Z), .t (tS encI t2.Torque.X), .t (tS encI t2.Torque.Y), .t (tS (encS encI) t2.Torque.Z), .t (tS encI t2.Wish.X), .t (tS encI t2.Wish.Y), .t (tS (encS encI) t2.Wish.Z), .t (tS encI t2.AirTemp.X), .t (tS encI t2.AirTemp.Y), .t (tS encI t2.Dwell.X), .t (tS encI t2.Dwell.Y), .t (tS encI t2.Dead.X), .t (tS encI t2.Dead.Y), .t (tS encI t2.Efficiency.X), .t (tS encI t2.Efficiency.Y), .t (tI t2.Idle.P), .t (tI t2.Idle.I), .t (tI t2.Idle.Low), .t (tI t2.Idle.High)])]⟩ σ' | .brk t => e = .exit 1 ∧ Sub ⟨[(1, .t (tI speed)), (2, .t (tI charge)), (3, .t (tS enc_SFire l)), (4, .ptr 4 0), (10, .t (tI t))], [(4, .box [.t (tS encI t2.Air.X), .t (tS encI t2.Air.Y), .t (tS (encS encI) t2.Air.Z), .t (tS encI t2.Spark.X), .t (tS encI t2.Spark.Y), .t (tS (encS encI) t2.Spark.Z), .t (tS encI t2.Torque.X), .t (tS encI t2.Torque.Y), .t (tS (encS encI) t2.Torque.Z), .t (tS encI t2.Wish.X), .t (tS encI t2.Wish.Y), .t (tS (encS encI) t2.Wish.Z), .t (tS encI t2.AirTemp.X), .t (tS encI t2.AirTemp.Y), .t (tS encI t2.Dwell.X), .t (tS encI t2.Dwell.Y), .t (tS encI t2.Dead.X), .t (tS encI t2.Dead.Y), .t (tS encI t2.Efficiency.X), .t (tS encI t2.Efficiency.Y), .t (tI t2.Idle.P), .t (tI t2.Idle.I), .t (tI t2.Idle.Low), .t (tI t2.Idle.High)])]⟩ σ' | .ret r => False) ?_ ?_
              · refine TieS.block ?_
                refine TieS.seq ?_
                refine TieS.region ?_
                refine TieO.indexH hx rfl rfl rfl rfl rfl rfl rfl rfl (fun _ => rfl) ?_
                refine TieO.run 3 rfl ?_
                refine TieO.nil ?_
                refine TieS.seq ?_
                refine TieS.region ?_
                refine TieO.run 3 rfl ?_
                refine TieO.nil ?_
                refine TieS.cond rfl ?_ ?_
                · refine TieS.region ?_
                  refine TieO.run 3 rfl ?_
                  refine TieO.nil ?_
                  refine TieS.endb ?_
                  exact TieS.leaf ⟨rfl, .of rfl rfl⟩
                · refine TieS.skip ?_
                  refine TieS.endb ?_
                  exact TieS.leaf ⟨rfl, .of rfl rfl⟩
              rintro (t | t | r) e σ' _ hq
              · obtain ⟨rfl, hs⟩ := hq
                refine TieX.sub hs ?_
                refine TieS.region ?_
                refine TieO.run 2 rfl ?_
                refine TieO.nil ?_
                exact TieS.leaf ⟨rfl, .of rfl rfl⟩
              · obtain ⟨rfl, hs⟩ := hq
                exact TieX.exitOut rfl ⟨(fun h => by cases h), rfl, hs⟩
              · exact hq.elim
            · exact TieS.exitOut rfl ⟨(fun h => by cases h), rfl, .of rfl rfl⟩
          rintro (n3 | r) e σ' _ hq
          · obtain ⟨rfl, hs⟩ := hq
            refine TieX.exit rfl (TieX.sub hs ?_)
            refine TieS.seq ?_
            refine TieS.region ?_
            refine TieO.run 4 rfl ?_
            refine TieO.call _ rfl rfl rfl (tie_monitor_corner t2.Torque speed charge) (fun _ => rfl) fun v4 => ?_
            refine TieO.run 3 rfl ?_
            refine TieO.nil ?_
            refine TieS.seq ?_
            refine TieS.region ?_
            refine TieO.run 9 rfl ?_
            refine TieO.quo rfl rfl rfl rfl rfl rfl fun q => ?_
            refine TieO.run 2 rfl ?_
            refine TieO.nil ?_
            exact TieS.ret ⟨.inl rfl, rfl⟩
          · exact hq.elim
-- magneto/magnetoref39.Actual
set_option maxRecDepth 100000 in
theorem tie_magnetoref39_Actual (t2 : STables) (speed : Int) (charge : Int) (l : List SFire) : TieF Try.prog 26 [A_STables t2, .t (tI speed), .t (tI charge), .t (tS enc_SFire l)] (magnetoref39_Actual t2 speed charge l) (fun r => .t (tI r)) := by
  refine TieF.intro htab 45 [.tmp 8] Try.call26 Try.func26 rfl rfl rfl (Nat.le_of_ble_eq_true rfl) fun w0 L => ?_
  refine TieS.seq ?_
  refine TieS.region ?_
  refine TieO.run 2 rfl ?_
  refine TieO.nil ?_
  refine TieS.seq ?_
  refine TieS.seq ?_
  refine TieS.region ?_
  refine TieO.run 3 rfl ?_
  refine TieO.nil ?_
  refine TieS.cond rfl ?_ ?_
  · refine TieS.seq ?_
    refine TieS.region ?_
    refine TieO.run 1 rfl ?_
    refine TieO.nil ?_
    exact TieS.ret ⟨.inl rfl, rfl⟩
  · refine TieS.skip ?_
    refine TieS.seq ?_
    refine TieS.region ?_
    refine TieO.run 1 rfl ?_
    refine TieO.nil ?_
    refine TieS.seq ?_
    refine TieS.seq ?_
    refine TieS.region ?_
    refine TieO.run 1 rfl ?_
    refine TieO.nil ?_
    refine TieS.block ?_
    refine TieS.loop (fun t => ⟨[(1, .t (tI speed)), (2, .t (tI charge)), (3, .t (tS enc_SFire l)), (4, .ptr 4 0), (9, .t (tI t.1)), (10, .t (tI t.2))], [(4, .box [.t (tS encI t2.Air.X), .t (tS encI t2.Air.Y), .t (tS (encS encI) t2.Air.Z), .t (tS encI t2.Spark.X), .t (tS encI t2.Spark.Y), .t (tS (encS encI) t2.Spark.Z), .t (tS encI t2.Torque.X), .t (tS encI t2.Torque.Y), .t (tS (encS encI) t2.Torque.Z), .t (tS encI t2.Wish.X), .t (tS encI t2.Wish.Y), .t (tS (encS encI) t2.Wish.Z), .t (tS encI t2.AirTemp.X), .t (tS encI t2.AirTemp.Y), .t (tS encI t2.Dwell.X), .t (tS encI t2.Dwell.Y), .t (tS encI t2.Dead.X), .t (tS encI t2.Dead.Y), .t (tS encI t2.Efficiency.X), .t (tS encI t2.Efficiency.Y), .t (tI t2.Idle.P), .t (tI t2.Idle.I), .t (tI t2.Idle.Low), .t (tI t2.Idle.High)])]⟩) (fun b e σ' => match b with | .inl t => e = .exit 0 ∧ Sub ⟨[(1, .t (tI speed)), (2, .t (tI charge)), (3, .t (tS enc_SFire l)), (4, .ptr 4 0), (9, .t (tI t.1))], [(4, .box [.t (tS encI t2.Air.X), .t (tS encI t2.Air.Y), .t (tS (encS encI) t2.Air.Z), .t (tS encI t2.Spark.X), .t (tS encI t2.Spark.Y), .t (tS (encS encI) t2.Spark.Z), .t (tS encI t2.Torque.X), .t (tS encI t2.Torque.Y), .t (tS (encS encI) t2.Torque.Z), .t (tS encI t2.Wish.X), .t (tS encI t2.Wish.Y), .t (tS (encS encI) t2.Wish.Z), .t (tS encI t2.AirTemp.X), .t (tS encI t2.AirTemp.Y), .t (tS encI t2.Dwell.X), .t (tS encI t2.Dwell.Y), .t (tS encI t2.Dead.X), .t (tS encI t2.Dead.Y), .t (tS encI t2.Efficiency.X), .t (tS encI t2.Efficiency.Y), .t (tI t2.Idle.P), .t (tI t2.Idle.I), .t (tI t2.Idle.Low), .t (tI t2.Idle.High)])]⟩ σ' | .inr r => False) (.of rfl rfl) ?_ ?_
    · intro s
      refine TieS.seq ?_
      refine TieS.seq ?_
      refine TieS.region ?_
      refine TieO.run 4 rfl ?_
      refine TieO.nil ?_
      refine TieS.cond rfl ?_ ?_
      · refine TieS.skip ?_
        refine TieS.seq ?_
        refine TieS.block ?_
        refine TieS.seq ?_
        refine TieS.region ?_
        refine TieO.run 2 rfl ?_
        refine TieO.index rfl rfl rfl rfl rfl rfl rfl rfl (fun _ => rfl) fun x hx => ?_
        refine TieO.run 3 rfl ?_
        refine TieO.nil ?_
        refine TieS.cond rfl ?_ ?_
        · refine TieS.region ?_
          refine TieO.run 3 rfl ?_
          refine TieO.nil ?_
          refine TieS.endb ?_
          refine TieS.region ?_
          refine TieO.run 3 rfl ?_
          refine TieO.nil ?_
          exact TieS.leaf ⟨rfl, .of rfl rfl⟩
        · refine TieS.skip ?_
          refine TieS.endb ?_
          refine TieS.region ?_
          refine TieO.run 3 rfl ?_
          refine TieO.nil ?_
          exact TieS.leaf ⟨rfl, .of rfl rfl⟩
      · exact TieS.exitOut rfl ⟨(fun h => by cases h), rfl, .of rfl rfl⟩
    rintro (s2 | r) e σ' _ hq
    · obtain ⟨rfl, hs⟩ := hq
      refine TieX.exit rfl (TieX.sub hs ?_)
      refine TieS.seq ?_
      refine TieS.region ?_
      refine TieO.run 4 rfl ?_
      refine TieO.call _ rfl rfl rfl (tie_magnetoref39_Corner t2.Torque speed charge) (fun _ => rfl) fun v => ?_
      refine TieO.call _ rfl rfl rfl (tie_magnetoref39_limit v 0 10000) (fun _ => rfl) fun v2 => ?_
      refine TieO.run 1 rfl ?_
      refine TieO.nil ?_
      refine TieS.seq ?_
      refine TieS.region ?_
      refine TieO.run 9 rfl ?_
      refine TieO.quo rfl rfl rfl rfl rfl rfl fun q => ?_
      refine TieO.run 1 rfl ?_
      refine TieO.nil ?_
      exact TieS.ret ⟨.inl rfl, rfl⟩
    · exact hq.elim
-- magneto/magnetolaw39.MonitorMeasures
set_option maxRecDepth 100000 in
theorem tie_magnetolaw39_MonitorMeasures (t2 : STables) (speed : Int) (charge : Int) (l : List SFire) : TieF Try.prog 6 [A_STables t2, .t (tI speed), .t (tI charge), .t (tS enc_SFire l)] (magnetolaw39_MonitorMeasures t2 speed charge l) (fun r => .t (tB r)) := by
  refine TieF.intro htab 71 [.tmp 8] Try.call6 Try.func6 rfl rfl rfl (Nat.le_of_ble_eq_true rfl) fun w0 L => ?_
  refine TieS.seq ?_
  refine TieS.region ?_
  refine TieO.run 2 rfl ?_
  refine TieO.nil ?_
  refine TieS.seq ?_
  refine TieS.seq ?_
  refine TieS.region ?_
  refine TieO.call _ rfl rfl rfl (tie_magnetolaw39_awake) (fun _ => rfl) fun v => ?_
  refine TieO.run 1 rfl ?_
  refine TieO.nil ?_
  refine TieS.cond rfl ?_ ?_
  · refine TieS.seq ?_
    refine TieS.region ?_
    refine TieO.run 1 rfl ?_
    refine TieO.nil ?_
    exact TieS.ret ⟨.inl rfl, rfl⟩
  · refine TieS.skip ?_
    refine TieS.seq ?_
    refine TieS.seq ?_
    refine TieS.region ?_
    refine TieO.run 3 rfl ?_
    refine TieO.nil ?_
    refine TieS.cond rfl ?_ ?_
    · refine TieS.seq ?_
      refine TieS.region ?_
      refine TieO.run 1 rfl ?_
      refine TieO.nil ?_
      exact TieS.ret ⟨.inl rfl, rfl⟩
    · refine TieS.skip ?_
      refine TieS.seq ?_
      refine TieS.region ?_
      refine TieO.run 4 rfl ?_
      refine TieO.call _ rfl rfl rfl (tie_monitor_Actual t2 speed charge l) (fun _ => rfl) fun r2 => ?_
      refine TieO.run 5 rfl ?_
      refine TieO.nil ?_
      refine TieS.seq ?_
      refine TieS.block ?_
      refine TieS.seq ?_
      refine TieS.region ?_
      refine TieO.run 2 rfl ?_
      refine TieO.call _ rfl rfl rfl (tie_magnetoref39_Map t2.Torque) (fun _ => rfl) fun v2 => ?_
      refine TieO.run 2 rfl ?_
      refine TieO.nil ?_
      refine TieS.cond rfl ?_ ?_
      · refine TieS.seq ?_
        refine TieS.region ?_
        refine TieO.run 3 rfl ?_
        refine TieO.selAnd (v := (r2.1 == 0)) 3 31 (fun b => ⟨[(34, .t (tB b))], []⟩) rfl ?_ ?_ ?_
        · refine TieO.run 3 rfl ?_
          refine TieO.nil ?_
          exact TieS.leaf ⟨rfl, .of rfl rfl⟩
        · refine TieO.run 3 rfl ?_
          refine TieO.nil ?_
          exact TieS.leaf ⟨rfl, .of rfl rfl⟩
        refine TieO.run 1 rfl ?_
        refine TieO.nil ?_
        exact TieS.ret ⟨.inl rfl, rfl⟩
      · refine TieS.seq ?_
        refine TieS.region ?_
        refine TieO.run 4 rfl ?_
        refine TieO.nil ?_
        refine TieS.cond rfl ?_ ?_
        · refine TieS.seq ?_
          refine TieS.region ?_
          refine TieO.run 3 rfl ?_
          refine TieO.selAnd (v := (r2.1 == 0)) 3 41 (fun b => ⟨[(44, .t (tB b))], []⟩) rfl ?_ ?_ ?_
          · refine TieO.run 3 rfl ?_
            refine TieO.nil ?_
            exact TieS.leaf ⟨rfl, .of rfl rfl⟩
          · refine TieO.run 3 rfl ?_
            refine TieO.nil ?_
            exact TieS.leaf ⟨rfl, .of rfl rfl⟩
          refine TieO.run 1 rfl ?_
          refine TieO.nil ?_
          exact TieS.ret ⟨.inl rfl, rfl⟩
        · refine TieS.seq ?_
          refine TieS.region ?_
          refine TieO.run 1 rfl ?_
          refine TieO.call _ rfl rfl rfl (tie_magnetoref39_In speed 0 12000) (fun _ => rfl) fun v3 => ?_
          refine TieO.run 2 rfl ?_
          refine TieO.bind 4 (fun b2 => ⟨[(1, .t (tI speed)), (2, .t (tI charge)), (3, .t (tS enc_SFire l)), (4, .ptr 4 0), (9, .t (tI r2.1)), (10, .t (tI r2.2)), (53, .t (tB b2))], [(4, .box [.t (tS encI t2.Air.X), .t (tS encI t2.Air.Y), .t (tS (encS encI) t2.Air.Z), .t (tS encI t2.Spark.X), .t (tS encI t2.Spark.Y), .t (tS (encS encI) t2.Spark.Z), .t (tS encI t2.Torque.X), .t (tS encI t2.Torque.Y), .t (tS (encS encI) t2.Torque.Z), .t (tS encI t2.Wish.X), .t (tS encI t2.Wish.Y), .t (tS (encS encI) t2.Wish.Z), .t (tS encI t2.AirTemp.X), .t (tS encI t2.AirTemp.Y), .t (tS encI t2.Dwell.X), .t (tS encI t2.Dwell.Y), .t (tS encI t2.Dead.X), .t (tS encI t2.Dead.Y), .t (tS encI t2.Efficiency.X), .t (tS encI t2.Efficiency.Y), .t (tI t2.Idle.P), .t (tI t2.Idle.I), .t (tI t2.Idle.Low), .t (tI t2.Idle.High)])]⟩) (TieO.split 49 rfl ?_ ?_) fun b2 _ => ?_
          · refine TieO.run 4 rfl ?_
            refine TieO.nil ?_
            exact TieS.leaf ⟨rfl, .of rfl rfl⟩
          · refine TieO.run 1 rfl ?_
            refine TieO.call _ rfl rfl rfl (tie_magnetoref39_In charge 0 1048576) (fun _ => rfl) fun v4 => ?_
            refine TieO.run 2 rfl ?_
            refine TieO.nil ?_
            exact TieS.leaf ⟨rfl, .of rfl rfl⟩
          refine TieO.run 1 rfl ?_
          refine TieO.nil ?_
          refine TieS.cond rfl ?_ ?_
          · refine TieS.seq ?_
            refine TieS.region ?_
            refine TieO.run 3 rfl ?_
            refine TieO.selAnd (v := (r2.1 == 0)) 3 56 (fun b => ⟨[(59, .t (tB b))], []⟩) rfl ?_ ?_ ?_
            · refine TieO.run 3 rfl ?_
              refine TieO.nil ?_
              exact TieS.leaf ⟨rfl, .of rfl rfl⟩
            · refine TieO.run 3 rfl ?_
              refine TieO.nil ?_
              exact TieS.leaf ⟨rfl, .of rfl rfl⟩
            refine TieO.run 1 rfl ?_
            refine TieO.nil ?_
            exact TieS.ret ⟨.inl rfl, rfl⟩
          · refine TieS.skip ?_
            refine TieS.endb ?_
            refine TieS.seq ?_
            refine TieS.region ?_
            refine TieO.run 3 rfl ?_
            refine TieO.bind 8 (fun b3 => ⟨[(70, .t (tB b3))], []⟩) (TieO.split 62 rfl ?_ ?_) fun b3 _ => ?_
            · refine TieO.run 5 rfl ?_
              refine TieO.call _ rfl rfl rfl (tie_magnetoref39_Actual t2 speed charge l) (fun _ => rfl) fun v5 => ?_
              refine TieO.run 2 rfl ?_
              refine TieO.nil ?_
              exact TieS.leaf ⟨rfl, .of rfl rfl⟩
            · refine TieO.run 8 rfl ?_
              refine TieO.nil ?_
              exact TieS.leaf ⟨rfl, .of rfl rfl⟩
            refine TieO.run 1 rfl ?_
            refine TieO.nil ?_
            exact TieS.ret ⟨.inl rfl, rfl⟩
end Go.Proofs.Ytllofihbdbdaeaa

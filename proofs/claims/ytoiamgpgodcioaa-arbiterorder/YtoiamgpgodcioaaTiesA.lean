/- Ties, printed by gen.py: each function of the loaded program computes its model. -/
import Derived.Test.YtoiamgpgodcioaaModel
import Derived.Test.YtoiamgpgodcioaaPvXl
import Derived.Test.YtoiamgpgodcioaaProg
import Derived.KernelRfl
namespace Go.Proofs.Ytoiamgpgodcioaa
open Go Go.Pv Go.Proofs
theorem mixed : Try.prog.follows .mixedOrders = true := by kernel_rfl
def tab : Tab := [(3, ⟨1, .int .i64, [.int .i64 0]⟩),
  (4, ⟨1, .bool, [.bool false]⟩),
  (5, ⟨1, .int .u8, [.int .u8 0]⟩),
  (22, ⟨1, .slice 35, [.slice none 0 0]⟩),
  (24, ⟨1, .slice 3, [.slice none 0 0]⟩),
  (25, ⟨1, .int .i64, [.int .i64 0]⟩),
  (30, ⟨2, .struct [(0, 1), (1, 1)], [.int .i64 0, .int .i64 0]⟩),
  (31, ⟨1, .slice 4, [.slice none 0 0]⟩),
  (35, ⟨4, .struct [(0, 1), (1, 1), (2, 1), (3, 1)], [.int .i64 0, .int .i64 0, .int .i64 0, .int .i64 0]⟩),
  (43, ⟨2, .struct [(0, 1), (1, 1)], [.int .i64 0, .int .i64 0]⟩),
  (47, ⟨1, .int .u16, [.int .u16 0]⟩),
  (58, ⟨3, .struct [(0, 1), (1, 1), (2, 1)], [.int .i64 0, .int .i64 0, .int .i64 0]⟩),
  (64, ⟨1, .int .u64, [.int .u64 0]⟩),
  (65, ⟨1, .slice 22, [.slice none 0 0]⟩)]
theorem ti3 : TIok Try.prog 3 ⟨1, .int .i64, [.int .i64 0]⟩ := ⟨Try.t3, _, by kernel_rfl, rfl, Try.underlying3, rfl, ⟨_, rfl, rfl⟩, Nat.le_of_ble_eq_true rfl⟩
theorem ti4 : TIok Try.prog 4 ⟨1, .bool, [.bool false]⟩ := ⟨Try.t4, _, by kernel_rfl, rfl, Try.underlying4, rfl, ⟨_, rfl, rfl⟩, Nat.le_of_ble_eq_true rfl⟩
theorem ti5 : TIok Try.prog 5 ⟨1, .int .u8, [.int .u8 0]⟩ := ⟨Try.t5, _, by kernel_rfl, rfl, Try.underlying5, rfl, ⟨_, rfl, rfl⟩, Nat.le_of_ble_eq_true rfl⟩
theorem ti22 : TIok Try.prog 22 ⟨1, .slice 35, [.slice none 0 0]⟩ := ⟨Try.t22, _, by kernel_rfl, rfl, Try.underlying22, rfl, ⟨_, rfl, rfl⟩, Nat.le_of_ble_eq_true rfl⟩
theorem ti24 : TIok Try.prog 24 ⟨1, .slice 3, [.slice none 0 0]⟩ := ⟨Try.t24, _, by kernel_rfl, rfl, Try.underlying24, rfl, ⟨_, rfl, rfl⟩, Nat.le_of_ble_eq_true rfl⟩
theorem ti25 : TIok Try.prog 25 ⟨1, .int .i64, [.int .i64 0]⟩ := ⟨Try.t25, _, by kernel_rfl, rfl, Try.underlying25, rfl, ⟨_, rfl, rfl⟩, Nat.le_of_ble_eq_true rfl⟩
theorem ti30 : TIok Try.prog 30 ⟨2, .struct [(0, 1), (1, 1)], [.int .i64 0, .int .i64 0]⟩ := by
  refine ⟨Try.t30, _, by kernel_rfl, rfl, Try.underlying30, ⟨_, rfl, rfl, fun f o n h => ?_⟩, ⟨_, rfl, rfl⟩, Nat.le_of_ble_eq_true rfl⟩
  match f, h with
  | 0, h => cases h; exact ⟨_, Try.t3, rfl, rfl, by kernel_rfl, rfl⟩
  | 1, h => cases h; exact ⟨_, Try.t3, rfl, rfl, by kernel_rfl, rfl⟩
  | _ + 2, h => simp at h
theorem ti31 : TIok Try.prog 31 ⟨1, .slice 4, [.slice none 0 0]⟩ := ⟨Try.t31, _, by kernel_rfl, rfl, Try.underlying31, rfl, ⟨_, rfl, rfl⟩, Nat.le_of_ble_eq_true rfl⟩
theorem ti35 : TIok Try.prog 35 ⟨4, .struct [(0, 1), (1, 1), (2, 1), (3, 1)], [.int .i64 0, .int .i64 0, .int .i64 0, .int .i64 0]⟩ := by
  refine ⟨Try.t35, _, by kernel_rfl, rfl, Try.underlying35, ⟨_, rfl, rfl, fun f o n h => ?_⟩, ⟨_, rfl, rfl⟩, Nat.le_of_ble_eq_true rfl⟩
  match f, h with
  | 0, h => cases h; exact ⟨_, Try.t3, rfl, rfl, by kernel_rfl, rfl⟩
  | 1, h => cases h; exact ⟨_, Try.t3, rfl, rfl, by kernel_rfl, rfl⟩
  | 2, h => cases h; exact ⟨_, Try.t3, rfl, rfl, by kernel_rfl, rfl⟩
  | 3, h => cases h; exact ⟨_, Try.t3, rfl, rfl, by kernel_rfl, rfl⟩
  | _ + 4, h => simp at h
theorem ti43 : TIok Try.prog 43 ⟨2, .struct [(0, 1), (1, 1)], [.int .i64 0, .int .i64 0]⟩ := by
  refine ⟨Try.t43, _, by kernel_rfl, rfl, Try.underlying43, ⟨_, rfl, rfl, fun f o n h => ?_⟩, ⟨_, rfl, rfl⟩, Nat.le_of_ble_eq_true rfl⟩
  match f, h with
  | 0, h => cases h; exact ⟨_, Try.t3, rfl, rfl, by kernel_rfl, rfl⟩
  | 1, h => cases h; exact ⟨_, Try.t3, rfl, rfl, by kernel_rfl, rfl⟩
  | _ + 2, h => simp at h
theorem ti47 : TIok Try.prog 47 ⟨1, .int .u16, [.int .u16 0]⟩ := ⟨Try.t47, _, by kernel_rfl, rfl, Try.underlying47, rfl, ⟨_, rfl, rfl⟩, Nat.le_of_ble_eq_true rfl⟩
theorem ti58 : TIok Try.prog 58 ⟨3, .struct [(0, 1), (1, 1), (2, 1)], [.int .i64 0, .int .i64 0, .int .i64 0]⟩ := by
  refine ⟨Try.t58, _, by kernel_rfl, rfl, Try.underlying58, ⟨_, rfl, rfl, fun f o n h => ?_⟩, ⟨_, rfl, rfl⟩, Nat.le_of_ble_eq_true rfl⟩
  match f, h with
  | 0, h => cases h; exact ⟨_, Try.t3, rfl, rfl, by kernel_rfl, rfl⟩
  | 1, h => cases h; exact ⟨_, Try.t3, rfl, rfl, by kernel_rfl, rfl⟩
  | 2, h => cases h; exact ⟨_, Try.t3, rfl, rfl, by kernel_rfl, rfl⟩
  | _ + 3, h => simp at h
theorem ti64 : TIok Try.prog 64 ⟨1, .int .u64, [.int .u64 0]⟩ := ⟨Try.t64, _, by kernel_rfl, rfl, Try.underlying64, rfl, ⟨_, rfl, rfl⟩, Nat.le_of_ble_eq_true rfl⟩
theorem ti65 : TIok Try.prog 65 ⟨1, .slice 22, [.slice none 0 0]⟩ := ⟨Try.t65, _, by kernel_rfl, rfl, Try.underlying65, rfl, ⟨_, rfl, rfl⟩, Nat.le_of_ble_eq_true rfl⟩
theorem htab : TabOk Try.prog tab := by
  intro t ti h
  unfold tab at h
  refine tab_step h ti3 fun h => ?_
  refine tab_step h ti4 fun h => ?_
  refine tab_step h ti5 fun h => ?_
  refine tab_step h ti22 fun h => ?_
  refine tab_step h ti24 fun h => ?_
  refine tab_step h ti25 fun h => ?_
  refine tab_step h ti30 fun h => ?_
  refine tab_step h ti31 fun h => ?_
  refine tab_step h ti35 fun h => ?_
  refine tab_step h ti43 fun h => ?_
  refine tab_step h ti47 fun h => ?_
  refine tab_step h ti58 fun h => ?_
  refine tab_step h ti64 fun h => ?_
  refine tab_step h ti65 fun h => ?_
  cases h
theorem eqi_30 (d : Nat) (w : World) (a0 : Int) (a1 : Int) (b0 : Int) (b1 : Int) : (Op.equalIn (d + 2) 30 (.agg #[.int .i64 a0, .int .i64 a1]) (.agg #[.int .i64 b0, .int .i64 b1])).run Try.prog w = .ok ((a0 == b0) && ((a1 == b1) && true)) w :=
  eq_struct (d := d + 1) (fs := [⟨ "Low", 3, 0, false, "", "", 0⟩, ⟨ "High", 3, 1, false, "", "", 8⟩]) (by kernel_rfl) (by kernel_rfl) (by kernel_rfl) (eqf_cons (by decide) (part_one ti3 rfl rfl) (part_one ti3 rfl rfl) (run_equalIn_int w _ 3 _ _ _ _ Try.underlying3) (eqf_cons (by decide) (part_one ti3 rfl rfl) (part_one ti3 rfl rfl) (run_equalIn_int w _ 3 _ _ _ _ Try.underlying3) (eqf_nil)))
theorem eqv_30 (a0 : Int) (a1 : Int) (b0 : Int) (b1 : Int) : EqOk Try.prog 30 [.int .i64 a0, .int .i64 a1] [.int .i64 b0, .int .i64 b1] ((a0 == b0) && ((a1 == b1) && true)) := ⟨fun w => eqi_30 9998 w a0 a1 b0 b1, by kernel_rfl⟩
theorem eqi_43 (d : Nat) (w : World) (a0 : Int) (a1 : Int) (b0 : Int) (b1 : Int) : (Op.equalIn (d + 2) 43 (.agg #[.int .i64 a0, .int .i64 a1]) (.agg #[.int .i64 b0, .int .i64 b1])).run Try.prog w = .ok ((a0 == b0) && ((a1 == b1) && true)) w :=
  eq_struct (d := d + 1) (fs := [⟨ "Torque", 3, 0, false, "", "", 0⟩, ⟨ "Source", 3, 1, false, "", "", 8⟩]) (by kernel_rfl) (by kernel_rfl) (by kernel_rfl) (eqf_cons (by decide) (part_one ti3 rfl rfl) (part_one ti3 rfl rfl) (run_equalIn_int w _ 3 _ _ _ _ Try.underlying3) (eqf_cons (by decide) (part_one ti3 rfl rfl) (part_one ti3 rfl rfl) (run_equalIn_int w _ 3 _ _ _ _ Try.underlying3) (eqf_nil)))
theorem eqv_43 (a0 : Int) (a1 : Int) (b0 : Int) (b1 : Int) : EqOk Try.prog 43 [.int .i64 a0, .int .i64 a1] [.int .i64 b0, .int .i64 b1] ((a0 == b0) && ((a1 == b1) && true)) := ⟨fun w => eqi_43 9998 w a0 a1 b0 b1, by kernel_rfl⟩
-- magneto/arbiter.torque
set_option maxRecDepth 100000 in
theorem tie_arbiter_torque (t2 : Int) : TieF Try.prog 32 [.t (tI t2)] (arbiter_torque t2) (fun r => .t (tB r)) := by
  refine TieF.intro htab 9 [.tmp 2] Try.call32 Try.func32 rfl rfl rfl (Nat.le_of_ble_eq_true rfl) fun w0 L => ?_
  refine TieS.seq ?_
  refine TieS.region ?_
  refine TieO.run 1 rfl ?_
  refine TieO.nil ?_
  refine TieS.seq ?_
  refine TieS.region ?_
  refine TieO.run 3 rfl ?_
  refine TieO.selAnd (v := decide (t2 ≤ 10000)) 3 5 (fun b => ⟨[(8, .t (tB b))], []⟩) rfl ?_ ?_ ?_
  · refine TieO.run 3 rfl ?_
    refine TieO.nil ?_
    exact TieS.leaf ⟨rfl, .of rfl rfl⟩
  · refine TieO.run 3 rfl ?_
    refine TieO.nil ?_
    exact TieS.leaf ⟨rfl, .of rfl rfl⟩
  refine TieO.run 1 rfl ?_
  refine TieO.nil ?_
  exact TieS.ret ⟨.inl rfl, rfl⟩
-- slices.IndexFunc[[]magneto/api.Request,magneto/api.Request]
set_option maxRecDepth 100000 in
theorem tie_slices_IndexFunc_sRequest (s : List SRequest) (n2 : Nat) (cs : List (List Tree)) (f2 : SRequest → Option Bool) (h2 : ∀ x0, TieF Try.prog n2 ([A_SRequest x0] ++ cs.map T.el) (f2 x0) (fun r => .t (tB r))) : TieF Try.prog 51 [.t (tS enc_SRequest s), .fz n2 cs] (slices_IndexFunc_sRequest s f2) (fun r => .t (tI r)) := by
  refine TieF.intro htab 19 [.tmp 4] Try.call51 Try.func51 rfl rfl rfl (Nat.le_of_ble_eq_true rfl) fun w0 L => ?_
  refine TieS.seq ?_
  refine TieS.region ?_
  refine TieO.run 1 rfl ?_
  refine TieO.nil ?_
  refine TieS.seq ?_
  refine TieS.seq ?_
  refine TieS.region ?_
  refine TieO.run 3 rfl ?_
  refine TieO.nil ?_
  refine TieS.block ?_
  refine TieS.loop (fun p => ⟨[(0, .t (tS enc_SRequest s)), (1, .fz n2 cs), (7, .t (tI (s.length : Int))), (8, .t (tI p.1))], []⟩) (fun b e σ' => match b with | .inl t => e = .exit 0 ∧ Sub ⟨[], []⟩ σ' | .inr t => e = .ret ∧ retT tab σ' [.tmp 4] = some (((fun r => .t (tI r)) : Int → T) t)) (.of rfl rfl) ?_ ?_
  · rintro ⟨i, s2⟩
    refine TieS.seq ?_
    refine TieS.region ?_
    refine TieO.run 1 rfl ?_
    refine TieO.nil ?_
    refine TieS.seq ?_
    refine TieS.cond rfl ?_ ?_
    · refine TieS.skip ?_
      refine TieS.seq ?_
      refine TieX.sub (σ' := ⟨[(0, .t (tS enc_SRequest s)), (1, .fz n2 cs), (7, .t (tI (s.length : Int))), (8, .t (tI i))], []⟩) (.of rfl rfl) ?_
      refine TieS.bind (Q₁ := fun f e σ' => match f with | .next t => e = .normal ∧ Sub ⟨[(0, .t (tS enc_SRequest s)), (1, .fz n2 cs), (7, .t (tI (s.length : Int))), (8, .t (tI i))], []⟩ σ' | .brk t => e = .exit 0 ∧ Sub ⟨[], []⟩ σ' | .ret t => e = .ret ∧ retT tab σ' [.tmp 4] = some (((fun r => .t (tI r)) : Int → T) t)) ?_ ?_
      · refine TieS.block ?_
        refine TieS.seq ?_
        refine TieS.region ?_
        refine TieO.run 2 rfl ?_
        refine TieO.nil ?_
        refine TieS.seq ?_
        refine TieS.region ?_
        refine TieO.run 3 rfl ?_
        refine TieO.index rfl rfl rfl rfl rfl rfl rfl rfl (fun _ => rfl) fun x hx => ?_
        refine TieO.run 1 rfl ?_
        refine TieO.call _ rfl rfl rfl (h2 x) (fun _ => rfl) fun v => ?_
        refine TieO.nil ?_
        refine TieS.cond rfl ?_ ?_
        · refine TieS.seq ?_
          refine TieS.region ?_
          refine TieO.run 2 rfl ?_
          refine TieO.nil ?_
          exact TieS.ret ⟨rfl, rfl⟩
        · refine TieS.skip ?_
          refine TieS.endb ?_
          exact TieS.leaf ⟨rfl, .of rfl rfl⟩
      rintro (t | t | t) e σ' _ hq
      · obtain ⟨rfl, hs⟩ := hq
        refine TieX.sub hs ?_
        refine TieS.region ?_
        refine TieO.run 2 rfl ?_
        refine TieO.nil ?_
        exact TieS.leaf ⟨rfl, .of rfl rfl⟩
      · obtain ⟨rfl, hs⟩ := hq
        exact TieX.exitOut rfl ⟨(fun h => by cases h), rfl, hs⟩
      · obtain ⟨rfl, hs⟩ := hq
        exact TieX.ret ⟨(fun h => by cases h), rfl, hs⟩
    · exact TieS.exitOut rfl ⟨(fun h => by cases h), rfl, .of rfl rfl⟩
  rintro (s3 | r2) e σ' _ hq
  · obtain ⟨rfl, hs⟩ := hq
    refine TieX.exit rfl (TieX.sub hs ?_)
    refine TieS.seq ?_
    refine TieS.region ?_
    refine TieO.run 1 rfl ?_
    refine TieO.nil ?_
    exact TieS.ret ⟨.inl rfl, rfl⟩
  · obtain ⟨rfl, hs⟩ := hq
    exact TieX.ret ⟨.inl rfl, hs⟩
-- slices.ContainsFunc[[]magneto/api.Request,magneto/api.Request]
set_option maxRecDepth 100000 in
theorem tie_slices_ContainsFunc_sRequest (s : List SRequest) (n2 : Nat) (cs : List (List Tree)) (f2 : SRequest → Option Bool) (h2 : ∀ x0, TieF Try.prog n2 ([A_SRequest x0] ++ cs.map T.el) (f2 x0) (fun r => .t (tB r))) : TieF Try.prog 35 [.t (tS enc_SRequest s), .fz n2 cs] (slices_ContainsFunc_sRequest s f2) (fun r => .t (tB r)) := by
  refine TieF.intro htab 9 [.tmp 4] Try.call35 Try.func35 rfl rfl rfl (Nat.le_of_ble_eq_true rfl) fun w0 L => ?_
  refine TieS.seq ?_
  refine TieS.region ?_
  refine TieO.run 1 rfl ?_
  refine TieO.nil ?_
  refine TieS.seq ?_
  refine TieS.region ?_
  refine TieO.run 2 rfl ?_
  refine TieO.call _ rfl rfl rfl (tie_slices_IndexFunc_sRequest s n2 cs f2 h2) (fun _ => rfl) fun v => ?_
  refine TieO.run 2 rfl ?_
  refine TieO.nil ?_
  exact TieS.ret ⟨.inl rfl, rfl⟩
-- magneto/arbiter.Valid
set_option maxRecDepth 100000 in
theorem tie_arbiter_Valid (r2 : SRequest) : TieF Try.prog 19 [A_SRequest r2] (arbiter_Valid r2) (fun r => .t (tB r)) := by
  refine TieF.intro htab 45 [.tmp 2] Try.call19 Try.func19 rfl rfl rfl (Nat.le_of_ble_eq_true rfl) fun w0 L => ?_
  refine TieS.seq ?_
  refine TieS.region ?_
  refine TieO.run 2 rfl ?_
  refine TieO.nil ?_
  refine TieS.seq ?_
  refine TieS.seq ?_
  refine TieS.region ?_
  refine TieO.run 4 rfl ?_
  refine TieO.selOr (v := decide (r2.Source > 15)) 4 6 (fun b => ⟨[(1, .ptr 1 0), (10, .t (tB b))], [(1, .box [.t (tI r2.Source), .t (tI r2.Kind), .t (tI r2.Torque), .t (tI r2.Priority)])]⟩) rfl ?_ ?_ ?_
  · refine TieO.run 4 rfl ?_
    refine TieO.nil ?_
    exact TieS.leaf ⟨rfl, .of rfl rfl⟩
  · refine TieO.run 4 rfl ?_
    refine TieO.nil ?_
    exact TieS.leaf ⟨rfl, .of rfl rfl⟩
  refine TieO.run 1 rfl ?_
  refine TieO.selOr (v := decide (r2.Priority < 0)) 4 11 (fun b => ⟨[(1, .ptr 1 0), (15, .t (tB b))], [(1, .box [.t (tI r2.Source), .t (tI r2.Kind), .t (tI r2.Torque), .t (tI r2.Priority)])]⟩) rfl ?_ ?_ ?_
  · refine TieO.run 4 rfl ?_
    refine TieO.nil ?_
    exact TieS.leaf ⟨rfl, .of rfl rfl⟩
  · refine TieO.run 4 rfl ?_
    refine TieO.nil ?_
    exact TieS.leaf ⟨rfl, .of rfl rfl⟩
  refine TieO.run 1 rfl ?_
  refine TieO.selOr (v := decide (r2.Priority > 15)) 4 16 (fun b => ⟨[(1, .ptr 1 0), (20, .t (tB b))], [(1, .box [.t (tI r2.Source), .t (tI r2.Kind), .t (tI r2.Torque), .t (tI r2.Priority)])]⟩) rfl ?_ ?_ ?_
  · refine TieO.run 4 rfl ?_
    refine TieO.nil ?_
    exact TieS.leaf ⟨rfl, .of rfl rfl⟩
  · refine TieO.run 4 rfl ?_
    refine TieO.nil ?_
    exact TieS.leaf ⟨rfl, .of rfl rfl⟩
  refine TieO.run 1 rfl ?_
  refine TieO.bind 5 (fun b2 => ⟨[(1, .ptr 1 0), (26, .t (tB b2))], [(1, .box [.t (tI r2.Source), .t (tI r2.Kind), .t (tI r2.Torque), .t (tI r2.Priority)])]⟩) (TieO.split 21 rfl ?_ ?_) fun b2 _ => ?_
  · refine TieO.run 5 rfl ?_
    refine TieO.nil ?_
    exact TieS.leaf ⟨rfl, .of rfl rfl⟩
  · refine TieO.run 2 rfl ?_
    refine TieO.call _ rfl rfl rfl (tie_arbiter_torque r2.Torque) (fun _ => rfl) fun v => ?_
    refine TieO.run 2 rfl ?_
    refine TieO.nil ?_
    exact TieS.leaf ⟨rfl, .of rfl rfl⟩
  refine TieO.nil ?_
  refine TieS.cond rfl ?_ ?_
  · refine TieS.seq ?_
    refine TieS.region ?_
    refine TieO.run 1 rfl ?_
    refine TieO.nil ?_
    exact TieS.ret ⟨.inl rfl, rfl⟩
  · refine TieS.skip ?_
    refine TieS.seq ?_
    refine TieS.region ?_
    refine TieO.run 4 rfl ?_
    refine TieO.frzBox 1 rfl rfl ?_
    refine TieO.bind 14 (fun b4 => ⟨[(44, .t (tB b4))], []⟩) (TieO.split 30 rfl ?_ ?_) fun b4 _ => ?_
    · refine TieO.run 14 rfl ?_
      refine TieO.nil ?_
      exact TieS.leaf ⟨rfl, .of rfl rfl⟩
    · refine TieO.run 4 rfl ?_
      refine TieO.bind 9 (fun b3 => ⟨[(30, .t (tB false)), (43, .t (tB b3))], []⟩) (TieO.split 34 rfl ?_ ?_) fun b3 _ => ?_
      · refine TieO.run 4 rfl ?_
        refine TieO.selOr (v := (r2.Kind == 3)) 4 38 (fun b => ⟨[(30, .t (tB false)), (34, .t (tB true)), (42, .t (tB b))], []⟩) rfl ?_ ?_ ?_
        · refine TieO.run 4 rfl ?_
          refine TieO.nil ?_
          exact TieS.leaf ⟨rfl, .of rfl rfl⟩
        · refine TieO.run 4 rfl ?_
          refine TieO.nil ?_
          exact TieS.leaf ⟨rfl, .of rfl rfl⟩
        refine TieO.run 1 rfl ?_
        refine TieO.nil ?_
        exact TieS.leaf ⟨rfl, .of rfl rfl⟩
      · refine TieO.run 9 rfl ?_
        refine TieO.nil ?_
        exact TieS.leaf ⟨rfl, .of rfl rfl⟩
      refine TieO.run 1 rfl ?_
      refine TieO.nil ?_
      exact TieS.leaf ⟨rfl, .of rfl rfl⟩
    refine TieO.run 1 rfl ?_
    refine TieO.nil ?_
    exact TieS.ret ⟨.inl rfl, rfl⟩
-- magneto/arbiter.given$1
set_option maxRecDepth 100000 in
theorem tie_arbiter_given_1 (r2 : SRequest) : TieF Try.prog 36 [A_SRequest r2] (arbiter_given_1 r2) (fun r => .t (tB r)) := by
  refine TieF.intro htab 6 [.tmp 2] Try.call36 Try.func36 rfl rfl rfl (Nat.le_of_ble_eq_true rfl) fun w0 L => ?_
  refine TieS.seq ?_
  refine TieS.region ?_
  refine TieO.run 2 rfl ?_
  refine TieO.nil ?_
  refine TieS.seq ?_
  refine TieS.region ?_
  refine TieO.run 1 rfl ?_
  refine TieO.call _ rfl rfl rfl (tie_arbiter_Valid r2) (fun _ => rfl) fun v => ?_
  refine TieO.run 2 rfl ?_
  refine TieO.nil ?_
  exact TieS.ret ⟨.inl rfl, rfl⟩
-- magneto/arbiter.given
set_option maxRecDepth 100000 in
theorem tie_arbiter_given (l : List SRequest) (low : Int) (high : Int) : TieF Try.prog 27 [.t (tS enc_SRequest l), .t (tI low), .t (tI high)] (arbiter_given l low high) (fun r => .t (tI r)) := by
  refine TieF.intro htab 28 [.tmp 6] Try.call27 Try.func27 rfl rfl rfl (Nat.le_of_ble_eq_true rfl) fun w0 L => ?_
  refine TieS.seq ?_
  refine TieS.region ?_
  refine TieO.run 1 rfl ?_
  refine TieO.nil ?_
  refine TieS.seq ?_
  refine TieS.block ?_
  refine TieS.seq ?_
  refine TieS.region ?_
  refine TieO.run 1 rfl ?_
  refine TieO.call _ rfl rfl rfl (tie_slices_ContainsFunc_sRequest l 36 [] arbiter_given_1 tie_arbiter_given_1) (fun _ => rfl) fun v => ?_
  refine TieO.run 1 rfl ?_
  refine TieO.nil ?_
  refine TieS.cond rfl ?_ ?_
  · refine TieS.seq ?_
    refine TieS.region ?_
    refine TieO.run 1 rfl ?_
    refine TieO.nil ?_
    exact TieS.ret ⟨.inl rfl, rfl⟩
  · refine TieS.seq ?_
    refine TieS.region ?_
    refine TieO.run 4 rfl ?_
    refine TieO.nil ?_
    refine TieS.cond rfl ?_ ?_
    · refine TieS.seq ?_
      refine TieS.region ?_
      refine TieO.run 1 rfl ?_
      refine TieO.nil ?_
      exact TieS.ret ⟨.inl rfl, rfl⟩
    · refine TieS.seq ?_
      refine TieS.region ?_
      refine TieO.run 1 rfl ?_
      refine TieO.call _ rfl rfl rfl (tie_arbiter_torque low) (fun _ => rfl) fun v2 => ?_
      refine TieO.run 2 rfl ?_
      refine TieO.bind 4 (fun b2 => ⟨[(1, .t (tI low)), (2, .t (tI high)), (22, .t (tB b2))], []⟩) (TieO.split 18 rfl ?_ ?_) fun b2 _ => ?_
      · refine TieO.run 4 rfl ?_
        refine TieO.nil ?_
        exact TieS.leaf ⟨rfl, .of rfl rfl⟩
      · refine TieO.run 1 rfl ?_
        refine TieO.call _ rfl rfl rfl (tie_arbiter_torque high) (fun _ => rfl) fun v3 => ?_
        refine TieO.run 2 rfl ?_
        refine TieO.nil ?_
        exact TieS.leaf ⟨rfl, .of rfl rfl⟩
      refine TieO.run 1 rfl ?_
      refine TieO.selOr (v := decide (low > high)) 4 23 (fun b => ⟨[(27, .t (tB b))], []⟩) rfl ?_ ?_ ?_
      · refine TieO.run 4 rfl ?_
        refine TieO.nil ?_
        exact TieS.leaf ⟨rfl, .of rfl rfl⟩
      · refine TieO.run 4 rfl ?_
        refine TieO.nil ?_
        exact TieS.leaf ⟨rfl, .of rfl rfl⟩
      refine TieO.run 1 rfl ?_
      refine TieO.nil ?_
      refine TieS.cond rfl ?_ ?_
      · refine TieS.seq ?_
        refine TieS.region ?_
        refine TieO.run 1 rfl ?_
        refine TieO.nil ?_
        exact TieS.ret ⟨.inl rfl, rfl⟩
      · refine TieS.skip ?_
        refine TieS.endb ?_
        refine TieS.seq ?_
        refine TieS.region ?_
        refine TieO.run 1 rfl ?_
        refine TieO.nil ?_
        exact TieS.ret ⟨.inl rfl, rfl⟩
-- slices.Sort[[]int,int]
set_option maxRecDepth 100000 in
def sortI14_ren : Go.Shelf.Ren := ⟨fun | 125 => 31 | 128 => 49 | 129 => 50 | 189 => 14 | 215 => 61 | 216 => 46 | 257 => 30 | 294 => 40 | 295 => 41 | 296 => 42 | 297 => 43 | 298 => 44 | 299 => 45 | 300 => 47 | 301 => 48 | 328 => 56 | 329 => 57 | 330 => 58 | 331 => 59 | 332 => 60 | 343 => 65 | n => n, fun | 0 => 0 | 3 => 3 | 4 => 4 | 5 => 5 | 9 => 9 | 28 => 24 | 46 => 64 | 51 => 81 | 53 => 83 | 131 => 78 | 182 => 72 | 183 => 73 | 218 => 88 | 222 => 92 | 228 => 97 | 229 => 98 | n => n, fun  | n => n⟩
open Go.Shelf in
theorem sortI14 : Lays.n189 Try.prog sortI14_ren := {
  mixed := by kernel_rfl,
  f125 := Try.func31.trans (congrArg some (by kernel_rfl)),
  f128 := Try.func49.trans (congrArg some (by kernel_rfl)),
  f129 := Try.func50.trans (congrArg some (by kernel_rfl)),
  f189 := Try.func14.trans (congrArg some (by kernel_rfl)),
  f215 := Try.func61.trans (congrArg some (by kernel_rfl)),
  f216 := Try.func46.trans (congrArg some (by kernel_rfl)),
  f257 := Try.func30.trans (congrArg some (by kernel_rfl)),
  f294 := Try.func40.trans (congrArg some (by kernel_rfl)),
  f295 := Try.func41.trans (congrArg some (by kernel_rfl)),
  f296 := Try.func42.trans (congrArg some (by kernel_rfl)),
  f297 := Try.func43.trans (congrArg some (by kernel_rfl)),
  f298 := Try.func44.trans (congrArg some (by kernel_rfl)),
  f299 := Try.func45.trans (congrArg some (by kernel_rfl)),
  f300 := Try.func47.trans (congrArg some (by kernel_rfl)),
  f301 := Try.func48.trans (congrArg some (by kernel_rfl)),
  f328 := Try.func56.trans (congrArg some (by kernel_rfl)),
  f329 := Try.func57.trans (congrArg some (by kernel_rfl)),
  f330 := Try.func58.trans (congrArg some (by kernel_rfl)),
  f331 := Try.func59.trans (congrArg some (by kernel_rfl)),
  f332 := Try.func60.trans (congrArg some (by kernel_rfl)),
  f343 := Try.func65.trans (congrArg some (by kernel_rfl)),
  t0 := Try.underlying0,
  a0 := Try.isAgg0,
  z0 := Try.sizeOf0,
  v0 := Try.zeroValue0,
  t3 := Try.underlying3,
  a3 := Try.isAgg3,
  z3 := Try.sizeOf3,
  v3 := Try.zeroValue3,
  t4 := Try.underlying4,
  a4 := Try.isAgg4,
  z4 := Try.sizeOf4,
  v4 := Try.zeroValue4,
  t5 := Try.underlying5,
  a5 := Try.isAgg5,
  z5 := Try.sizeOf5,
  v5 := Try.zeroValue5,
  t9 := Try.underlying9,
  a9 := Try.isAgg9,
  z9 := Try.sizeOf9,
  v9 := Try.zeroValue9,
  t28 := Try.underlying24,
  a28 := Try.isAgg24,
  z28 := Try.sizeOf24,
  v28 := Try.zeroValue24,
  t46 := Try.underlying64,
  a46 := Try.isAgg64,
  z46 := Try.sizeOf64,
  v46 := Try.zeroValue64,
  t51 := Try.underlying81,
  a51 := Try.isAgg81,
  z51 := Try.sizeOf81,
  v51 := Try.zeroValue81,
  t53 := Try.underlying83,
  a53 := Try.isAgg83,
  z53 := Try.sizeOf83,
  v53 := Try.zeroValue83,
  t131 := Try.underlying78,
  a131 := Try.isAgg78,
  z131 := Try.sizeOf78,
  v131 := Try.zeroValue78,
  t182 := Try.underlying72,
  a182 := Try.isAgg72,
  z182 := Try.sizeOf72,
  v182 := Try.zeroValue72,
  t183 := Try.underlying73,
  a183 := Try.isAgg73,
  z183 := Try.sizeOf73,
  v183 := Try.zeroValue73,
  t218 := Try.underlying88,
  a218 := Try.isAgg88,
  z218 := Try.sizeOf88,
  v218 := Try.zeroValue88,
  t222 := Try.underlying92,
  a222 := Try.isAgg92,
  z222 := Try.sizeOf92,
  v222 := Try.zeroValue92,
  t228 := Try.underlying97,
  a228 := Try.isAgg97,
  z228 := Try.sizeOf97,
  v228 := Try.zeroValue97,
  t229 := Try.underlying98,
  a229 := Try.isAgg98,
  z229 := Try.sizeOf98,
  v229 := Try.zeroValue98 }
theorem tie_slices_Sort_sint (s : List Int) : TieG Try.prog 14 [.own 1000000] [(1000000, .rows 3 1 s.length (s.map Pv.encI))] (slices_Sort_sint s) (fun _ => .tup []) (fun r => [(1000000, .rows 3 1 r.length (r.map Pv.encI))]) :=
  sortInts_tie (ρ := sortI14_ren) sortI14 Try.call14 s
-- slices.Compact[[]int,int]
set_option maxRecDepth 100000 in
def compI16_ren : Go.Shelf.Ren := ⟨fun | 20 => 16 | n => n, fun | 0 => 0 | 3 => 3 | 4 => 4 | 22 => 24 | n => n, fun  | n => n⟩
open Go.Shelf in
theorem compI16 : Lays2.n20 Try.prog compI16_ren := {
  mixed := by kernel_rfl,
  f20 := Try.func16.trans (congrArg some (by kernel_rfl)),
  t0 := Try.underlying0,
  a0 := Try.isAgg0,
  z0 := Try.sizeOf0,
  v0 := Try.zeroValue0,
  t3 := Try.underlying3,
  a3 := Try.isAgg3,
  z3 := Try.sizeOf3,
  v3 := Try.zeroValue3,
  t4 := Try.underlying4,
  a4 := Try.isAgg4,
  z4 := Try.sizeOf4,
  v4 := Try.zeroValue4,
  t22 := Try.underlying24,
  a22 := Try.isAgg24,
  z22 := Try.sizeOf24,
  v22 := Try.zeroValue24,
  i3 := by kernel_rfl }
theorem tie_slices_Compact_sint (s : List Int) : TieG Try.prog 16 [.own 1000000] [(1000000, .rows 3 1 s.length (s.map Pv.encI))] (slices_Compact_sint s) (fun _ => .own 900000) (fun r => [(900000, .rows 3 1 r.length (r.map Pv.encI))]) :=
  compactInts_tie (ρ := compI16_ren) compI16 Try.call16 s
-- slices.Clone[[]magneto/api.Request,magneto/api.Request]
set_option maxRecDepth 100000 in
theorem tie_slices_Clone_sRequest (s : List SRequest) : TieG Try.prog 21 [.t (tS enc_SRequest s)] [] (slices_Clone_sRequest s) (fun _ => .own 900000) (fun r => [(900000, .rows 35 4 r.length (r.map enc_SRequest))]) := by
  refine TieG.intro htab 8 [.tmp 2] Try.call21 Try.func21 rfl rfl rfl (Nat.le_of_ble_eq_true rfl) fun w0 L => ?_
  refine TieS.seq ?_
  refine TieS.region ?_
  refine TieO.run 1 rfl ?_
  refine TieO.nil ?_
  refine TieS.seq ?_
  refine TieS.seq ?_
  refine TieS.region ?_
  refine TieO.run 1 rfl ?_
  refine TieO.isNil rfl rfl rfl rfl rfl rfl fun b2 hb2 => ?_
  refine TieO.nil ?_
  refine TieS.condB rfl (fun hb1 => ?_) (fun _ => ?_)
  · refine TieX.model (m' := some ([] : List SRequest)) (by rw [hb2 hb1]; rfl) ?_
    refine TieS.seq ?_
    refine TieS.region ?_
    refine TieO.run 1 rfl ?_
    refine TieO.nil ?_
    refine TieX.nilP 2 70000 35 4 [] rfl rfl rfl rfl rfl ?_
    exact TieS.ret ⟨.inl rfl, ⟨[(70000, 900000)], _, _, rfl, rfl, rfl, rfl, rfl⟩⟩
  · refine TieS.skip ?_
    refine TieS.seq ?_
    refine TieS.region ?_
    refine TieO.run 2 rfl ?_
    refine TieO.appendY (id := 5) (e' := 0) (l := ([] : List SRequest)) (r := s) (tm' := [(0, .t (tS enc_SRequest s)), (2, .t (.v (.slice none 0 0))), (3, .t (tS enc_SRequest s)), (4, .t (tB b2)), (6, .t (tS enc_SRequest s))]) (hp' := []) rfl rfl rfl rfl rfl rfl rfl (fun _ => rfl) (fun _ => rfl) (.inl ⟨rfl, rfl⟩) (.inl rfl) (.of rfl rfl) rfl rfl rfl fun l => ?_
    refine TieO.run 1 rfl ?_
    refine TieO.nil ?_
    exact TieS.ret ⟨.inl rfl, ⟨[(5, 900000)], _, _, rfl, rfl, rfl, rfl, rfl⟩⟩
-- slices.insertionSortCmpFunc[magneto/api.Request]
set_option maxRecDepth 100000 in
theorem tie_slices_insertionSortCmpFunc_Request (data : List SRequest) (a : Int) (b2 : Int) (n2 : Nat) (cs : List (List Tree)) (cmp : SRequest → SRequest → Option Int) (h2 : ∀ x0 x1, TieF Try.prog n2 ([A_SRequest x0, A_SRequest x1] ++ cs.map T.el) (cmp x0 x1) (fun r => .t (tI r))) : TieG Try.prog 62 [.own 1000000, .t (tI a), .t (tI b2), .fz n2 cs] [(1000000, .rows 35 4 data.length (data.map enc_SRequest))] (slices_insertionSortCmpFunc_Request data a b2 cmp) (fun _ => .tup []) (fun r => [(1000000, .rows 35 4 r.length (r.map enc_SRequest))]) := by
  refine TieG.intro htab 53 [] Try.call62 Try.func62 rfl rfl rfl (Nat.le_of_ble_eq_true rfl) fun w0 L => ?_
  refine TieS.seq ?_
  refine TieS.region ?_
  refine TieO.run 3 rfl ?_
  refine TieO.nil ?_
  refine TieS.block ?_
  refine TieS.loop (fun t => ⟨[(0, .own 1000000), (1, .t (tI a)), (2, .t (tI b2)), (3, .fz n2 cs), (8, .t (tI t.1))], [(1000000, .rows 35 4 t.2.length (t.2.map enc_SRequest))]⟩) (fun b e σ' => match b with | .inl t => e = .exit 0 ∧ Sub ⟨[], [(1000000, .rows 35 4 t.2.length (t.2.map enc_SRequest))]⟩ σ' | .inr t => False) (.of rfl rfl) ?_ ?_
  · intro s
    refine TieS.seq ?_
    refine TieS.seq ?_
    refine TieS.region ?_
    refine TieO.run 3 rfl ?_
    refine TieO.nil ?_
    refine TieS.cond rfl ?_ ?_
    · refine TieS.skip ?_
      refine TieS.seq ?_
      refine TieS.block ?_
      refine TieS.seq ?_
      refine TieS.region ?_
      refine TieO.run 2 rfl ?_
      refine TieO.nil ?_
      refine TieS.block ?_
      refine TieS.loop (fun t => ⟨[(0, .own 1000000), (1, .t (tI a)), (2, .t (tI b2)), (3, .fz n2 cs), (8, .t (tI s.1)), (9, .t (tI t.1))], [(1000000, .rows 35 4 t.2.length (t.2.map enc_SRequest))]⟩) (fun b e σ' => match b with | .inl t => e = .exit 2 ∧ Sub ⟨[(0, .own 1000000), (1, .t (tI a)), (2, .t (tI b2)), (3, .fz n2 cs), (8, .t (tI s.1))], [(1000000, .rows 35 4 t.2.length (t.2.map enc_SRequest))]⟩ σ' | .inr t => False) (.of rfl rfl) ?_ ?_
      · intro s2
        refine TieS.seq ?_
        refine TieS.seq ?_
        refine TieS.bind (Q₁ := fun t e σ' => e = .normal ∧ Sub ⟨[(0, .own 1000000), (1, .t (tI a)), (2, .t (tI b2)), (3, .fz n2 cs), (8, .t (tI s.1)), (9, .t (tI s2.1)), (34, .t (tB t))], [(1000000, .rows 35 4 s2.2.length (s2.2.map enc_SRequest))]⟩ σ') ?_ ?_
        · refine TieX.split (fun hg => ?_) (fun hg2 => ?_)
          · refine TieX.pre fun x hx => ?_
            refine TieX.pre fun x2 hx2 => ?_
            refine TieX.pre fun v hv => ?_
            refine TieS.draw 17 [.t (tI s2.1), .t (tI a), .t (tB (decide (s2.1 > a))), .t (tB true), .fz n2 cs, .own 1000000, .t (tI s2.1), .pe 1000000 (Int.toNat s2.1) 4 0, .agg [.t (tI x.Source), .t (tI x.Kind), .t (tI x.Torque), .t (tI x.Priority)], .own 1000000, .t (tI s2.1), .t (tI (w64 (s2.1 - 1))), .pe 1000000 (Int.toNat (w64 (s2.1 - 1))) 4 0, .agg [.t (tI x2.Source), .t (tI x2.Kind), .t (tI x2.Torque), .t (tI x2.Priority)], .t (tI v), .t (tB (decide (v < 0))), .t (tB (decide (v < 0)))] [(0, .own 1000000), (1, .t (tI a)), (2, .t (tI b2)), (3, .fz n2 cs), (8, .t (tI s.1)), (9, .t (tI s2.1))] [(1000000, .rows 35 4 s2.2.length (s2.2.map enc_SRequest))] mixed (.of rfl rfl) rfl rfl rfl rfl (.cons (.quiet rfl rfl rfl) (.cons (.quiet rfl rfl rfl) (.cons (.quiet rfl rfl rfl) (.cons (.cast (congrArg T.B hg) (.quiet rfl rfl rfl)) (.cons (.quiet rfl rfl rfl) (.cons (.quiet rfl rfl rfl) (.cons (.quiet rfl rfl rfl) (.cons (.indexO (sz := 4) hx rfl rfl rfl rfl rfl rfl rfl rfl) (.cons (.loadY hx rfl rfl rfl rfl rfl rfl) (.cons (.quiet rfl rfl rfl) (.cons (.quiet rfl rfl rfl) (.cons (.quiet rfl rfl rfl) (.cons (.indexO (sz := 4) hx2 rfl rfl rfl rfl rfl rfl rfl rfl) (.cons (.loadY hx2 rfl rfl rfl rfl rfl rfl) (.cons (.callV (h2 x x2) hv rfl rfl rfl rfl) (.cons (.quiet rfl rfl rfl) (.cons (.quiet rfl rfl rfl) (.nil)))))))))))))))))) ?_
            refine TieO.nil ?_
            exact TieS.leaf ⟨rfl, .of rfl rfl⟩
          · refine TieS.draw 17 [.t (tI s2.1), .t (tI a), .t (tB (decide (s2.1 > a))), .t (tB false), .t (.v undef), .t (.v undef), .t (.v undef), .t (.v undef), .t (.v undef), .t (.v undef), .t (.v undef), .t (.v undef), .t (.v undef), .t (.v undef), .t (.v undef), .t (.v undef), .t (tB false)] [(0, .own 1000000), (1, .t (tI a)), (2, .t (tI b2)), (3, .fz n2 cs), (8, .t (tI s.1)), (9, .t (tI s2.1))] [(1000000, .rows 35 4 s2.2.length (s2.2.map enc_SRequest))] mixed (.of rfl rfl) rfl rfl rfl rfl (.cons (.quiet rfl rfl rfl) (.cons (.quiet rfl rfl rfl) (.cons (.quiet rfl rfl rfl) (.cons (.cast (congrArg T.B hg2) (.quiet rfl rfl rfl)) (.cons (.skip rfl) (.cons (.skip rfl) (.cons (.skip rfl) (.cons (.skip rfl) (.cons (.skip rfl) (.cons (.skip rfl) (.cons (.skip rfl) (.cons (.skip rfl) (.cons (.skip rfl) (.cons (.skip rfl) (.cons (.skip rfl) (.cons (.skip rfl) (.cons (.quiet rfl rfl rfl) (.nil)))))))))))))))))) ?_
            refine TieO.nil ?_
            exact TieS.leaf ⟨rfl, .of rfl rfl⟩
        rintro v2 e σ' _ ⟨rfl, hs⟩
        refine TieX.sub hs ?_
        refine TieS.cond rfl ?_ ?_
        · refine TieS.skip ?_
          refine TieS.seq ?_
          refine TieS.block ?_
          refine TieS.bind (Q₁ := fun t e σ' => e = .normal ∧ Sub ⟨[(0, .own 1000000), (1, .t (tI a)), (2, .t (tI b2)), (3, .fz n2 cs), (8, .t (tI s.1)), (9, .t (tI s2.1))], [(1000000, .rows 35 4 t.length (t.map enc_SRequest))]⟩ σ') ?_ ?_
          · refine TieX.pre fun x3 hx3 => ?_
            refine TieX.pre fun x4 hx4 => ?_
            refine TieX.pre fun l hl => ?_
            refine TieS.draws 16 [false, false, false, false, false, false, false, false, false, false, false, false, false, false, false, false, false, false] [true, true, true, true, true, true, true, true, true, true, true, true, true, true, true, true, false, false] ⟨[(0, .own 1000000), (1, .t (tI a)), (2, .t (tI b2)), (3, .fz n2 cs), (8, .t (tI s.1)), (9, .t (tI s2.1)), (37, .own 1000000), (38, .t (tI s2.1)), (39, .own 1000000), (40, .t (tI s2.1)), (41, .t (tI (w64 (s2.1 - 1)))), (42, .own 1000000), (43, .t (tI s2.1)), (44, .t (tI (w64 (s2.1 - 1)))), (45, .pe 1000000 (Int.toNat (w64 (s2.1 - 1))) 4 0), (46, .agg [.t (tI x3.Source), .t (tI x3.Kind), .t (tI x3.Torque), .t (tI x3.Priority)]), (47, .own 1000000), (48, .t (tI s2.1)), (49, .pe 1000000 (Int.toNat s2.1) 4 0), (50, .agg [.t (tI x4.Source), .t (tI x4.Kind), .t (tI x4.Torque), .t (tI x4.Priority)]), (51, .pe 1000000 (Int.toNat s2.1) 4 0)], [(1000000, .rows 35 4 l.length (l.map enc_SRequest))]⟩ mixed (fun _ _ _ h => by cases h.1) rfl rfl rfl rfl ?_ ?_
            · refine TieA.have_ (fuel₁ := 2) (l₁ := [true, true, true, true, true, true, true, true, true, true, true, true, true, true, true, true, false, false]) (σ₁ := ⟨[(0, .own 1000000), (1, .t (tI a)), (2, .t (tI b2)), (3, .fz n2 cs), (8, .t (tI s.1)), (9, .t (tI s2.1)), (37, .own 1000000), (38, .t (tI s2.1)), (39, .own 1000000), (40, .t (tI s2.1)), (41, .t (tI (w64 (s2.1 - 1)))), (42, .own 1000000), (43, .t (tI s2.1)), (44, .t (tI (w64 (s2.1 - 1)))), (45, .pe 1000000 (Int.toNat (w64 (s2.1 - 1))) 4 0), (46, .agg [.t (tI x3.Source), .t (tI x3.Kind), .t (tI x3.Torque), .t (tI x3.Priority)]), (47, .own 1000000), (48, .t (tI s2.1)), (49, .pe 1000000 (Int.toNat s2.1) 4 0), (50, .agg [.t (tI x4.Source), .t (tI x4.Kind), .t (tI x4.Torque), .t (tI x4.Priority)]), (51, .pe 1000000 (Int.toNat s2.1) 4 0)], [(1000000, .rows 35 4 l.length (l.map enc_SRequest))]⟩) ?_ fun A_3 => ?_
              · exact TieA.done (.of rfl rfl)
              refine TieA.have_ (fuel₁ := 4) (l₁ := [true, true, true, true, true, true, true, true, true, true, true, true, true, true, false, false, false, false]) (σ₁ := ⟨[(0, .own 1000000), (1, .t (tI a)), (2, .t (tI b2)), (3, .fz n2 cs), (8, .t (tI s.1)), (9, .t (tI s2.1)), (37, .own 1000000), (38, .t (tI s2.1)), (39, .own 1000000), (40, .t (tI s2.1)), (41, .t (tI (w64 (s2.1 - 1)))), (42, .own 1000000), (43, .t (tI s2.1)), (44, .t (tI (w64 (s2.1 - 1)))), (45, .pe 1000000 (Int.toNat (w64 (s2.1 - 1))) 4 0), (46, .agg [.t (tI x3.Source), .t (tI x3.Kind), .t (tI x3.Torque), .t (tI x3.Priority)]), (47, .own 1000000), (48, .t (tI s2.1)), (49, .pe 1000000 (Int.toNat s2.1) 4 0), (50, .agg [.t (tI x4.Source), .t (tI x4.Kind), .t (tI x4.Torque), .t (tI x4.Priority)])], [(1000000, .rows 35 4 s2.2.length (s2.2.map enc_SRequest))]⟩) ?_ fun A_2 => ?_
              · refine TieA.idx 14 [true, true, true, true, true, true, true, true, true, true, true, true, true, true, true, false, false, false] hx4 rfl rfl rfl rfl rfl rfl (by kernel_rfl) (by kernel_rfl) (by kernel_rfl) rfl rfl rfl rfl rfl rfl ?_
                refine TieA.all [15] (by kernel_rfl) rfl ?_
                refine AllA.cons (σ₁ := ⟨[(0, .own 1000000), (1, .t (tI a)), (2, .t (tI b2)), (3, .fz n2 cs), (8, .t (tI s.1)), (9, .t (tI s2.1)), (37, .own 1000000), (38, .t (tI s2.1)), (39, .own 1000000), (40, .t (tI s2.1)), (41, .t (tI (w64 (s2.1 - 1)))), (42, .own 1000000), (43, .t (tI s2.1)), (44, .t (tI (w64 (s2.1 - 1)))), (45, .pe 1000000 (Int.toNat (w64 (s2.1 - 1))) 4 0), (46, .agg [.t (tI x3.Source), .t (tI x3.Kind), .t (tI x3.Torque), .t (tI x3.Priority)]), (47, .own 1000000), (48, .t (tI s2.1)), (49, .pe 1000000 (Int.toNat s2.1) 4 0), (50, .agg [.t (tI x4.Source), .t (tI x4.Kind), .t (tI x4.Torque), .t (tI x4.Priority)]), (51, .pe 1000000 (Int.toNat s2.1) 4 0)], [(1000000, .rows 35 4 l.length (l.map enc_SRequest))]⟩) [true, true, true, true, true, true, true, true, true, true, true, true, true, true, true, true, false, false] rfl rfl ?_ A_3 ?_
                · refine TieO.withH hl (TieO.storeY x3 [tI x3.Source, tI x3.Kind, tI x3.Torque, tI x3.Priority] hx4 rfl rfl rfl rfl rfl rfl rfl rfl rfl rfl rfl rfl (TieO.ifG ?_))
                  exact TieO.nil (TieS.leaf ⟨rfl, .of rfl rfl⟩)
                exact AllA.nil
              refine TieA.have_ (fuel₁ := 5) (l₁ := [true, true, true, true, true, true, true, true, true, true, true, true, true, false, false, false, false, false]) (σ₁ := ⟨[(0, .own 1000000), (1, .t (tI a)), (2, .t (tI b2)), (3, .fz n2 cs), (8, .t (tI s.1)), (9, .t (tI s2.1)), (37, .own 1000000), (38, .t (tI s2.1)), (39, .own 1000000), (40, .t (tI s2.1)), (41, .t (tI (w64 (s2.1 - 1)))), (42, .own 1000000), (43, .t (tI s2.1)), (44, .t (tI (w64 (s2.1 - 1)))), (45, .pe 1000000 (Int.toNat (w64 (s2.1 - 1))) 4 0), (46, .agg [.t (tI x3.Source), .t (tI x3.Kind), .t (tI x3.Torque), .t (tI x3.Priority)]), (47, .own 1000000), (48, .t (tI s2.1)), (49, .pe 1000000 (Int.toNat s2.1) 4 0)], [(1000000, .rows 35 4 s2.2.length (s2.2.map enc_SRequest))]⟩) ?_ fun A_1 => ?_
              · refine TieA.all [13] (by kernel_rfl) rfl ?_
                refine AllA.cons (σ₁ := ⟨[(0, .own 1000000), (1, .t (tI a)), (2, .t (tI b2)), (3, .fz n2 cs), (8, .t (tI s.1)), (9, .t (tI s2.1)), (37, .own 1000000), (38, .t (tI s2.1)), (39, .own 1000000), (40, .t (tI s2.1)), (41, .t (tI (w64 (s2.1 - 1)))), (42, .own 1000000), (43, .t (tI s2.1)), (44, .t (tI (w64 (s2.1 - 1)))), (45, .pe 1000000 (Int.toNat (w64 (s2.1 - 1))) 4 0), (46, .agg [.t (tI x3.Source), .t (tI x3.Kind), .t (tI x3.Torque), .t (tI x3.Priority)]), (47, .own 1000000), (48, .t (tI s2.1)), (49, .pe 1000000 (Int.toNat s2.1) 4 0), (50, .agg [.t (tI x4.Source), .t (tI x4.Kind), .t (tI x4.Torque), .t (tI x4.Priority)])], [(1000000, .rows 35 4 s2.2.length (s2.2.map enc_SRequest))]⟩) [true, true, true, true, true, true, true, true, true, true, true, true, true, true, false, false, false, false] rfl rfl ?_ A_2 ?_
                · refine TieO.loadY hx4 rfl rfl rfl rfl rfl rfl rfl rfl ?_
                  exact TieO.nil (TieS.leaf ⟨rfl, .of rfl rfl⟩)
                exact AllA.nil
              refine TieA.have_ (fuel₁ := 5) (l₁ := [true, true, true, true, true, true, true, true, true, false, true, true, true, true, false, false, false, false]) (σ₁ := ⟨[(0, .own 1000000), (1, .t (tI a)), (2, .t (tI b2)), (3, .fz n2 cs), (8, .t (tI s.1)), (9, .t (tI s2.1)), (37, .own 1000000), (38, .t (tI s2.1)), (39, .own 1000000), (40, .t (tI s2.1)), (41, .t (tI (w64 (s2.1 - 1)))), (42, .own 1000000), (43, .t (tI s2.1)), (44, .t (tI (w64 (s2.1 - 1)))), (45, .pe 1000000 (Int.toNat (w64 (s2.1 - 1))) 4 0), (47, .own 1000000), (48, .t (tI s2.1)), (49, .pe 1000000 (Int.toNat s2.1) 4 0), (50, .agg [.t (tI x4.Source), .t (tI x4.Kind), .t (tI x4.Torque), .t (tI x4.Priority)])], [(1000000, .rows 35 4 s2.2.length (s2.2.map enc_SRequest))]⟩) ?_ fun A_4 => ?_
              · refine TieA.all [9] (by kernel_rfl) rfl ?_
                refine AllA.cons (σ₁ := ⟨[(0, .own 1000000), (1, .t (tI a)), (2, .t (tI b2)), (3, .fz n2 cs), (8, .t (tI s.1)), (9, .t (tI s2.1)), (37, .own 1000000), (38, .t (tI s2.1)), (39, .own 1000000), (40, .t (tI s2.1)), (41, .t (tI (w64 (s2.1 - 1)))), (42, .own 1000000), (43, .t (tI s2.1)), (44, .t (tI (w64 (s2.1 - 1)))), (45, .pe 1000000 (Int.toNat (w64 (s2.1 - 1))) 4 0), (46, .agg [.t (tI x3.Source), .t (tI x3.Kind), .t (tI x3.Torque), .t (tI x3.Priority)]), (47, .own 1000000), (48, .t (tI s2.1)), (49, .pe 1000000 (Int.toNat s2.1) 4 0), (50, .agg [.t (tI x4.Source), .t (tI x4.Kind), .t (tI x4.Torque), .t (tI x4.Priority)])], [(1000000, .rows 35 4 s2.2.length (s2.2.map enc_SRequest))]⟩) [true, true, true, true, true, true, true, true, true, true, true, true, true, true, false, false, false, false] rfl rfl ?_ A_2 ?_
                · refine TieO.loadY hx3 rfl rfl rfl rfl rfl rfl rfl rfl ?_
                  exact TieO.nil (TieS.leaf ⟨rfl, .of rfl rfl⟩)
                exact AllA.nil
              refine TieA.move 0 [true, false, false, false, false, false, false, false, false, false, false, false, false, false, false, false, false, false] rfl rfl (by first | exact .inl rfl | exact .inr rfl) rfl rfl rfl (by kernel_rfl) (by kernel_rfl) (by kernel_rfl) rfl ?_
              refine TieA.move 1 [true, true, false, false, false, false, false, false, false, false, false, false, false, false, false, false, false, false] rfl rfl (by first | exact .inl rfl | exact .inr rfl) rfl rfl rfl (by kernel_rfl) (by kernel_rfl) (by kernel_rfl) rfl ?_
              refine TieA.move 2 [true, true, true, false, false, false, false, false, false, false, false, false, false, false, false, false, false, false] rfl rfl (by first | exact .inl rfl | exact .inr rfl) rfl rfl rfl (by kernel_rfl) (by kernel_rfl) (by kernel_rfl) rfl ?_
              refine TieA.move 3 [true, true, true, true, false, false, false, false, false, false, false, false, false, false, false, false, false, false] rfl rfl (by first | exact .inl rfl | exact .inr rfl) rfl rfl rfl (by kernel_rfl) (by kernel_rfl) (by kernel_rfl) rfl ?_
              refine TieA.bin (V := .t (tI (w64 (s2.1 - 1)))) 4 [true, true, true, true, true, false, false, false, false, false, false, false, false, false, false, false, false, false] rfl rfl rfl rfl rfl rfl (by kernel_rfl) (by kernel_rfl) (by kernel_rfl) rfl rfl rfl rfl ?_
              refine TieA.move 5 [true, true, true, true, true, true, false, false, false, false, false, false, false, false, false, false, false, false] rfl rfl (by first | exact .inl rfl | exact .inr rfl) rfl rfl rfl (by kernel_rfl) (by kernel_rfl) (by kernel_rfl) rfl ?_
              refine TieA.move 6 [true, true, true, true, true, true, true, false, false, false, false, false, false, false, false, false, false, false] rfl rfl (by first | exact .inl rfl | exact .inr rfl) rfl rfl rfl (by kernel_rfl) (by kernel_rfl) (by kernel_rfl) rfl ?_
              refine TieA.bin (V := .t (tI (w64 (s2.1 - 1)))) 7 [true, true, true, true, true, true, true, true, false, false, false, false, false, false, false, false, false, false] rfl rfl rfl rfl rfl rfl (by kernel_rfl) (by kernel_rfl) (by kernel_rfl) rfl rfl rfl rfl ?_
              refine TieA.idx 8 [true, true, true, true, true, true, true, true, true, false, false, false, false, false, false, false, false, false] hx3 rfl rfl rfl rfl rfl rfl (by kernel_rfl) (by kernel_rfl) (by kernel_rfl) rfl rfl rfl rfl rfl rfl ?_
              refine TieA.move 10 [true, true, true, true, true, true, true, true, true, false, true, false, false, false, false, false, false, false] rfl rfl (by first | exact .inl rfl | exact .inr rfl) rfl rfl rfl (by kernel_rfl) (by kernel_rfl) (by kernel_rfl) rfl ?_
              refine TieA.move 11 [true, true, true, true, true, true, true, true, true, false, true, true, false, false, false, false, false, false] rfl rfl (by first | exact .inl rfl | exact .inr rfl) rfl rfl rfl (by kernel_rfl) (by kernel_rfl) (by kernel_rfl) rfl ?_
              refine TieA.idx 12 [true, true, true, true, true, true, true, true, true, false, true, true, true, false, false, false, false, false] hx4 rfl rfl rfl rfl rfl rfl (by kernel_rfl) (by kernel_rfl) (by kernel_rfl) rfl rfl rfl rfl rfl rfl ?_
              refine TieA.all [9, 13] (by kernel_rfl) rfl ?_
              refine AllA.cons (σ₁ := ⟨[(0, .own 1000000), (1, .t (tI a)), (2, .t (tI b2)), (3, .fz n2 cs), (8, .t (tI s.1)), (9, .t (tI s2.1)), (37, .own 1000000), (38, .t (tI s2.1)), (39, .own 1000000), (40, .t (tI s2.1)), (41, .t (tI (w64 (s2.1 - 1)))), (42, .own 1000000), (43, .t (tI s2.1)), (44, .t (tI (w64 (s2.1 - 1)))), (45, .pe 1000000 (Int.toNat (w64 (s2.1 - 1))) 4 0), (46, .agg [.t (tI x3.Source), .t (tI x3.Kind), .t (tI x3.Torque), .t (tI x3.Priority)]), (47, .own 1000000), (48, .t (tI s2.1)), (49, .pe 1000000 (Int.toNat s2.1) 4 0)], [(1000000, .rows 35 4 s2.2.length (s2.2.map enc_SRequest))]⟩) [true, true, true, true, true, true, true, true, true, true, true, true, true, false, false, false, false, false] rfl rfl ?_ A_1 ?_
              · refine TieO.loadY hx3 rfl rfl rfl rfl rfl rfl rfl rfl ?_
                exact TieO.nil (TieS.leaf ⟨rfl, .of rfl rfl⟩)
              refine AllA.cons (σ₁ := ⟨[(0, .own 1000000), (1, .t (tI a)), (2, .t (tI b2)), (3, .fz n2 cs), (8, .t (tI s.1)), (9, .t (tI s2.1)), (37, .own 1000000), (38, .t (tI s2.1)), (39, .own 1000000), (40, .t (tI s2.1)), (41, .t (tI (w64 (s2.1 - 1)))), (42, .own 1000000), (43, .t (tI s2.1)), (44, .t (tI (w64 (s2.1 - 1)))), (45, .pe 1000000 (Int.toNat (w64 (s2.1 - 1))) 4 0), (47, .own 1000000), (48, .t (tI s2.1)), (49, .pe 1000000 (Int.toNat s2.1) 4 0), (50, .agg [.t (tI x4.Source), .t (tI x4.Kind), .t (tI x4.Torque), .t (tI x4.Priority)])], [(1000000, .rows 35 4 s2.2.length (s2.2.map enc_SRequest))]⟩) [true, true, true, true, true, true, true, true, true, false, true, true, true, true, false, false, false, false] rfl rfl ?_ A_4 ?_
              · refine TieO.loadY hx4 rfl rfl rfl rfl rfl rfl rfl rfl ?_
                exact TieO.nil (TieS.leaf ⟨rfl, .of rfl rfl⟩)
              exact AllA.nil
            refine TieO.indexO rfl rfl rfl rfl rfl rfl rfl rfl rfl rfl fun x5 hx5 => ?_
            refine TieO.storeY x4 [tI x4.Source, tI x4.Kind, tI x4.Torque, tI x4.Priority] hx5 rfl rfl rfl rfl rfl rfl rfl rfl rfl rfl rfl rfl fun l2 hl2 => ?_
            refine TieO.nil ?_
            exact TieS.leaf ⟨rfl, .of rfl rfl⟩
          rintro f2 e σ' _ ⟨rfl, hs⟩
          refine TieX.sub hs ?_
          refine TieS.endb ?_
          refine TieS.region ?_
          refine TieO.run 3 rfl ?_
          refine TieO.nil ?_
          exact TieS.leaf ⟨rfl, .of rfl rfl⟩
        · exact TieS.exitOut rfl ⟨(fun h => by cases h), rfl, .of rfl rfl⟩
      rintro (s3 | r) e σ' _ hq
      · obtain ⟨rfl, hs⟩ := hq
        refine TieX.exit rfl (TieX.sub hs ?_)
        refine TieS.endb ?_
        refine TieS.region ?_
        refine TieO.run 3 rfl ?_
        refine TieO.nil ?_
        exact TieS.leaf ⟨rfl, .of rfl rfl⟩
      · exact hq.elim
    · exact TieS.exitOut rfl ⟨(fun h => by cases h), rfl, .of rfl rfl⟩
  rintro (s4 | r) e σ' _ hq
  · obtain ⟨rfl, hs⟩ := hq
    refine TieX.exit rfl (TieX.sub hs ?_)
    exact TieS.leaf ⟨.inr rfl, ⟨[(1000000, 1000000)], _, _, rfl, rfl, rfl, rfl, rfl⟩⟩
  · exact hq.elim
-- slices.swapRangeCmpFunc[magneto/api.Request]
set_option maxRecDepth 100000 in
theorem tie_slices_swapRangeCmpFunc_Request (data : List SRequest) (a : Int) (b2 : Int) (n2 : Int) (n3 : Nat) (cs : List (List Tree)) (cmp : SRequest → SRequest → Option Int) (h2 : ∀ x0 x1, TieF Try.prog n3 ([A_SRequest x0, A_SRequest x1] ++ cs.map T.el) (cmp x0 x1) (fun r => .t (tI r))) : TieG Try.prog 67 [.own 1000000, .t (tI a), .t (tI b2), .t (tI n2), .fz n3 cs] [(1000000, .rows 35 4 data.length (data.map enc_SRequest))] (slices_swapRangeCmpFunc_Request data a b2 n2 cmp) (fun _ => .tup []) (fun r => [(1000000, .rows 35 4 r.length (r.map enc_SRequest))]) := by
  refine TieG.intro htab 38 [] Try.call67 Try.func67 rfl rfl rfl (Nat.le_of_ble_eq_true rfl) fun w0 L => ?_
  refine TieS.seq ?_
  refine TieS.region ?_
  refine TieO.run 1 rfl ?_
  refine TieO.nil ?_
  refine TieS.block ?_
  refine TieS.loop (fun t => ⟨[(0, .own 1000000), (1, .t (tI a)), (2, .t (tI b2)), (3, .t (tI n2)), (10, .t (tI t.1))], [(1000000, .rows 35 4 t.2.length (t.2.map enc_SRequest))]⟩) (fun b e σ' => match b with | .inl t => e = .exit 0 ∧ Sub ⟨[], [(1000000, .rows 35 4 t.2.length (t.2.map enc_SRequest))]⟩ σ' | .inr t => False) (.of rfl rfl) ?_ ?_
  · intro s
    refine TieS.seq ?_
    refine TieS.seq ?_
    refine TieS.region ?_
    refine TieO.run 3 rfl ?_
    refine TieO.nil ?_
    refine TieS.cond rfl ?_ ?_
    · refine TieS.skip ?_
      refine TieS.seq ?_
      refine TieS.block ?_
      refine TieS.bind (Q₁ := fun t e σ' => e = .normal ∧ Sub ⟨[(0, .own 1000000), (1, .t (tI a)), (2, .t (tI b2)), (3, .t (tI n2)), (10, .t (tI s.1))], [(1000000, .rows 35 4 t.length (t.map enc_SRequest))]⟩ σ') ?_ ?_
      · refine TieX.pre fun x hx => ?_
        refine TieX.pre fun x2 hx2 => ?_
        refine TieX.pre fun l hl => ?_
        refine TieS.draws 22 [false, false, false, false, false, false, false, false, false, false, false, false, false, false, false, false, false, false, false, false, false, false, false, false] [true, true, true, true, true, true, true, true, true, true, true, true, true, true, true, true, true, true, true, true, true, true, false, false] ⟨[(0, .own 1000000), (1, .t (tI a)), (2, .t (tI b2)), (3, .t (tI n2)), (10, .t (tI s.1)), (16, .own 1000000), (17, .t (tI a)), (18, .t (tI s.1)), (19, .t (tI (w64 (a + s.1)))), (20, .own 1000000), (21, .t (tI b2)), (22, .t (tI s.1)), (23, .t (tI (w64 (b2 + s.1)))), (24, .own 1000000), (25, .t (tI b2)), (26, .t (tI s.1)), (27, .t (tI (w64 (b2 + s.1)))), (28, .pe 1000000 (Int.toNat (w64 (b2 + s.1))) 4 0), (29, .agg [.t (tI x.Source), .t (tI x.Kind), .t (tI x.Torque), .t (tI x.Priority)]), (30, .own 1000000), (31, .t (tI a)), (32, .t (tI s.1)), (33, .t (tI (w64 (a + s.1)))), (34, .pe 1000000 (Int.toNat (w64 (a + s.1))) 4 0), (35, .agg [.t (tI x2.Source), .t (tI x2.Kind), .t (tI x2.Torque), .t (tI x2.Priority)]), (36, .pe 1000000 (Int.toNat (w64 (a + s.1))) 4 0)], [(1000000, .rows 35 4 l.length (l.map enc_SRequest))]⟩ mixed (fun _ _ _ h => by cases h.1) rfl rfl rfl rfl ?_ ?_
        · refine TieA.have_ (fuel₁ := 2) (l₁ := [true, true, true, true, true, true, true, true, true, true, true, true, true, true, true, true, true, true, true, true, true, true, false, false]) (σ₁ := ⟨[(0, .own 1000000), (1, .t (tI a)), (2, .t (tI b2)), (3, .t (tI n2)), (10, .t (tI s.1)), (16, .own 1000000), (17, .t (tI a)), (18, .t (tI s.1)), (19, .t (tI (w64 (a + s.1)))), (20, .own 1000000), (21, .t (tI b2)), (22, .t (tI s.1)), (23, .t (tI (w64 (b2 + s.1)))), (24, .own 1000000), (25, .t (tI b2)), (26, .t (tI s.1)), (27, .t (tI (w64 (b2 + s.1)))), (28, .pe 1000000 (Int.toNat (w64 (b2 + s.1))) 4 0), (29, .agg [.t (tI x.Source), .t (tI x.Kind), .t (tI x.Torque), .t (tI x.Priority)]), (30, .own 1000000), (31, .t (tI a)), (32, .t (tI s.1)), (33, .t (tI (w64 (a + s.1)))), (34, .pe 1000000 (Int.toNat (w64 (a + s.1))) 4 0), (35, .agg [.t (tI x2.Source), .t (tI x2.Kind), .t (tI x2.Torque), .t (tI x2.Priority)]), (36, .pe 1000000 (Int.toNat (w64 (a + s.1))) 4 0)], [(1000000, .rows 35 4 l.length (l.map enc_SRequest))]⟩) ?_ fun A_3 => ?_
          · exact TieA.done (.of rfl rfl)
          refine TieA.have_ (fuel₁ := 4) (l₁ := [true, true, true, true, true, true, true, true, true, true, true, true, true, true, true, true, true, true, true, true, false, false, false, false]) (σ₁ := ⟨[(0, .own 1000000), (1, .t (tI a)), (2, .t (tI b2)), (3, .t (tI n2)), (10, .t (tI s.1)), (16, .own 1000000), (17, .t (tI a)), (18, .t (tI s.1)), (19, .t (tI (w64 (a + s.1)))), (20, .own 1000000), (21, .t (tI b2)), (22, .t (tI s.1)), (23, .t (tI (w64 (b2 + s.1)))), (24, .own 1000000), (25, .t (tI b2)), (26, .t (tI s.1)), (27, .t (tI (w64 (b2 + s.1)))), (28, .pe 1000000 (Int.toNat (w64 (b2 + s.1))) 4 0), (29, .agg [.t (tI x.Source), .t (tI x.Kind), .t (tI x.Torque), .t (tI x.Priority)]), (30, .own 1000000), (31, .t (tI a)), (32, .t (tI s.1)), (33, .t (tI (w64 (a + s.1)))), (34, .pe 1000000 (Int.toNat (w64 (a + s.1))) 4 0), (35, .agg [.t (tI x2.Source), .t (tI x2.Kind), .t (tI x2.Torque), .t (tI x2.Priority)])], [(1000000, .rows 35 4 s.2.length (s.2.map enc_SRequest))]⟩) ?_ fun A_2 => ?_
          · refine TieA.idx 20 [true, true, true, true, true, true, true, true, true, true, true, true, true, true, true, true, true, true, true, true, true, false, false, false] hx2 rfl rfl rfl rfl rfl rfl (by kernel_rfl) (by kernel_rfl) (by kernel_rfl) rfl rfl rfl rfl rfl rfl ?_
            refine TieA.all [21] (by kernel_rfl) rfl ?_
            refine AllA.cons (σ₁ := ⟨[(0, .own 1000000), (1, .t (tI a)), (2, .t (tI b2)), (3, .t (tI n2)), (10, .t (tI s.1)), (16, .own 1000000), (17, .t (tI a)), (18, .t (tI s.1)), (19, .t (tI (w64 (a + s.1)))), (20, .own 1000000), (21, .t (tI b2)), (22, .t (tI s.1)), (23, .t (tI (w64 (b2 + s.1)))), (24, .own 1000000), (25, .t (tI b2)), (26, .t (tI s.1)), (27, .t (tI (w64 (b2 + s.1)))), (28, .pe 1000000 (Int.toNat (w64 (b2 + s.1))) 4 0), (29, .agg [.t (tI x.Source), .t (tI x.Kind), .t (tI x.Torque), .t (tI x.Priority)]), (30, .own 1000000), (31, .t (tI a)), (32, .t (tI s.1)), (33, .t (tI (w64 (a + s.1)))), (34, .pe 1000000 (Int.toNat (w64 (a + s.1))) 4 0), (35, .agg [.t (tI x2.Source), .t (tI x2.Kind), .t (tI x2.Torque), .t (tI x2.Priority)]), (36, .pe 1000000 (Int.toNat (w64 (a + s.1))) 4 0)], [(1000000, .rows 35 4 l.length (l.map enc_SRequest))]⟩) [true, true, true, true, true, true, true, true, true, true, true, true, true, true, true, true, true, true, true, true, true, true, false, false] rfl rfl ?_ A_3 ?_
            · refine TieO.withH hl (TieO.storeY x [tI x.Source, tI x.Kind, tI x.Torque, tI x.Priority] hx2 rfl rfl rfl rfl rfl rfl rfl rfl rfl rfl rfl rfl (TieO.ifG ?_))
              exact TieO.nil (TieS.leaf ⟨rfl, .of rfl rfl⟩)
            exact AllA.nil
          refine TieA.have_ (fuel₁ := 5) (l₁ := [true, true, true, true, true, true, true, true, true, true, true, true, true, true, true, true, true, true, true, false, false, false, false, false]) (σ₁ := ⟨[(0, .own 1000000), (1, .t (tI a)), (2, .t (tI b2)), (3, .t (tI n2)), (10, .t (tI s.1)), (16, .own 1000000), (17, .t (tI a)), (18, .t (tI s.1)), (19, .t (tI (w64 (a + s.1)))), (20, .own 1000000), (21, .t (tI b2)), (22, .t (tI s.1)), (23, .t (tI (w64 (b2 + s.1)))), (24, .own 1000000), (25, .t (tI b2)), (26, .t (tI s.1)), (27, .t (tI (w64 (b2 + s.1)))), (28, .pe 1000000 (Int.toNat (w64 (b2 + s.1))) 4 0), (29, .agg [.t (tI x.Source), .t (tI x.Kind), .t (tI x.Torque), .t (tI x.Priority)]), (30, .own 1000000), (31, .t (tI a)), (32, .t (tI s.1)), (33, .t (tI (w64 (a + s.1)))), (34, .pe 1000000 (Int.toNat (w64 (a + s.1))) 4 0)], [(1000000, .rows 35 4 s.2.length (s.2.map enc_SRequest))]⟩) ?_ fun A_1 => ?_
          · refine TieA.all [19] (by kernel_rfl) rfl ?_
            refine AllA.cons (σ₁ := ⟨[(0, .own 1000000), (1, .t (tI a)), (2, .t (tI b2)), (3, .t (tI n2)), (10, .t (tI s.1)), (16, .own 1000000), (17, .t (tI a)), (18, .t (tI s.1)), (19, .t (tI (w64 (a + s.1)))), (20, .own 1000000), (21, .t (tI b2)), (22, .t (tI s.1)), (23, .t (tI (w64 (b2 + s.1)))), (24, .own 1000000), (25, .t (tI b2)), (26, .t (tI s.1)), (27, .t (tI (w64 (b2 + s.1)))), (28, .pe 1000000 (Int.toNat (w64 (b2 + s.1))) 4 0), (29, .agg [.t (tI x.Source), .t (tI x.Kind), .t (tI x.Torque), .t (tI x.Priority)]), (30, .own 1000000), (31, .t (tI a)), (32, .t (tI s.1)), (33, .t (tI (w64 (a + s.1)))), (34, .pe 1000000 (Int.toNat (w64 (a + s.1))) 4 0), (35, .agg [.t (tI x2.Source), .t (tI x2.Kind), .t (tI x2.Torque), .t (tI x2.Priority)])], [(1000000, .rows 35 4 s.2.length (s.2.map enc_SRequest))]⟩) [true, true, true, true, true, true, true, true, true, true, true, true, true, true, true, true, true, true, true, true, false, false, false, false] rfl rfl ?_ A_2 ?_
            · refine TieO.loadY hx2 rfl rfl rfl rfl rfl rfl rfl rfl ?_
              exact TieO.nil (TieS.leaf ⟨rfl, .of rfl rfl⟩)
            exact AllA.nil
          refine TieA.have_ (fuel₁ := 5) (l₁ := [true, true, true, true, true, true, true, true, true, true, true, true, true, false, true, true, true, true, true, true, false, false, false, false]) (σ₁ := ⟨[(0, .own 1000000), (1, .t (tI a)), (2, .t (tI b2)), (3, .t (tI n2)), (10, .t (tI s.1)), (16, .own 1000000), (17, .t (tI a)), (18, .t (tI s.1)), (19, .t (tI (w64 (a + s.1)))), (20, .own 1000000), (21, .t (tI b2)), (22, .t (tI s.1)), (23, .t (tI (w64 (b2 + s.1)))), (24, .own 1000000), (25, .t (tI b2)), (26, .t (tI s.1)), (27, .t (tI (w64 (b2 + s.1)))), (28, .pe 1000000 (Int.toNat (w64 (b2 + s.1))) 4 0), (30, .own 1000000), (31, .t (tI a)), (32, .t (tI s.1)), (33, .t (tI (w64 (a + s.1)))), (34, .pe 1000000 (Int.toNat (w64 (a + s.1))) 4 0), (35, .agg [.t (tI x2.Source), .t (tI x2.Kind), .t (tI x2.Torque), .t (tI x2.Priority)])], [(1000000, .rows 35 4 s.2.length (s.2.map enc_SRequest))]⟩) ?_ fun A_4 => ?_
          · refine TieA.all [13] (by kernel_rfl) rfl ?_
            refine AllA.cons (σ₁ := ⟨[(0, .own 1000000), (1, .t (tI a)), (2, .t (tI b2)), (3, .t (tI n2)), (10, .t (tI s.1)), (16, .own 1000000), (17, .t (tI a)), (18, .t (tI s.1)), (19, .t (tI (w64 (a + s.1)))), (20, .own 1000000), (21, .t (tI b2)), (22, .t (tI s.1)), (23, .t (tI (w64 (b2 + s.1)))), (24, .own 1000000), (25, .t (tI b2)), (26, .t (tI s.1)), (27, .t (tI (w64 (b2 + s.1)))), (28, .pe 1000000 (Int.toNat (w64 (b2 + s.1))) 4 0), (29, .agg [.t (tI x.Source), .t (tI x.Kind), .t (tI x.Torque), .t (tI x.Priority)]), (30, .own 1000000), (31, .t (tI a)), (32, .t (tI s.1)), (33, .t (tI (w64 (a + s.1)))), (34, .pe 1000000 (Int.toNat (w64 (a + s.1))) 4 0), (35, .agg [.t (tI x2.Source), .t (tI x2.Kind), .t (tI x2.Torque), .t (tI x2.Priority)])], [(1000000, .rows 35 4 s.2.length (s.2.map enc_SRequest))]⟩) [true, true, true, true, true, true, true, true, true, true, true, true, true, true, true, true, true, true, true, true, false, false, false, false] rfl rfl ?_ A_2 ?_
            · refine TieO.loadY hx rfl rfl rfl rfl rfl rfl rfl rfl ?_
              exact TieO.nil (TieS.leaf ⟨rfl, .of rfl rfl⟩)
            exact AllA.nil
          refine TieA.move 0 [true, false, false, false, false, false, false, false, false, false, false, false, false, false, false, false, false, false, false, false, false, false, false, false] rfl rfl (by first | exact .inl rfl | exact .inr rfl) rfl rfl rfl (by kernel_rfl) (by kernel_rfl) (by kernel_rfl) rfl ?_
          refine TieA.move 1 [true, true, false, false, false, false, false, false, false, false, false, false, false, false, false, false, false, false, false, false, false, false, false, false] rfl rfl (by first | exact .inl rfl | exact .inr rfl) rfl rfl rfl (by kernel_rfl) (by kernel_rfl) (by kernel_rfl) rfl ?_
          refine TieA.move 2 [true, true, true, false, false, false, false, false, false, false, false, false, false, false, false, false, false, false, false, false, false, false, false, false] rfl rfl (by first | exact .inl rfl | exact .inr rfl) rfl rfl rfl (by kernel_rfl) (by kernel_rfl) (by kernel_rfl) rfl ?_
          refine TieA.bin (V := .t (tI (w64 (a + s.1)))) 3 [true, true, true, true, false, false, false, false, false, false, false, false, false, false, false, false, false, false, false, false, false, false, false, false] rfl rfl rfl rfl rfl rfl (by kernel_rfl) (by kernel_rfl) (by kernel_rfl) rfl rfl rfl rfl ?_
          refine TieA.move 4 [true, true, true, true, true, false, false, false, false, false, false, false, false, false, false, false, false, false, false, false, false, false, false, false] rfl rfl (by first | exact .inl rfl | exact .inr rfl) rfl rfl rfl (by kernel_rfl) (by kernel_rfl) (by kernel_rfl) rfl ?_
          refine TieA.move 5 [true, true, true, true, true, true, false, false, false, false, false, false, false, false, false, false, false, false, false, false, false, false, false, false] rfl rfl (by first | exact .inl rfl | exact .inr rfl) rfl rfl rfl (by kernel_rfl) (by kernel_rfl) (by kernel_rfl) rfl ?_
          refine TieA.move 6 [true, true, true, true, true, true, true, false, false, false, false, false, false, false, false, false, false, false, false, false, false, false, false, false] rfl rfl (by first | exact .inl rfl | exact .inr rfl) rfl rfl rfl (by kernel_rfl) (by kernel_rfl) (by kernel_rfl) rfl ?_
          refine TieA.bin (V := .t (tI (w64 (b2 + s.1)))) 7 [true, true, true, true, true, true, true, true, false, false, false, false, false, false, false, false, false, false, false, false, false, false, false, false] rfl rfl rfl rfl rfl rfl (by kernel_rfl) (by kernel_rfl) (by kernel_rfl) rfl rfl rfl rfl ?_
          refine TieA.move 8 [true, true, true, true, true, true, true, true, true, false, false, false, false, false, false, false, false, false, false, false, false, false, false, false] rfl rfl (by first | exact .inl rfl | exact .inr rfl) rfl rfl rfl (by kernel_rfl) (by kernel_rfl) (by kernel_rfl) rfl ?_
          refine TieA.move 9 [true, true, true, true, true, true, true, true, true, true, false, false, false, false, false, false, false, false, false, false, false, false, false, false] rfl rfl (by first | exact .inl rfl | exact .inr rfl) rfl rfl rfl (by kernel_rfl) (by kernel_rfl) (by kernel_rfl) rfl ?_
          refine TieA.move 10 [true, true, true, true, true, true, true, true, true, true, true, false, false, false, false, false, false, false, false, false, false, false, false, false] rfl rfl (by first | exact .inl rfl | exact .inr rfl) rfl rfl rfl (by kernel_rfl) (by kernel_rfl) (by kernel_rfl) rfl ?_
          refine TieA.bin (V := .t (tI (w64 (b2 + s.1)))) 11 [true, true, true, true, true, true, true, true, true, true, true, true, false, false, false, false, false, false, false, false, false, false, false, false] rfl rfl rfl rfl rfl rfl (by kernel_rfl) (by kernel_rfl) (by kernel_rfl) rfl rfl rfl rfl ?_
          refine TieA.idx 12 [true, true, true, true, true, true, true, true, true, true, true, true, true, false, false, false, false, false, false, false, false, false, false, false] hx rfl rfl rfl rfl rfl rfl (by kernel_rfl) (by kernel_rfl) (by kernel_rfl) rfl rfl rfl rfl rfl rfl ?_
          refine TieA.move 14 [true, true, true, true, true, true, true, true, true, true, true, true, true, false, true, false, false, false, false, false, false, false, false, false] rfl rfl (by first | exact .inl rfl | exact .inr rfl) rfl rfl rfl (by kernel_rfl) (by kernel_rfl) (by kernel_rfl) rfl ?_
          refine TieA.move 15 [true, true, true, true, true, true, true, true, true, true, true, true, true, false, true, true, false, false, false, false, false, false, false, false] rfl rfl (by first | exact .inl rfl | exact .inr rfl) rfl rfl rfl (by kernel_rfl) (by kernel_rfl) (by kernel_rfl) rfl ?_
          refine TieA.move 16 [true, true, true, true, true, true, true, true, true, true, true, true, true, false, true, true, true, false, false, false, false, false, false, false] rfl rfl (by first | exact .inl rfl | exact .inr rfl) rfl rfl rfl (by kernel_rfl) (by kernel_rfl) (by kernel_rfl) rfl ?_
          refine TieA.bin (V := .t (tI (w64 (a + s.1)))) 17 [true, true, true, true, true, true, true, true, true, true, true, true, true, false, true, true, true, true, false, false, false, false, false, false] rfl rfl rfl rfl rfl rfl (by kernel_rfl) (by kernel_rfl) (by kernel_rfl) rfl rfl rfl rfl ?_
          refine TieA.idx 18 [true, true, true, true, true, true, true, true, true, true, true, true, true, false, true, true, true, true, true, false, false, false, false, false] hx2 rfl rfl rfl rfl rfl rfl (by kernel_rfl) (by kernel_rfl) (by kernel_rfl) rfl rfl rfl rfl rfl rfl ?_
          refine TieA.all [13, 19] (by kernel_rfl) rfl ?_
          refine AllA.cons (σ₁ := ⟨[(0, .own 1000000), (1, .t (tI a)), (2, .t (tI b2)), (3, .t (tI n2)), (10, .t (tI s.1)), (16, .own 1000000), (17, .t (tI a)), (18, .t (tI s.1)), (19, .t (tI (w64 (a + s.1)))), (20, .own 1000000), (21, .t (tI b2)), (22, .t (tI s.1)), (23, .t (tI (w64 (b2 + s.1)))), (24, .own 1000000), (25, .t (tI b2)), (26, .t (tI s.1)), (27, .t (tI (w64 (b2 + s.1)))), (28, .pe 1000000 (Int.toNat (w64 (b2 + s.1))) 4 0), (29, .agg [.t (tI x.Source), .t (tI x.Kind), .t (tI x.Torque), .t (tI x.Priority)]), (30, .own 1000000), (31, .t (tI a)), (32, .t (tI s.1)), (33, .t (tI (w64 (a + s.1)))), (34, .pe 1000000 (Int.toNat (w64 (a + s.1))) 4 0)], [(1000000, .rows 35 4 s.2.length (s.2.map enc_SRequest))]⟩) [true, true, true, true, true, true, true, true, true, true, true, true, true, true, true, true, true, true, true, false, false, false, false, false] rfl rfl ?_ A_1 ?_
          · refine TieO.loadY hx rfl rfl rfl rfl rfl rfl rfl rfl ?_
            exact TieO.nil (TieS.leaf ⟨rfl, .of rfl rfl⟩)
          refine AllA.cons (σ₁ := ⟨[(0, .own 1000000), (1, .t (tI a)), (2, .t (tI b2)), (3, .t (tI n2)), (10, .t (tI s.1)), (16, .own 1000000), (17, .t (tI a)), (18, .t (tI s.1)), (19, .t (tI (w64 (a + s.1)))), (20, .own 1000000), (21, .t (tI b2)), (22, .t (tI s.1)), (23, .t (tI (w64 (b2 + s.1)))), (24, .own 1000000), (25, .t (tI b2)), (26, .t (tI s.1)), (27, .t (tI (w64 (b2 + s.1)))), (28, .pe 1000000 (Int.toNat (w64 (b2 + s.1))) 4 0), (30, .own 1000000), (31, .t (tI a)), (32, .t (tI s.1)), (33, .t (tI (w64 (a + s.1)))), (34, .pe 1000000 (Int.toNat (w64 (a + s.1))) 4 0), (35, .agg [.t (tI x2.Source), .t (tI x2.Kind), .t (tI x2.Torque), .t (tI x2.Priority)])], [(1000000, .rows 35 4 s.2.length (s.2.map enc_SRequest))]⟩) [true, true, true, true, true, true, true, true, true, true, true, true, true, false, true, true, true, true, true, true, false, false, false, false] rfl rfl ?_ A_4 ?_
          · refine TieO.loadY hx2 rfl rfl rfl rfl rfl rfl rfl rfl ?_
            exact TieO.nil (TieS.leaf ⟨rfl, .of rfl rfl⟩)
          exact AllA.nil
        refine TieO.indexO rfl rfl rfl rfl rfl rfl rfl rfl rfl rfl fun x3 hx3 => ?_
        refine TieO.storeY x2 [tI x2.Source, tI x2.Kind, tI x2.Torque, tI x2.Priority] hx3 rfl rfl rfl rfl rfl rfl rfl rfl rfl rfl rfl rfl fun l2 hl2 => ?_
        refine TieO.nil ?_
        exact TieS.leaf ⟨rfl, .of rfl rfl⟩
      rintro f2 e σ' _ ⟨rfl, hs⟩
      refine TieX.sub hs ?_
      refine TieS.endb ?_
      refine TieS.region ?_
      refine TieO.run 3 rfl ?_
      refine TieO.nil ?_
      exact TieS.leaf ⟨rfl, .of rfl rfl⟩
    · exact TieS.exitOut rfl ⟨(fun h => by cases h), rfl, .of rfl rfl⟩
  rintro (s2 | r) e σ' _ hq
  · obtain ⟨rfl, hs⟩ := hq
    refine TieX.exit rfl (TieX.sub hs ?_)
    exact TieS.leaf ⟨.inr rfl, ⟨[(1000000, 1000000)], _, _, rfl, rfl, rfl, rfl, rfl⟩⟩
  · exact hq.elim
-- slices.rotateCmpFunc[magneto/api.Request]
set_option maxRecDepth 100000 in
theorem tie_slices_rotateCmpFunc_Request (data : List SRequest) (a : Int) (m2 : Int) (b2 : Int) (n2 : Nat) (cs : List (List Tree)) (cmp : SRequest → SRequest → Option Int) (h2 : ∀ x0 x1, TieF Try.prog n2 ([A_SRequest x0, A_SRequest x1] ++ cs.map T.el) (cmp x0 x1) (fun r => .t (tI r))) : TieG Try.prog 66 [.own 1000000, .t (tI a), .t (tI m2), .t (tI b2), .fz n2 cs] [(1000000, .rows 35 4 data.length (data.map enc_SRequest))] (slices_rotateCmpFunc_Request data a m2 b2 cmp) (fun _ => .tup []) (fun r => [(1000000, .rows 35 4 r.length (r.map enc_SRequest))]) := by
  refine TieG.intro htab 58 [] Try.call66 Try.func66 rfl rfl rfl (Nat.le_of_ble_eq_true rfl) fun w0 L => ?_
  refine TieS.seq ?_
  refine TieS.region ?_
  refine TieO.run 4 rfl ?_
  refine TieO.nil ?_
  refine TieS.seq ?_
  refine TieS.region ?_
  refine TieO.run 4 rfl ?_
  refine TieO.nil ?_
  refine TieS.seq ?_
  refine TieS.block ?_
  refine TieS.loop (fun t => ⟨[(0, .own 1000000), (2, .t (tI m2)), (4, .fz n2 cs), (10, .t (tI t.1)), (11, .t (tI t.2.1))], [(1000000, .rows 35 4 t.2.2.length (t.2.2.map enc_SRequest))]⟩) (fun b e σ' => match b with | .inl t => e = .exit 0 ∧ Sub ⟨[(0, .own 1000000), (2, .t (tI m2)), (4, .fz n2 cs), (10, .t (tI t.1))], [(1000000, .rows 35 4 t.2.2.length (t.2.2.map enc_SRequest))]⟩ σ' | .inr t => False) (.of rfl rfl) ?_ ?_
  · intro s
    refine TieS.seq ?_
    refine TieS.seq ?_
    refine TieS.region ?_
    refine TieO.run 3 rfl ?_
    refine TieO.nil ?_
    refine TieS.cond rfl ?_ ?_
    · refine TieS.skip ?_
      refine TieS.block ?_
      refine TieS.seq ?_
      refine TieS.region ?_
      refine TieO.run 3 rfl ?_
      refine TieO.nil ?_
      refine TieS.cond rfl ?_ ?_
      · refine TieS.seq ?_
        refine TieS.region ?_
        refine TieO.run 7 rfl ?_
        refine TieO.callG [(1000000, 1000000)] [] (fun v => ⟨[(0, .own 1000000), (2, .t (tI m2)), (4, .fz n2 cs), (10, .t (tI s.1)), (11, .t (tI s.2.1)), (18, .t (tI s.1)), (19, .t (tI s.2.1)), (20, .t (tB (s.1 != s.2.1))), (21, .t (tI s.1)), (22, .t (tI s.2.1)), (23, .t (tB (decide (s.1 > s.2.1)))), (24, .own 1000000), (25, .t (tI m2)), (26, .t (tI s.1)), (27, .t (tI (w64 (m2 - s.1)))), (28, .t (tI m2)), (29, .t (tI s.2.1)), (30, .fz n2 cs), (31, .tup [])], [(1000000, .rows 35 4 v.length (v.map enc_SRequest))]⟩) (tie_slices_swapRangeCmpFunc_Request s.2.2 (w64 (m2 - s.1)) m2 s.2.1 n2 cs cmp h2) rfl rfl rfl rfl rfl rfl rfl (fun _ => rfl) (fun _ => rfl) (fun _ => rfl) (fun _ => .of rfl rfl) fun v hv => ?_
        refine TieO.nil ?_
        refine TieS.region ?_
        refine TieO.run 4 rfl ?_
        refine TieO.nil ?_
        refine TieS.endb ?_
        exact TieS.leaf ⟨rfl, .of rfl rfl⟩
      · refine TieS.seq ?_
        refine TieS.region ?_
        refine TieO.run 11 rfl ?_
        refine TieO.callG [(1000000, 1000000)] [] (fun v2 => ⟨[(0, .own 1000000), (2, .t (tI m2)), (4, .fz n2 cs), (10, .t (tI s.1)), (11, .t (tI s.2.1)), (18, .t (tI s.1)), (19, .t (tI s.2.1)), (20, .t (tB (s.1 != s.2.1))), (21, .t (tI s.1)), (22, .t (tI s.2.1)), (23, .t (tB (decide (s.1 > s.2.1)))), (35, .own 1000000), (36, .t (tI m2)), (37, .t (tI s.1)), (38, .t (tI (w64 (m2 - s.1)))), (39, .t (tI m2)), (40, .t (tI s.2.1)), (41, .t (tI (w64 (m2 + s.2.1)))), (42, .t (tI s.1)), (43, .t (tI (w64 ((w64 (m2 + s.2.1)) - s.1)))), (44, .t (tI s.1)), (45, .fz n2 cs), (46, .tup [])], [(1000000, .rows 35 4 v2.length (v2.map enc_SRequest))]⟩) (tie_slices_swapRangeCmpFunc_Request s.2.2 (w64 (m2 - s.1)) (w64 ((w64 (m2 + s.2.1)) - s.1)) s.1 n2 cs cmp h2) rfl rfl rfl rfl rfl rfl rfl (fun _ => rfl) (fun _ => rfl) (fun _ => rfl) (fun _ => .of rfl rfl) fun v2 hv2 => ?_
        refine TieO.nil ?_
        refine TieS.region ?_
        refine TieO.run 4 rfl ?_
        refine TieO.nil ?_
        refine TieS.endb ?_
        exact TieS.leaf ⟨rfl, .of rfl rfl⟩
    · exact TieS.exitOut rfl ⟨(fun h => by cases h), rfl, .of rfl rfl⟩
  rintro (s2 | r) e σ' _ hq
  · obtain ⟨rfl, hs⟩ := hq
    refine TieX.exit rfl (TieX.sub hs ?_)
    refine TieS.region ?_
    refine TieO.run 7 rfl ?_
    refine TieO.callG [(1000000, 1000000)] [] (fun v3 => ⟨[(0, .own 1000000), (2, .t (tI m2)), (4, .fz n2 cs), (10, .t (tI s2.1)), (50, .own 1000000), (51, .t (tI m2)), (52, .t (tI s2.1)), (53, .t (tI (w64 (m2 - s2.1)))), (54, .t (tI m2)), (55, .t (tI s2.1)), (56, .fz n2 cs), (57, .tup [])], [(1000000, .rows 35 4 v3.length (v3.map enc_SRequest))]⟩) (tie_slices_swapRangeCmpFunc_Request s2.2.2 (w64 (m2 - s2.1)) m2 s2.1 n2 cs cmp h2) rfl rfl rfl rfl rfl rfl rfl (fun _ => rfl) (fun _ => rfl) (fun _ => rfl) (fun _ => .of rfl rfl) fun v3 hv3 => ?_
    refine TieO.nil ?_
    exact TieS.leaf ⟨.inr rfl, ⟨[(1000000, 1000000)], _, _, rfl, rfl, rfl, rfl, rfl⟩⟩
  · exact hq.elim
-- slices.symMergeCmpFunc[magneto/api.Request]
set_option maxRecDepth 100000 in
set_option maxHeartbeats 4000000 in
theorem tie_slices_symMergeCmpFunc_Request (fu : Nat) : ∀ (data : List SRequest) (a : Int) (m2 : Int) (b2 : Int) (n2 : Nat) (cs : List (List Tree)) (cmp : SRequest → SRequest → Option Int) (h2 : ∀ x0 x1, TieF Try.prog n2 ([A_SRequest x0, A_SRequest x1] ++ cs.map T.el) (cmp x0 x1) (fun r => .t (tI r))), TieG Try.prog 63 [.own 1000000, .t (tI a), .t (tI m2), .t (tI b2), .fz n2 cs] [(1000000, .rows 35 4 data.length (data.map enc_SRequest))] (slices_symMergeCmpFunc_Request fu data a m2 b2 cmp) (fun _ => .tup []) (fun r => [(1000000, .rows 35 4 r.length (r.map enc_SRequest))]) := by
  induction fu with
  | zero => exact fun _ _ _ _ _ _ _ _ => ⟨Try.call63, fun _ hr => by have hr2 : (none : Option (List SRequest)) = some _ := hr; cases hr2⟩
  | succ fu ih =>
    rw [show slices_symMergeCmpFunc_Request (fu + 1) = slices_symMergeCmpFunc_Request_s (slices_symMergeCmpFunc_Request fu) from rfl]
    generalize slices_symMergeCmpFunc_Request fu = rc at ih ⊢
    intro data a m2 b2 n2 cs cmp h2
    refine TieG.intro htab 220 [] Try.call63 Try.func63 rfl rfl rfl (Nat.le_of_ble_eq_true rfl) fun w0 L => ?_
    refine TieS.seq ?_
    refine TieS.seq ?_
    refine TieS.region ?_
    refine TieO.run 4 rfl ?_
    refine TieO.nil ?_
    refine TieS.cond rfl ?_ ?_
    · refine TieS.seq ?_
      refine TieS.region ?_
      refine TieO.run 2 rfl ?_
      refine TieO.nil ?_
      refine TieS.seq ?_
      refine TieS.region ?_
      refine TieO.run 2 rfl ?_
      refine TieO.nil ?_
      refine TieS.seq ?_
      refine TieS.block ?_
      refine TieS.loop (fun t => ⟨[(0, .own 1000000), (1, .t (tI a)), (4, .fz n2 cs), (10, .t (tI t.1)), (11, .t (tI t.2))], [(1000000, .rows 35 4 data.length (data.map enc_SRequest))]⟩) (fun b e σ' => match b with | .inl t => e = .exit 0 ∧ Sub ⟨[(0, .own 1000000), (1, .t (tI a)), (10, .t (tI t.1))], [(1000000, .rows 35 4 data.length (data.map enc_SRequest))]⟩ σ' | .inr t => False) (.of rfl rfl) ?_ ?_
      · intro s
        refine TieS.seq ?_
        refine TieS.seq ?_
        refine TieS.region ?_
        refine TieO.run 3 rfl ?_
        refine TieO.nil ?_
        refine TieS.cond rfl ?_ ?_
        · refine TieS.skip ?_
          refine TieS.block ?_
          refine TieS.seq ?_
          refine TieS.region ?_
          refine TieO.run 7 rfl ?_
          refine TieO.nil ?_
          refine TieS.seq ?_
          refine TieX.pre fun x hx => ?_
          refine TieX.pre fun x2 hx2 => ?_
          refine TieX.pre fun v hv => ?_
          refine TieS.draw 11 [.fz n2 cs, .own 1000000, .t (tI (w64 (bitShr .u64 (IntKind.u64.wrap (w64 (s.1 + s.2))) 1))), .pe 1000000 (Int.toNat (w64 (bitShr .u64 (IntKind.u64.wrap (w64 (s.1 + s.2))) 1))) 4 0, .agg [.t (tI x.Source), .t (tI x.Kind), .t (tI x.Torque), .t (tI x.Priority)], .own 1000000, .t (tI a), .pe 1000000 (Int.toNat a) 4 0, .agg [.t (tI x2.Source), .t (tI x2.Kind), .t (tI x2.Torque), .t (tI x2.Priority)], .t (tI v), .t (tB (decide (v < 0)))] [(0, .own 1000000), (1, .t (tI a)), (4, .fz n2 cs), (10, .t (tI s.1)), (11, .t (tI s.2)), (12, .t (tI (w64 (bitShr .u64 (IntKind.u64.wrap (w64 (s.1 + s.2))) 1))))] [(1000000, .rows 35 4 data.length (data.map enc_SRequest))] mixed (.of rfl rfl) rfl rfl rfl rfl (.cons (.quiet rfl rfl rfl) (.cons (.quiet rfl rfl rfl) (.cons (.quiet rfl rfl rfl) (.cons (.indexO (sz := 4) hx rfl rfl rfl rfl rfl rfl rfl rfl) (.cons (.loadY hx rfl rfl rfl rfl rfl rfl) (.cons (.quiet rfl rfl rfl) (.cons (.quiet rfl rfl rfl) (.cons (.indexO (sz := 4) hx2 rfl rfl rfl rfl rfl rfl rfl rfl) (.cons (.loadY hx2 rfl rfl rfl rfl rfl rfl) (.cons (.callV (h2 x x2) hv rfl rfl rfl rfl) (.cons (.quiet rfl rfl rfl) (.nil)))))))))))) ?_
          refine TieO.nil ?_
          refine TieS.cond rfl ?_ ?_
          · refine TieS.region ?_
            refine TieO.run 3 rfl ?_
            refine TieO.nil ?_
            refine TieS.endb ?_
            exact TieS.leaf ⟨rfl, .of rfl rfl⟩
          · refine TieS.region ?_
            refine TieO.run 2 rfl ?_
            refine TieO.nil ?_
            refine TieS.endb ?_
            exact TieS.leaf ⟨rfl, .of rfl rfl⟩
        · exact TieS.exitOut rfl ⟨(fun h => by cases h), rfl, .of rfl rfl⟩
      rintro (s2 | r) e σ' _ hq
      · obtain ⟨rfl, hs⟩ := hq
        refine TieX.exit rfl (TieX.sub hs ?_)
        refine TieS.seq ?_
        refine TieS.seq ?_
        refine TieS.region ?_
        refine TieO.run 2 rfl ?_
        refine TieO.nil ?_
        refine TieS.block ?_
        refine TieS.loop (fun t => ⟨[(0, .own 1000000), (10, .t (tI s2.1)), (13, .t (tI t.1))], [(1000000, .rows 35 4 t.2.length (t.2.map enc_SRequest))]⟩) (fun b e σ' => match b with | .inl t => e = .exit 2 ∧ Sub ⟨[], [(1000000, .rows 35 4 t.2.length (t.2.map enc_SRequest))]⟩ σ' | .inr t => False) (.of rfl rfl) ?_ ?_
        · intro s3
          refine TieS.seq ?_
          refine TieS.seq ?_
          refine TieS.region ?_
          refine TieO.run 4 rfl ?_
          refine TieO.nil ?_
          refine TieS.cond rfl ?_ ?_
          · refine TieS.skip ?_
            refine TieS.seq ?_
            refine TieS.block ?_
            refine TieS.bind (Q₁ := fun t e σ' => e = .normal ∧ Sub ⟨[(0, .own 1000000), (10, .t (tI s2.1)), (13, .t (tI s3.1))], [(1000000, .rows 35 4 t.length (t.map enc_SRequest))]⟩ σ') ?_ ?_
            · refine TieX.pre fun x3 hx3 => ?_
              refine TieX.pre fun x4 hx4 => ?_
              refine TieX.pre fun l hl => ?_
              refine TieS.draws 16 [false, false, false, false, false, false, false, false, false, false, false, false, false, false, false, false, false, false] [true, true, true, true, true, true, true, true, true, true, true, true, true, true, true, true, false, false] ⟨[(0, .own 1000000), (10, .t (tI s2.1)), (13, .t (tI s3.1)), (61, .own 1000000), (62, .t (tI s3.1)), (63, .own 1000000), (64, .t (tI s3.1)), (65, .t (tI (w64 (s3.1 + 1)))), (66, .own 1000000), (67, .t (tI s3.1)), (68, .t (tI (w64 (s3.1 + 1)))), (69, .pe 1000000 (Int.toNat (w64 (s3.1 + 1))) 4 0), (70, .agg [.t (tI x3.Source), .t (tI x3.Kind), .t (tI x3.Torque), .t (tI x3.Priority)]), (71, .own 1000000), (72, .t (tI s3.1)), (73, .pe 1000000 (Int.toNat s3.1) 4 0), (74, .agg [.t (tI x4.Source), .t (tI x4.Kind), .t (tI x4.Torque), .t (tI x4.Priority)]), (75, .pe 1000000 (Int.toNat s3.1) 4 0)], [(1000000, .rows 35 4 l.length (l.map enc_SRequest))]⟩ mixed (fun _ _ _ h => by cases h.1) rfl rfl rfl rfl ?_ ?_
              · refine TieA.have_ (fuel₁ := 2) (l₁ := [true, true, true, true, true, true, true, true, true, true, true, true, true, true, true, true, false, false]) (σ₁ := ⟨[(0, .own 1000000), (10, .t (tI s2.1)), (13, .t (tI s3.1)), (61, .own 1000000), (62, .t (tI s3.1)), (63, .own 1000000), (64, .t (tI s3.1)), (65, .t (tI (w64 (s3.1 + 1)))), (66, .own 1000000), (67, .t (tI s3.1)), (68, .t (tI (w64 (s3.1 + 1)))), (69, .pe 1000000 (Int.toNat (w64 (s3.1 + 1))) 4 0), (70, .agg [.t (tI x3.Source), .t (tI x3.Kind), .t (tI x3.Torque), .t (tI x3.Priority)]), (71, .own 1000000), (72, .t (tI s3.1)), (73, .pe 1000000 (Int.toNat s3.1) 4 0), (74, .agg [.t (tI x4.Source), .t (tI x4.Kind), .t (tI x4.Torque), .t (tI x4.Priority)]), (75, .pe 1000000 (Int.toNat s3.1) 4 0)], [(1000000, .rows 35 4 l.length (l.map enc_SRequest))]⟩) ?_ fun A_3 => ?_
                · exact TieA.done (.of rfl rfl)
                refine TieA.have_ (fuel₁ := 4) (l₁ := [true, true, true, true, true, true, true, true, true, true, true, true, true, true, false, false, false, false]) (σ₁ := ⟨[(0, .own 1000000), (10, .t (tI s2.1)), (13, .t (tI s3.1)), (61, .own 1000000), (62, .t (tI s3.1)), (63, .own 1000000), (64, .t (tI s3.1)), (65, .t (tI (w64 (s3.1 + 1)))), (66, .own 1000000), (67, .t (tI s3.1)), (68, .t (tI (w64 (s3.1 + 1)))), (69, .pe 1000000 (Int.toNat (w64 (s3.1 + 1))) 4 0), (70, .agg [.t (tI x3.Source), .t (tI x3.Kind), .t (tI x3.Torque), .t (tI x3.Priority)]), (71, .own 1000000), (72, .t (tI s3.1)), (73, .pe 1000000 (Int.toNat s3.1) 4 0), (74, .agg [.t (tI x4.Source), .t (tI x4.Kind), .t (tI x4.Torque), .t (tI x4.Priority)])], [(1000000, .rows 35 4 s3.2.length (s3.2.map enc_SRequest))]⟩) ?_ fun A_2 => ?_
                · refine TieA.idx 14 [true, true, true, true, true, true, true, true, true, true, true, true, true, true, true, false, false, false] hx4 rfl rfl rfl rfl rfl rfl (by kernel_rfl) (by kernel_rfl) (by kernel_rfl) rfl rfl rfl rfl rfl rfl ?_
                  refine TieA.all [15] (by kernel_rfl) rfl ?_
                  refine AllA.cons (σ₁ := ⟨[(0, .own 1000000), (10, .t (tI s2.1)), (13, .t (tI s3.1)), (61, .own 1000000), (62, .t (tI s3.1)), (63, .own 1000000), (64, .t (tI s3.1)), (65, .t (tI (w64 (s3.1 + 1)))), (66, .own 1000000), (67, .t (tI s3.1)), (68, .t (tI (w64 (s3.1 + 1)))), (69, .pe 1000000 (Int.toNat (w64 (s3.1 + 1))) 4 0), (70, .agg [.t (tI x3.Source), .t (tI x3.Kind), .t (tI x3.Torque), .t (tI x3.Priority)]), (71, .own 1000000), (72, .t (tI s3.1)), (73, .pe 1000000 (Int.toNat s3.1) 4 0), (74, .agg [.t (tI x4.Source), .t (tI x4.Kind), .t (tI x4.Torque), .t (tI x4.Priority)]), (75, .pe 1000000 (Int.toNat s3.1) 4 0)], [(1000000, .rows 35 4 l.length (l.map enc_SRequest))]⟩) [true, true, true, true, true, true, true, true, true, true, true, true, true, true, true, true, false, false] rfl rfl ?_ A_3 ?_
                  · refine TieO.withH hl (TieO.storeY x3 [tI x3.Source, tI x3.Kind, tI x3.Torque, tI x3.Priority] hx4 rfl rfl rfl rfl rfl rfl rfl rfl rfl rfl rfl rfl (TieO.ifG ?_))
                    exact TieO.nil (TieS.leaf ⟨rfl, .of rfl rfl⟩)
                  exact AllA.nil
                refine TieA.have_ (fuel₁ := 5) (l₁ := [true, true, true, true, true, true, true, true, true, true, true, true, true, false, false, false, false, false]) (σ₁ := ⟨[(0, .own 1000000), (10, .t (tI s2.1)), (13, .t (tI s3.1)), (61, .own 1000000), (62, .t (tI s3.1)), (63, .own 1000000), (64, .t (tI s3.1)), (65, .t (tI (w64 (s3.1 + 1)))), (66, .own 1000000), (67, .t (tI s3.1)), (68, .t (tI (w64 (s3.1 + 1)))), (69, .pe 1000000 (Int.toNat (w64 (s3.1 + 1))) 4 0), (70, .agg [.t (tI x3.Source), .t (tI x3.Kind), .t (tI x3.Torque), .t (tI x3.Priority)]), (71, .own 1000000), (72, .t (tI s3.1)), (73, .pe 1000000 (Int.toNat s3.1) 4 0)], [(1000000, .rows 35 4 s3.2.length (s3.2.map enc_SRequest))]⟩) ?_ fun A_1 => ?_
                · refine TieA.all [13] (by kernel_rfl) rfl ?_
                  refine AllA.cons (σ₁ := ⟨[(0, .own 1000000), (10, .t (tI s2.1)), (13, .t (tI s3.1)), (61, .own 1000000), (62, .t (tI s3.1)), (63, .own 1000000), (64, .t (tI s3.1)), (65, .t (tI (w64 (s3.1 + 1)))), (66, .own 1000000), (67, .t (tI s3.1)), (68, .t (tI (w64 (s3.1 + 1)))), (69, .pe 1000000 (Int.toNat (w64 (s3.1 + 1))) 4 0), (70, .agg [.t (tI x3.Source), .t (tI x3.Kind), .t (tI x3.Torque), .t (tI x3.Priority)]), (71, .own 1000000), (72, .t (tI s3.1)), (73, .pe 1000000 (Int.toNat s3.1) 4 0), (74, .agg [.t (tI x4.Source), .t (tI x4.Kind), .t (tI x4.Torque), .t (tI x4.Priority)])], [(1000000, .rows 35 4 s3.2.length (s3.2.map enc_SRequest))]⟩) [true, true, true, true, true, true, true, true, true, true, true, true, true, true, false, false, false, false] rfl rfl ?_ A_2 ?_
                  · refine TieO.loadY hx4 rfl rfl rfl rfl rfl rfl rfl rfl ?_
                    exact TieO.nil (TieS.leaf ⟨rfl, .of rfl rfl⟩)
                  exact AllA.nil
                refine TieA.have_ (fuel₁ := 5) (l₁ := [true, true, true, true, true, true, true, true, true, false, true, true, true, true, false, false, false, false]) (σ₁ := ⟨[(0, .own 1000000), (10, .t (tI s2.1)), (13, .t (tI s3.1)), (61, .own 1000000), (62, .t (tI s3.1)), (63, .own 1000000), (64, .t (tI s3.1)), (65, .t (tI (w64 (s3.1 + 1)))), (66, .own 1000000), (67, .t (tI s3.1)), (68, .t (tI (w64 (s3.1 + 1)))), (69, .pe 1000000 (Int.toNat (w64 (s3.1 + 1))) 4 0), (71, .own 1000000), (72, .t (tI s3.1)), (73, .pe 1000000 (Int.toNat s3.1) 4 0), (74, .agg [.t (tI x4.Source), .t (tI x4.Kind), .t (tI x4.Torque), .t (tI x4.Priority)])], [(1000000, .rows 35 4 s3.2.length (s3.2.map enc_SRequest))]⟩) ?_ fun A_4 => ?_
                · refine TieA.all [9] (by kernel_rfl) rfl ?_
                  refine AllA.cons (σ₁ := ⟨[(0, .own 1000000), (10, .t (tI s2.1)), (13, .t (tI s3.1)), (61, .own 1000000), (62, .t (tI s3.1)), (63, .own 1000000), (64, .t (tI s3.1)), (65, .t (tI (w64 (s3.1 + 1)))), (66, .own 1000000), (67, .t (tI s3.1)), (68, .t (tI (w64 (s3.1 + 1)))), (69, .pe 1000000 (Int.toNat (w64 (s3.1 + 1))) 4 0), (70, .agg [.t (tI x3.Source), .t (tI x3.Kind), .t (tI x3.Torque), .t (tI x3.Priority)]), (71, .own 1000000), (72, .t (tI s3.1)), (73, .pe 1000000 (Int.toNat s3.1) 4 0), (74, .agg [.t (tI x4.Source), .t (tI x4.Kind), .t (tI x4.Torque), .t (tI x4.Priority)])], [(1000000, .rows 35 4 s3.2.length (s3.2.map enc_SRequest))]⟩) [true, true, true, true, true, true, true, true, true, true, true, true, true, true, false, false, false, false] rfl rfl ?_ A_2 ?_
                  · refine TieO.loadY hx3 rfl rfl rfl rfl rfl rfl rfl rfl ?_
                    exact TieO.nil (TieS.leaf ⟨rfl, .of rfl rfl⟩)
                  exact AllA.nil
                refine TieA.move 0 [true, false, false, false, false, false, false, false, false, false, false, false, false, false, false, false, false, false] rfl rfl (by first | exact .inl rfl | exact .inr rfl) rfl rfl rfl (by kernel_rfl) (by kernel_rfl) (by kernel_rfl) rfl ?_
                refine TieA.move 1 [true, true, false, false, false, false, false, false, false, false, false, false, false, false, false, false, false, false] rfl rfl (by first | exact .inl rfl | exact .inr rfl) rfl rfl rfl (by kernel_rfl) (by kernel_rfl) (by kernel_rfl) rfl ?_
                refine TieA.move 2 [true, true, true, false, false, false, false, false, false, false, false, false, false, false, false, false, false, false] rfl rfl (by first | exact .inl rfl | exact .inr rfl) rfl rfl rfl (by kernel_rfl) (by kernel_rfl) (by kernel_rfl) rfl ?_
                refine TieA.move 3 [true, true, true, true, false, false, false, false, false, false, false, false, false, false, false, false, false, false] rfl rfl (by first | exact .inl rfl | exact .inr rfl) rfl rfl rfl (by kernel_rfl) (by kernel_rfl) (by kernel_rfl) rfl ?_
                refine TieA.bin (V := .t (tI (w64 (s3.1 + 1)))) 4 [true, true, true, true, true, false, false, false, false, false, false, false, false, false, false, false, false, false] rfl rfl rfl rfl rfl rfl (by kernel_rfl) (by kernel_rfl) (by kernel_rfl) rfl rfl rfl rfl ?_
                refine TieA.move 5 [true, true, true, true, true, true, false, false, false, false, false, false, false, false, false, false, false, false] rfl rfl (by first | exact .inl rfl | exact .inr rfl) rfl rfl rfl (by kernel_rfl) (by kernel_rfl) (by kernel_rfl) rfl ?_
                refine TieA.move 6 [true, true, true, true, true, true, true, false, false, false, false, false, false, false, false, false, false, false] rfl rfl (by first | exact .inl rfl | exact .inr rfl) rfl rfl rfl (by kernel_rfl) (by kernel_rfl) (by kernel_rfl) rfl ?_
                refine TieA.bin (V := .t (tI (w64 (s3.1 + 1)))) 7 [true, true, true, true, true, true, true, true, false, false, false, false, false, false, false, false, false, false] rfl rfl rfl rfl rfl rfl (by kernel_rfl) (by kernel_rfl) (by kernel_rfl) rfl rfl rfl rfl ?_
                refine TieA.idx 8 [true, true, true, true, true, true, true, true, true, false, false, false, false, false, false, false, false, false] hx3 rfl rfl rfl rfl rfl rfl (by kernel_rfl) (by kernel_rfl) (by kernel_rfl) rfl rfl rfl rfl rfl rfl ?_
                refine TieA.move 10 [true, true, true, true, true, true, true, true, true, false, true, false, false, false, false, false, false, false] rfl rfl (by first | exact .inl rfl | exact .inr rfl) rfl rfl rfl (by kernel_rfl) (by kernel_rfl) (by kernel_rfl) rfl ?_
                refine TieA.move 11 [true, true, true, true, true, true, true, true, true, false, true, true, false, false, false, false, false, false] rfl rfl (by first | exact .inl rfl | exact .inr rfl) rfl rfl rfl (by kernel_rfl) (by kernel_rfl) (by kernel_rfl) rfl ?_
                refine TieA.idx 12 [true, true, true, true, true, true, true, true, true, false, true, true, true, false, false, false, false, false] hx4 rfl rfl rfl rfl rfl rfl (by kernel_rfl) (by kernel_rfl) (by kernel_rfl) rfl rfl rfl rfl rfl rfl ?_
                refine TieA.all [9, 13] (by kernel_rfl) rfl ?_
                refine AllA.cons (σ₁ := ⟨[(0, .own 1000000), (10, .t (tI s2.1)), (13, .t (tI s3.1)), (61, .own 1000000), (62, .t (tI s3.1)), (63, .own 1000000), (64, .t (tI s3.1)), (65, .t (tI (w64 (s3.1 + 1)))), (66, .own 1000000), (67, .t (tI s3.1)), (68, .t (tI (w64 (s3.1 + 1)))), (69, .pe 1000000 (Int.toNat (w64 (s3.1 + 1))) 4 0), (70, .agg [.t (tI x3.Source), .t (tI x3.Kind), .t (tI x3.Torque), .t (tI x3.Priority)]), (71, .own 1000000), (72, .t (tI s3.1)), (73, .pe 1000000 (Int.toNat s3.1) 4 0)], [(1000000, .rows 35 4 s3.2.length (s3.2.map enc_SRequest))]⟩) [true, true, true, true, true, true, true, true, true, true, true, true, true, false, false, false, false, false] rfl rfl ?_ A_1 ?_
                · refine TieO.loadY hx3 rfl rfl rfl rfl rfl rfl rfl rfl ?_
                  exact TieO.nil (TieS.leaf ⟨rfl, .of rfl rfl⟩)
                refine AllA.cons (σ₁ := ⟨[(0, .own 1000000), (10, .t (tI s2.1)), (13, .t (tI s3.1)), (61, .own 1000000), (62, .t (tI s3.1)), (63, .own 1000000), (64, .t (tI s3.1)), (65, .t (tI (w64 (s3.1 + 1)))), (66, .own 1000000), (67, .t (tI s3.1)), (68, .t (tI (w64 (s3.1 + 1)))), (69, .pe 1000000 (Int.toNat (w64 (s3.1 + 1))) 4 0), (71, .own 1000000), (72, .t (tI s3.1)), (73, .pe 1000000 (Int.toNat s3.1) 4 0), (74, .agg [.t (tI x4.Source), .t (tI x4.Kind), .t (tI x4.Torque), .t (tI x4.Priority)])], [(1000000, .rows 35 4 s3.2.length (s3.2.map enc_SRequest))]⟩) [true, true, true, true, true, true, true, true, true, false, true, true, true, true, false, false, false, false] rfl rfl ?_ A_4 ?_
                · refine TieO.loadY hx4 rfl rfl rfl rfl rfl rfl rfl rfl ?_
                  exact TieO.nil (TieS.leaf ⟨rfl, .of rfl rfl⟩)
                exact AllA.nil
              refine TieO.indexO rfl rfl rfl rfl rfl rfl rfl rfl rfl rfl fun x5 hx5 => ?_
              refine TieO.storeY x4 [tI x4.Source, tI x4.Kind, tI x4.Torque, tI x4.Priority] hx5 rfl rfl rfl rfl rfl rfl rfl rfl rfl rfl rfl rfl fun l2 hl2 => ?_
              refine TieO.nil ?_
              exact TieS.leaf ⟨rfl, .of rfl rfl⟩
            rintro f2 e σ' _ ⟨rfl, hs⟩
            refine TieX.sub hs ?_
            refine TieS.endb ?_
            refine TieS.region ?_
            refine TieO.run 3 rfl ?_
            refine TieO.nil ?_
            exact TieS.leaf ⟨rfl, .of rfl rfl⟩
          · exact TieS.exitOut rfl ⟨(fun h => by cases h), rfl, .of rfl rfl⟩
        rintro (s4 | r) e σ' _ hq
        · obtain ⟨rfl, hs⟩ := hq
          refine TieX.exit rfl (TieX.sub hs ?_)
          exact TieS.ret ⟨.inl rfl, ⟨[(1000000, 1000000)], _, _, rfl, rfl, rfl, rfl, rfl⟩⟩
        · exact hq.elim
      · exact hq.elim
    · refine TieS.skip ?_
      refine TieS.seq ?_
      refine TieS.seq ?_
      refine TieS.region ?_
      refine TieO.run 4 rfl ?_
      refine TieO.nil ?_
      refine TieS.cond rfl ?_ ?_
      · refine TieS.seq ?_
        refine TieS.region ?_
        refine TieO.run 2 rfl ?_
        refine TieO.nil ?_
        refine TieS.seq ?_
        refine TieS.region ?_
        refine TieO.run 2 rfl ?_
        refine TieO.nil ?_
        refine TieS.seq ?_
        refine TieS.block ?_
        refine TieS.loop (fun t => ⟨[(0, .own 1000000), (2, .t (tI m2)), (4, .fz n2 cs), (14, .t (tI t.1)), (15, .t (tI t.2))], [(1000000, .rows 35 4 data.length (data.map enc_SRequest))]⟩) (fun b e σ' => match b with | .inl t => e = .exit 4 ∧ Sub ⟨[(0, .own 1000000), (2, .t (tI m2)), (14, .t (tI t.1))], [(1000000, .rows 35 4 data.length (data.map enc_SRequest))]⟩ σ' | .inr t => False) (.of rfl rfl) ?_ ?_
        · intro s5
          refine TieS.seq ?_
          refine TieS.seq ?_
          refine TieS.region ?_
          refine TieO.run 3 rfl ?_
          refine TieO.nil ?_
          refine TieS.cond rfl ?_ ?_
          · refine TieS.skip ?_
            refine TieS.block ?_
            refine TieS.seq ?_
            refine TieS.region ?_
            refine TieO.run 7 rfl ?_
            refine TieO.nil ?_
            refine TieS.seq ?_
            refine TieX.pre fun x6 hx6 => ?_
            refine TieX.pre fun x7 hx7 => ?_
            refine TieX.pre fun v2 hv2 => ?_
            refine TieS.draw 12 [.fz n2 cs, .own 1000000, .t (tI m2), .pe 1000000 (Int.toNat m2) 4 0, .agg [.t (tI x6.Source), .t (tI x6.Kind), .t (tI x6.Torque), .t (tI x6.Priority)], .own 1000000, .t (tI (w64 (bitShr .u64 (IntKind.u64.wrap (w64 (s5.1 + s5.2))) 1))), .pe 1000000 (Int.toNat (w64 (bitShr .u64 (IntKind.u64.wrap (w64 (s5.1 + s5.2))) 1))) 4 0, .agg [.t (tI x7.Source), .t (tI x7.Kind), .t (tI x7.Torque), .t (tI x7.Priority)], .t (tI v2), .t (tB (decide (v2 < 0))), .t (tB (!(decide (v2 < 0))))] [(0, .own 1000000), (2, .t (tI m2)), (4, .fz n2 cs), (14, .t (tI s5.1)), (15, .t (tI s5.2)), (16, .t (tI (w64 (bitShr .u64 (IntKind.u64.wrap (w64 (s5.1 + s5.2))) 1))))] [(1000000, .rows 35 4 data.length (data.map enc_SRequest))] mixed (.of rfl rfl) rfl rfl rfl rfl (.cons (.quiet rfl rfl rfl) (.cons (.quiet rfl rfl rfl) (.cons (.quiet rfl rfl rfl) (.cons (.indexO (sz := 4) hx6 rfl rfl rfl rfl rfl rfl rfl rfl) (.cons (.loadY hx6 rfl rfl rfl rfl rfl rfl) (.cons (.quiet rfl rfl rfl) (.cons (.quiet rfl rfl rfl) (.cons (.indexO (sz := 4) hx7 rfl rfl rfl rfl rfl rfl rfl rfl) (.cons (.loadY hx7 rfl rfl rfl rfl rfl rfl) (.cons (.callV (h2 x6 x7) hv2 rfl rfl rfl rfl) (.cons (.quiet rfl rfl rfl) (.cons (.quiet rfl rfl rfl) (.nil))))))))))))) ?_
            refine TieO.nil ?_
            refine TieS.cond rfl ?_ ?_
            · refine TieS.region ?_
              refine TieO.run 3 rfl ?_
              refine TieO.nil ?_
              refine TieS.endb ?_
              exact TieS.leaf ⟨rfl, .of rfl rfl⟩
            · refine TieS.region ?_
              refine TieO.run 2 rfl ?_
              refine TieO.nil ?_
              refine TieS.endb ?_
              exact TieS.leaf ⟨rfl, .of rfl rfl⟩
          · exact TieS.exitOut rfl ⟨(fun h => by cases h), rfl, .of rfl rfl⟩
        rintro (s6 | r) e σ' _ hq
        · obtain ⟨rfl, hs⟩ := hq
          refine TieX.exit rfl (TieX.sub hs ?_)
          refine TieS.seq ?_
          refine TieS.seq ?_
          refine TieS.region ?_
          refine TieO.run 2 rfl ?_
          refine TieO.nil ?_
          refine TieS.block ?_
          refine TieS.loop (fun t => ⟨[(0, .own 1000000), (14, .t (tI s6.1)), (17, .t (tI t.1))], [(1000000, .rows 35 4 t.2.length (t.2.map enc_SRequest))]⟩) (fun b e σ' => match b with | .inl t => e = .exit 6 ∧ Sub ⟨[], [(1000000, .rows 35 4 t.2.length (t.2.map enc_SRequest))]⟩ σ' | .inr t => False) (.of rfl rfl) ?_ ?_
          · intro s7
            refine TieS.seq ?_
            refine TieS.seq ?_
            refine TieS.region ?_
            refine TieO.run 3 rfl ?_
            refine TieO.nil ?_
            refine TieS.cond rfl ?_ ?_
            · refine TieS.skip ?_
              refine TieS.seq ?_
              refine TieS.block ?_
              refine TieS.bind (Q₁ := fun t e σ' => e = .normal ∧ Sub ⟨[(0, .own 1000000), (14, .t (tI s6.1)), (17, .t (tI s7.1))], [(1000000, .rows 35 4 t.length (t.map enc_SRequest))]⟩ σ') ?_ ?_
              · refine TieX.pre fun x8 hx8 => ?_
                refine TieX.pre fun x9 hx9 => ?_
                refine TieX.pre fun l3 hl3 => ?_
                refine TieS.draws 16 [false, false, false, false, false, false, false, false, false, false, false, false, false, false, false, false, false, false] [true, true, true, true, true, true, true, true, true, true, true, true, true, true, true, true, false, false] ⟨[(0, .own 1000000), (14, .t (tI s6.1)), (17, .t (tI s7.1)), (113, .own 1000000), (114, .t (tI s7.1)), (115, .own 1000000), (116, .t (tI s7.1)), (117, .t (tI (w64 (s7.1 - 1)))), (118, .own 1000000), (119, .t (tI s7.1)), (120, .t (tI (w64 (s7.1 - 1)))), (121, .pe 1000000 (Int.toNat (w64 (s7.1 - 1))) 4 0), (122, .agg [.t (tI x8.Source), .t (tI x8.Kind), .t (tI x8.Torque), .t (tI x8.Priority)]), (123, .own 1000000), (124, .t (tI s7.1)), (125, .pe 1000000 (Int.toNat s7.1) 4 0), (126, .agg [.t (tI x9.Source), .t (tI x9.Kind), .t (tI x9.Torque), .t (tI x9.Priority)]), (127, .pe 1000000 (Int.toNat s7.1) 4 0)], [(1000000, .rows 35 4 l3.length (l3.map enc_SRequest))]⟩ mixed (fun _ _ _ h => by cases h.1) rfl rfl rfl rfl ?_ ?_
                · refine TieA.have_ (fuel₁ := 2) (l₁ := [true, true, true, true, true, true, true, true, true, true, true, true, true, true, true, true, false, false]) (σ₁ := ⟨[(0, .own 1000000), (14, .t (tI s6.1)), (17, .t (tI s7.1)), (113, .own 1000000), (114, .t (tI s7.1)), (115, .own 1000000), (116, .t (tI s7.1)), (117, .t (tI (w64 (s7.1 - 1)))), (118, .own 1000000), (119, .t (tI s7.1)), (120, .t (tI (w64 (s7.1 - 1)))), (121, .pe 1000000 (Int.toNat (w64 (s7.1 - 1))) 4 0), (122, .agg [.t (tI x8.Source), .t (tI x8.Kind), .t (tI x8.Torque), .t (tI x8.Priority)]), (123, .own 1000000), (124, .t (tI s7.1)), (125, .pe 1000000 (Int.toNat s7.1) 4 0), (126, .agg [.t (tI x9.Source), .t (tI x9.Kind), .t (tI x9.Torque), .t (tI x9.Priority)]), (127, .pe 1000000 (Int.toNat s7.1) 4 0)], [(1000000, .rows 35 4 l3.length (l3.map enc_SRequest))]⟩) ?_ fun A_3 => ?_
                  · exact TieA.done (.of rfl rfl)
                  refine TieA.have_ (fuel₁ := 4) (l₁ := [true, true, true, true, true, true, true, true, true, true, true, true, true, true, false, false, false, false]) (σ₁ := ⟨[(0, .own 1000000), (14, .t (tI s6.1)), (17, .t (tI s7.1)), (113, .own 1000000), (114, .t (tI s7.1)), (115, .own 1000000), (116, .t (tI s7.1)), (117, .t (tI (w64 (s7.1 - 1)))), (118, .own 1000000), (119, .t (tI s7.1)), (120, .t (tI (w64 (s7.1 - 1)))), (121, .pe 1000000 (Int.toNat (w64 (s7.1 - 1))) 4 0), (122, .agg [.t (tI x8.Source), .t (tI x8.Kind), .t (tI x8.Torque), .t (tI x8.Priority)]), (123, .own 1000000), (124, .t (tI s7.1)), (125, .pe 1000000 (Int.toNat s7.1) 4 0), (126, .agg [.t (tI x9.Source), .t (tI x9.Kind), .t (tI x9.Torque), .t (tI x9.Priority)])], [(1000000, .rows 35 4 s7.2.length (s7.2.map enc_SRequest))]⟩) ?_ fun A_2 => ?_
                  · refine TieA.idx 14 [true, true, true, true, true, true, true, true, true, true, true, true, true, true, true, false, false, false] hx9 rfl rfl rfl rfl rfl rfl (by kernel_rfl) (by kernel_rfl) (by kernel_rfl) rfl rfl rfl rfl rfl rfl ?_
                    refine TieA.all [15] (by kernel_rfl) rfl ?_
                    refine AllA.cons (σ₁ := ⟨[(0, .own 1000000), (14, .t (tI s6.1)), (17, .t (tI s7.1)), (113, .own 1000000), (114, .t (tI s7.1)), (115, .own 1000000), (116, .t (tI s7.1)), (117, .t (tI (w64 (s7.1 - 1)))), (118, .own 1000000), (119, .t (tI s7.1)), (120, .t (tI (w64 (s7.1 - 1)))), (121, .pe 1000000 (Int.toNat (w64 (s7.1 - 1))) 4 0), (122, .agg [.t (tI x8.Source), .t (tI x8.Kind), .t (tI x8.Torque), .t (tI x8.Priority)]), (123, .own 1000000), (124, .t (tI s7.1)), (125, .pe 1000000 (Int.toNat s7.1) 4 0), (126, .agg [.t (tI x9.Source), .t (tI x9.Kind), .t (tI x9.Torque), .t (tI x9.Priority)]), (127, .pe 1000000 (Int.toNat s7.1) 4 0)], [(1000000, .rows 35 4 l3.length (l3.map enc_SRequest))]⟩) [true, true, true, true, true, true, true, true, true, true, true, true, true, true, true, true, false, false] rfl rfl ?_ A_3 ?_
                    · refine TieO.withH hl3 (TieO.storeY x8 [tI x8.Source, tI x8.Kind, tI x8.Torque, tI x8.Priority] hx9 rfl rfl rfl rfl rfl rfl rfl rfl rfl rfl rfl rfl (TieO.ifG ?_))
                      exact TieO.nil (TieS.leaf ⟨rfl, .of rfl rfl⟩)
                    exact AllA.nil
                  refine TieA.have_ (fuel₁ := 5) (l₁ := [true, true, true, true, true, true, true, true, true, true, true, true, true, false, false, false, false, false]) (σ₁ := ⟨[(0, .own 1000000), (14, .t (tI s6.1)), (17, .t (tI s7.1)), (113, .own 1000000), (114, .t (tI s7.1)), (115, .own 1000000), (116, .t (tI s7.1)), (117, .t (tI (w64 (s7.1 - 1)))), (118, .own 1000000), (119, .t (tI s7.1)), (120, .t (tI (w64 (s7.1 - 1)))), (121, .pe 1000000 (Int.toNat (w64 (s7.1 - 1))) 4 0), (122, .agg [.t (tI x8.Source), .t (tI x8.Kind), .t (tI x8.Torque), .t (tI x8.Priority)]), (123, .own 1000000), (124, .t (tI s7.1)), (125, .pe 1000000 (Int.toNat s7.1) 4 0)], [(1000000, .rows 35 4 s7.2.length (s7.2.map enc_SRequest))]⟩) ?_ fun A_1 => ?_
                  · refine TieA.all [13] (by kernel_rfl) rfl ?_
                    refine AllA.cons (σ₁ := ⟨[(0, .own 1000000), (14, .t (tI s6.1)), (17, .t (tI s7.1)), (113, .own 1000000), (114, .t (tI s7.1)), (115, .own 1000000), (116, .t (tI s7.1)), (117, .t (tI (w64 (s7.1 - 1)))), (118, .own 1000000), (119, .t (tI s7.1)), (120, .t (tI (w64 (s7.1 - 1)))), (121, .pe 1000000 (Int.toNat (w64 (s7.1 - 1))) 4 0), (122, .agg [.t (tI x8.Source), .t (tI x8.Kind), .t (tI x8.Torque), .t (tI x8.Priority)]), (123, .own 1000000), (124, .t (tI s7.1)), (125, .pe 1000000 (Int.toNat s7.1) 4 0), (126, .agg [.t (tI x9.Source), .t (tI x9.Kind), .t (tI x9.Torque), .t (tI x9.Priority)])], [(1000000, .rows 35 4 s7.2.length (s7.2.map enc_SRequest))]⟩) [true, true, true, true, true, true, true, true, true, true, true, true, true, true, false, false, false, false] rfl rfl ?_ A_2 ?_
                    · refine TieO.loadY hx9 rfl rfl rfl rfl rfl rfl rfl rfl ?_
                      exact TieO.nil (TieS.leaf ⟨rfl, .of rfl rfl⟩)
                    exact AllA.nil
                  refine TieA.have_ (fuel₁ := 5) (l₁ := [true, true, true, true, true, true, true, true, true, false, true, true, true, true, false, false, false, false]) (σ₁ := ⟨[(0, .own 1000000), (14, .t (tI s6.1)), (17, .t (tI s7.1)), (113, .own 1000000), (114, .t (tI s7.1)), (115, .own 1000000), (116, .t (tI s7.1)), (117, .t (tI (w64 (s7.1 - 1)))), (118, .own 1000000), (119, .t (tI s7.1)), (120, .t (tI (w64 (s7.1 - 1)))), (121, .pe 1000000 (Int.toNat (w64 (s7.1 - 1))) 4 0), (123, .own 1000000), (124, .t (tI s7.1)), (125, .pe 1000000 (Int.toNat s7.1) 4 0), (126, .agg [.t (tI x9.Source), .t (tI x9.Kind), .t (tI x9.Torque), .t (tI x9.Priority)])], [(1000000, .rows 35 4 s7.2.length (s7.2.map enc_SRequest))]⟩) ?_ fun A_4 => ?_
                  · refine TieA.all [9] (by kernel_rfl) rfl ?_
                    refine AllA.cons (σ₁ := ⟨[(0, .own 1000000), (14, .t (tI s6.1)), (17, .t (tI s7.1)), (113, .own 1000000), (114, .t (tI s7.1)), (115, .own 1000000), (116, .t (tI s7.1)), (117, .t (tI (w64 (s7.1 - 1)))), (118, .own 1000000), (119, .t (tI s7.1)), (120, .t (tI (w64 (s7.1 - 1)))), (121, .pe 1000000 (Int.toNat (w64 (s7.1 - 1))) 4 0), (122, .agg [.t (tI x8.Source), .t (tI x8.Kind), .t (tI x8.Torque), .t (tI x8.Priority)]), (123, .own 1000000), (124, .t (tI s7.1)), (125, .pe 1000000 (Int.toNat s7.1) 4 0), (126, .agg [.t (tI x9.Source), .t (tI x9.Kind), .t (tI x9.Torque), .t (tI x9.Priority)])], [(1000000, .rows 35 4 s7.2.length (s7.2.map enc_SRequest))]⟩) [true, true, true, true, true, true, true, true, true, true, true, true, true, true, false, false, false, false] rfl rfl ?_ A_2 ?_
                    · refine TieO.loadY hx8 rfl rfl rfl rfl rfl rfl rfl rfl ?_
                      exact TieO.nil (TieS.leaf ⟨rfl, .of rfl rfl⟩)
                    exact AllA.nil
                  refine TieA.move 0 [true, false, false, false, false, false, false, false, false, false, false, false, false, false, false, false, false, false] rfl rfl (by first | exact .inl rfl | exact .inr rfl) rfl rfl rfl (by kernel_rfl) (by kernel_rfl) (by kernel_rfl) rfl ?_
                  refine TieA.move 1 [true, true, false, false, false, false, false, false, false, false, false, false, false, false, false, false, false, false] rfl rfl (by first | exact .inl rfl | exact .inr rfl) rfl rfl rfl (by kernel_rfl) (by kernel_rfl) (by kernel_rfl) rfl ?_
                  refine TieA.move 2 [true, true, true, false, false, false, false, false, false, false, false, false, false, false, false, false, false, false] rfl rfl (by first | exact .inl rfl | exact .inr rfl) rfl rfl rfl (by kernel_rfl) (by kernel_rfl) (by kernel_rfl) rfl ?_
                  refine TieA.move 3 [true, true, true, true, false, false, false, false, false, false, false, false, false, false, false, false, false, false] rfl rfl (by first | exact .inl rfl | exact .inr rfl) rfl rfl rfl (by kernel_rfl) (by kernel_rfl) (by kernel_rfl) rfl ?_
                  refine TieA.bin (V := .t (tI (w64 (s7.1 - 1)))) 4 [true, true, true, true, true, false, false, false, false, false, false, false, false, false, false, false, false, false] rfl rfl rfl rfl rfl rfl (by kernel_rfl) (by kernel_rfl) (by kernel_rfl) rfl rfl rfl rfl ?_
                  refine TieA.move 5 [true, true, true, true, true, true, false, false, false, false, false, false, false, false, false, false, false, false] rfl rfl (by first | exact .inl rfl | exact .inr rfl) rfl rfl rfl (by kernel_rfl) (by kernel_rfl) (by kernel_rfl) rfl ?_
                  refine TieA.move 6 [true, true, true, true, true, true, true, false, false, false, false, false, false, false, false, false, false, false] rfl rfl (by first | exact .inl rfl | exact .inr rfl) rfl rfl rfl (by kernel_rfl) (by kernel_rfl) (by kernel_rfl) rfl ?_
                  refine TieA.bin (V := .t (tI (w64 (s7.1 - 1)))) 7 [true, true, true, true, true, true, true, true, false, false, false, false, false, false, false, false, false, false] rfl rfl rfl rfl rfl rfl (by kernel_rfl) (by kernel_rfl) (by kernel_rfl) rfl rfl rfl rfl ?_
                  refine TieA.idx 8 [true, true, true, true, true, true, true, true, true, false, false, false, false, false, false, false, false, false] hx8 rfl rfl rfl rfl rfl rfl (by kernel_rfl) (by kernel_rfl) (by kernel_rfl) rfl rfl rfl rfl rfl rfl ?_
                  refine TieA.move 10 [true, true, true, true, true, true, true, true, true, false, true, false, false, false, false, false, false, false] rfl rfl (by first | exact .inl rfl | exact .inr rfl) rfl rfl rfl (by kernel_rfl) (by kernel_rfl) (by kernel_rfl) rfl ?_
                  refine TieA.move 11 [true, true, true, true, true, true, true, true, true, false, true, true, false, false, false, false, false, false] rfl rfl (by first | exact .inl rfl | exact .inr rfl) rfl rfl rfl (by kernel_rfl) (by kernel_rfl) (by kernel_rfl) rfl ?_
                  refine TieA.idx 12 [true, true, true, true, true, true, true, true, true, false, true, true, true, false, false, false, false, false] hx9 rfl rfl rfl rfl rfl rfl (by kernel_rfl) (by kernel_rfl) (by kernel_rfl) rfl rfl rfl rfl rfl rfl ?_
                  refine TieA.all [9, 13] (by kernel_rfl) rfl ?_
                  refine AllA.cons (σ₁ := ⟨[(0, .own 1000000), (14, .t (tI s6.1)), (17, .t (tI s7.1)), (113, .own 1000000), (114, .t (tI s7.1)), (115, .own 1000000), (116, .t (tI s7.1)), (117, .t (tI (w64 (s7.1 - 1)))), (118, .own 1000000), (119, .t (tI s7.1)), (120, .t (tI (w64 (s7.1 - 1)))), (121, .pe 1000000 (Int.toNat (w64 (s7.1 - 1))) 4 0), (122, .agg [.t (tI x8.Source), .t (tI x8.Kind), .t (tI x8.Torque), .t (tI x8.Priority)]), (123, .own 1000000), (124, .t (tI s7.1)), (125, .pe 1000000 (Int.toNat s7.1) 4 0)], [(1000000, .rows 35 4 s7.2.length (s7.2.map enc_SRequest))]⟩) [true, true, true, true, true, true, true, true, true, true, true, true, true, false, false, false, false, false] rfl rfl ?_ A_1 ?_
                  · refine TieO.loadY hx8 rfl rfl rfl rfl rfl rfl rfl rfl ?_
                    exact TieO.nil (TieS.leaf ⟨rfl, .of rfl rfl⟩)
                  refine AllA.cons (σ₁ := ⟨[(0, .own 1000000), (14, .t (tI s6.1)), (17, .t (tI s7.1)), (113, .own 1000000), (114, .t (tI s7.1)), (115, .own 1000000), (116, .t (tI s7.1)), (117, .t (tI (w64 (s7.1 - 1)))), (118, .own 1000000), (119, .t (tI s7.1)), (120, .t (tI (w64 (s7.1 - 1)))), (121, .pe 1000000 (Int.toNat (w64 (s7.1 - 1))) 4 0), (123, .own 1000000), (124, .t (tI s7.1)), (125, .pe 1000000 (Int.toNat s7.1) 4 0), (126, .agg [.t (tI x9.Source), .t (tI x9.Kind), .t (tI x9.Torque), .t (tI x9.Priority)])], [(1000000, .rows 35 4 s7.2.length (s7.2.map enc_SRequest))]⟩) [true, true, true, true, true, true, true, true, true, false, true, true, true, true, false, false, false, false] rfl rfl ?_ A_4 ?_
                  · refine TieO.loadY hx9 rfl rfl rfl rfl rfl rfl rfl rfl ?_
                    exact TieO.nil (TieS.leaf ⟨rfl, .of rfl rfl⟩)
                  exact AllA.nil
                refine TieO.indexO rfl rfl rfl rfl rfl rfl rfl rfl rfl rfl fun x10 hx10 => ?_
                refine TieO.storeY x9 [tI x9.Source, tI x9.Kind, tI x9.Torque, tI x9.Priority] hx10 rfl rfl rfl rfl rfl rfl rfl rfl rfl rfl rfl rfl fun l4 hl4 => ?_
                refine TieO.nil ?_
                exact TieS.leaf ⟨rfl, .of rfl rfl⟩
              rintro f3 e σ' _ ⟨rfl, hs⟩
              refine TieX.sub hs ?_
              refine TieS.endb ?_
              refine TieS.region ?_
              refine TieO.run 3 rfl ?_
              refine TieO.nil ?_
              exact TieS.leaf ⟨rfl, .of rfl rfl⟩
            · exact TieS.exitOut rfl ⟨(fun h => by cases h), rfl, .of rfl rfl⟩
          rintro (s8 | r) e σ' _ hq
          · obtain ⟨rfl, hs⟩ := hq
            refine TieX.exit rfl (TieX.sub hs ?_)
            exact TieS.ret ⟨.inl rfl, ⟨[(1000000, 1000000)], _, _, rfl, rfl, rfl, rfl, rfl⟩⟩
          · exact hq.elim
        · exact hq.elim
      · refine TieS.skip ?_
        refine TieS.seq ?_
        refine TieS.region ?_
        refine TieO.run 7 rfl ?_
        refine TieO.nil ?_
        refine TieS.seq ?_
        refine TieS.region ?_
        refine TieO.run 4 rfl ?_
        refine TieO.nil ?_
        refine TieS.seq ?_
        refine TieS.region ?_
        refine TieO.run 2 rfl ?_
        refine TieO.nil ?_
        refine TieS.seq ?_
        refine TieS.seq ?_
        refine TieS.region ?_
        refine TieO.run 3 rfl ?_
        refine TieO.nil ?_
        refine TieS.bind (Q₁ := fun t e σ' => e = .normal ∧ Sub ⟨[(0, .own 1000000), (1, .t (tI a)), (2, .t (tI m2)), (3, .t (tI b2)), (4, .fz n2 cs), (18, .t (tI (w64 (bitShr .u64 (IntKind.u64.wrap (w64 (a + b2))) 1)))), (19, .t (tI (w64 ((w64 (bitShr .u64 (IntKind.u64.wrap (w64 (a + b2))) 1)) + m2)))), (20, .t (tI t.1)), (21, .t (tI t.2))], [(1000000, .rows 35 4 data.length (data.map enc_SRequest))]⟩ σ') ?_ ?_
        · refine TieS.cond rfl ?_ ?_
          · refine TieS.seq ?_
            refine TieS.region ?_
            refine TieO.run 4 rfl ?_
            refine TieO.nil ?_
            refine TieS.region ?_
            refine TieO.run 2 rfl ?_
            refine TieO.nil ?_
            exact TieS.leaf ⟨rfl, .of rfl rfl⟩
          · refine TieS.seq ?_
            refine TieS.region ?_
            refine TieO.run 2 rfl ?_
            refine TieO.nil ?_
            refine TieS.region ?_
            refine TieO.run 2 rfl ?_
            refine TieO.nil ?_
            exact TieS.leaf ⟨rfl, .of rfl rfl⟩
        rintro s9 e σ' _ ⟨rfl, hs⟩
        refine TieX.sub hs ?_
        refine TieS.seq ?_
        refine TieS.region ?_
        refine TieO.run 3 rfl ?_
        refine TieO.nil ?_
        refine TieS.seq ?_
        refine TieS.block ?_
        refine TieS.loop (fun t => ⟨[(0, .own 1000000), (1, .t (tI a)), (2, .t (tI m2)), (3, .t (tI b2)), (4, .fz n2 cs), (18, .t (tI (w64 (bitShr .u64 (IntKind.u64.wrap (w64 (a + b2))) 1)))), (19, .t (tI (w64 ((w64 (bitShr .u64 (IntKind.u64.wrap (w64 (a + b2))) 1)) + m2)))), (20, .t (tI t.1)), (21, .t (tI t.2)), (22, .t (tI (w64 ((w64 ((w64 (bitShr .u64 (IntKind.u64.wrap (w64 (a + b2))) 1)) + m2)) - 1))))], [(1000000, .rows 35 4 data.length (data.map enc_SRequest))]⟩) (fun b e σ' => match b with | .inl t => e = .exit 8 ∧ Sub ⟨[(0, .own 1000000), (1, .t (tI a)), (2, .t (tI m2)), (3, .t (tI b2)), (4, .fz n2 cs), (18, .t (tI (w64 (bitShr .u64 (IntKind.u64.wrap (w64 (a + b2))) 1)))), (19, .t (tI (w64 ((w64 (bitShr .u64 (IntKind.u64.wrap (w64 (a + b2))) 1)) + m2)))), (20, .t (tI t.1))], [(1000000, .rows 35 4 data.length (data.map enc_SRequest))]⟩ σ' | .inr t => False) (.of rfl rfl) ?_ ?_
        · intro s10
          refine TieS.seq ?_
          refine TieS.seq ?_
          refine TieS.region ?_
          refine TieO.run 3 rfl ?_
          refine TieO.nil ?_
          refine TieS.cond rfl ?_ ?_
          · refine TieS.skip ?_
            refine TieS.block ?_
            refine TieS.seq ?_
            refine TieS.region ?_
            refine TieO.run 7 rfl ?_
            refine TieO.nil ?_
            refine TieS.seq ?_
            refine TieX.pre fun x11 hx11 => ?_
            refine TieX.pre fun x12 hx12 => ?_
            refine TieX.pre fun v3 hv3 => ?_
            refine TieS.draw 14 [.fz n2 cs, .own 1000000, .t (tI (w64 ((w64 ((w64 (bitShr .u64 (IntKind.u64.wrap (w64 (a + b2))) 1)) + m2)) - 1))), .t (tI (w64 (bitShr .u64 (IntKind.u64.wrap (w64 (s10.1 + s10.2))) 1))), .t (tI (w64 ((w64 ((w64 ((w64 (bitShr .u64 (IntKind.u64.wrap (w64 (a + b2))) 1)) + m2)) - 1)) - (w64 (bitShr .u64 (IntKind.u64.wrap (w64 (s10.1 + s10.2))) 1))))), .pe 1000000 (Int.toNat (w64 ((w64 ((w64 ((w64 (bitShr .u64 (IntKind.u64.wrap (w64 (a + b2))) 1)) + m2)) - 1)) - (w64 (bitShr .u64 (IntKind.u64.wrap (w64 (s10.1 + s10.2))) 1))))) 4 0, .agg [.t (tI x11.Source), .t (tI x11.Kind), .t (tI x11.Torque), .t (tI x11.Priority)], .own 1000000, .t (tI (w64 (bitShr .u64 (IntKind.u64.wrap (w64 (s10.1 + s10.2))) 1))), .pe 1000000 (Int.toNat (w64 (bitShr .u64 (IntKind.u64.wrap (w64 (s10.1 + s10.2))) 1))) 4 0, .agg [.t (tI x12.Source), .t (tI x12.Kind), .t (tI x12.Torque), .t (tI x12.Priority)], .t (tI v3), .t (tB (decide (v3 < 0))), .t (tB (!(decide (v3 < 0))))] [(0, .own 1000000), (1, .t (tI a)), (2, .t (tI m2)), (3, .t (tI b2)), (4, .fz n2 cs), (18, .t (tI (w64 (bitShr .u64 (IntKind.u64.wrap (w64 (a + b2))) 1)))), (19, .t (tI (w64 ((w64 (bitShr .u64 (IntKind.u64.wrap (w64 (a + b2))) 1)) + m2)))), (20, .t (tI s10.1)), (21, .t (tI s10.2)), (22, .t (tI (w64 ((w64 ((w64 (bitShr .u64 (IntKind.u64.wrap (w64 (a + b2))) 1)) + m2)) - 1)))), (23, .t (tI (w64 (bitShr .u64 (IntKind.u64.wrap (w64 (s10.1 + s10.2))) 1))))] [(1000000, .rows 35 4 data.length (data.map enc_SRequest))] mixed (.of rfl rfl) rfl rfl rfl rfl (.cons (.quiet rfl rfl rfl) (.cons (.quiet rfl rfl rfl) (.cons (.quiet rfl rfl rfl) (.cons (.quiet rfl rfl rfl) (.cons (.quiet rfl rfl rfl) (.cons (.indexO (sz := 4) hx11 rfl rfl rfl rfl rfl rfl rfl rfl) (.cons (.loadY hx11 rfl rfl rfl rfl rfl rfl) (.cons (.quiet rfl rfl rfl) (.cons (.quiet rfl rfl rfl) (.cons (.indexO (sz := 4) hx12 rfl rfl rfl rfl rfl rfl rfl rfl) (.cons (.loadY hx12 rfl rfl rfl rfl rfl rfl) (.cons (.callV (h2 x11 x12) hv3 rfl rfl rfl rfl) (.cons (.quiet rfl rfl rfl) (.cons (.quiet rfl rfl rfl) (.nil))))))))))))))) ?_
            refine TieO.nil ?_
            refine TieS.cond rfl ?_ ?_
            · refine TieS.region ?_
              refine TieO.run 3 rfl ?_
              refine TieO.nil ?_
              refine TieS.endb ?_
              exact TieS.leaf ⟨rfl, .of rfl rfl⟩
            · refine TieS.region ?_
              refine TieO.run 2 rfl ?_
              refine TieO.nil ?_
              refine TieS.endb ?_
              exact TieS.leaf ⟨rfl, .of rfl rfl⟩
          · exact TieS.exitOut rfl ⟨(fun h => by cases h), rfl, .of rfl rfl⟩
        rintro (s11 | r) e σ' _ hq
        · obtain ⟨rfl, hs⟩ := hq
          refine TieX.exit rfl (TieX.sub hs ?_)
          refine TieS.seq ?_
          refine TieS.region ?_
          refine TieO.run 4 rfl ?_
          refine TieO.nil ?_
          refine TieS.seq ?_
          refine TieS.seq ?_
          refine TieS.region ?_
          refine TieO.run 4 rfl ?_
          refine TieO.selAnd (v := decide (m2 < (w64 ((w64 ((w64 (bitShr .u64 (IntKind.u64.wrap (w64 (a + b2))) 1)) + m2)) - s11.1)))) 4 181 (fun b => ⟨[(0, .own 1000000), (1, .t (tI a)), (2, .t (tI m2)), (3, .t (tI b2)), (4, .fz n2 cs), (18, .t (tI (w64 (bitShr .u64 (IntKind.u64.wrap (w64 (a + b2))) 1)))), (20, .t (tI s11.1)), (24, .t (tI (w64 ((w64 ((w64 (bitShr .u64 (IntKind.u64.wrap (w64 (a + b2))) 1)) + m2)) - s11.1)))), (185, .t (tB b))], [(1000000, .rows 35 4 data.length (data.map enc_SRequest))]⟩) rfl ?_ ?_ ?_
          · refine TieO.run 4 rfl ?_
            refine TieO.nil ?_
            exact TieS.leaf ⟨rfl, .of rfl rfl⟩
          · refine TieO.run 4 rfl ?_
            refine TieO.nil ?_
            exact TieS.leaf ⟨rfl, .of rfl rfl⟩
          refine TieO.nil ?_
          refine TieS.bind (Q₁ := fun t e σ' => e = .normal ∧ Sub ⟨[(0, .own 1000000), (1, .t (tI a)), (3, .t (tI b2)), (4, .fz n2 cs), (18, .t (tI (w64 (bitShr .u64 (IntKind.u64.wrap (w64 (a + b2))) 1)))), (20, .t (tI s11.1)), (24, .t (tI (w64 ((w64 ((w64 (bitShr .u64 (IntKind.u64.wrap (w64 (a + b2))) 1)) + m2)) - s11.1))))], [(1000000, .rows 35 4 t.length (t.map enc_SRequest))]⟩ σ') ?_ ?_
          · refine TieS.cond rfl ?_ ?_
            · refine TieS.region ?_
              refine TieO.run 5 rfl ?_
              refine TieO.callG [(1000000, 1000000)] [] (fun v4 => ⟨[(0, .own 1000000), (1, .t (tI a)), (2, .t (tI m2)), (3, .t (tI b2)), (4, .fz n2 cs), (18, .t (tI (w64 (bitShr .u64 (IntKind.u64.wrap (w64 (a + b2))) 1)))), (20, .t (tI s11.1)), (24, .t (tI (w64 ((w64 ((w64 (bitShr .u64 (IntKind.u64.wrap (w64 (a + b2))) 1)) + m2)) - s11.1)))), (185, .t (tB ((decide (s11.1 < m2)) && (decide (m2 < (w64 ((w64 ((w64 (bitShr .u64 (IntKind.u64.wrap (w64 (a + b2))) 1)) + m2)) - s11.1))))))), (186, .own 1000000), (187, .t (tI s11.1)), (188, .t (tI m2)), (189, .t (tI (w64 ((w64 ((w64 (bitShr .u64 (IntKind.u64.wrap (w64 (a + b2))) 1)) + m2)) - s11.1)))), (190, .fz n2 cs), (191, .tup [])], [(1000000, .rows 35 4 v4.length (v4.map enc_SRequest))]⟩) (tie_slices_rotateCmpFunc_Request data s11.1 m2 (w64 ((w64 ((w64 (bitShr .u64 (IntKind.u64.wrap (w64 (a + b2))) 1)) + m2)) - s11.1)) n2 cs cmp h2) rfl rfl rfl rfl rfl rfl rfl (fun _ => rfl) (fun _ => rfl) (fun _ => rfl) (fun _ => .of rfl rfl) fun v4 hv4 => ?_
              refine TieO.nil ?_
              exact TieS.leaf ⟨rfl, .of rfl rfl⟩
            · refine TieS.skip ?_
              exact TieS.leaf ⟨rfl, .of rfl rfl⟩
          rintro f4 e σ' _ ⟨rfl, hs⟩
          refine TieX.sub hs ?_
          refine TieS.seq ?_
          refine TieS.seq ?_
          refine TieS.region ?_
          refine TieO.run 4 rfl ?_
          refine TieO.selAnd (v := decide (s11.1 < (w64 (bitShr .u64 (IntKind.u64.wrap (w64 (a + b2))) 1)))) 4 195 (fun b => ⟨[(0, .own 1000000), (1, .t (tI a)), (3, .t (tI b2)), (4, .fz n2 cs), (18, .t (tI (w64 (bitShr .u64 (IntKind.u64.wrap (w64 (a + b2))) 1)))), (20, .t (tI s11.1)), (24, .t (tI (w64 ((w64 ((w64 (bitShr .u64 (IntKind.u64.wrap (w64 (a + b2))) 1)) + m2)) - s11.1)))), (199, .t (tB b))], [(1000000, .rows 35 4 f4.length (f4.map enc_SRequest))]⟩) rfl ?_ ?_ ?_
          · refine TieO.run 4 rfl ?_
            refine TieO.nil ?_
            exact TieS.leaf ⟨rfl, .of rfl rfl⟩
          · refine TieO.run 4 rfl ?_
            refine TieO.nil ?_
            exact TieS.leaf ⟨rfl, .of rfl rfl⟩
          refine TieO.nil ?_
          refine TieS.bind (Q₁ := fun t e σ' => e = .normal ∧ Sub ⟨[(0, .own 1000000), (3, .t (tI b2)), (4, .fz n2 cs), (18, .t (tI (w64 (bitShr .u64 (IntKind.u64.wrap (w64 (a + b2))) 1)))), (24, .t (tI (w64 ((w64 ((w64 (bitShr .u64 (IntKind.u64.wrap (w64 (a + b2))) 1)) + m2)) - s11.1))))], [(1000000, .rows 35 4 t.length (t.map enc_SRequest))]⟩ σ') ?_ ?_
          · refine TieS.cond rfl ?_ ?_
            · refine TieS.region ?_
              refine TieO.run 5 rfl ?_
              refine TieO.callG [(1000000, 1000000)] [] (fun v5 => ⟨[(0, .own 1000000), (1, .t (tI a)), (3, .t (tI b2)), (4, .fz n2 cs), (18, .t (tI (w64 (bitShr .u64 (IntKind.u64.wrap (w64 (a + b2))) 1)))), (20, .t (tI s11.1)), (24, .t (tI (w64 ((w64 ((w64 (bitShr .u64 (IntKind.u64.wrap (w64 (a + b2))) 1)) + m2)) - s11.1)))), (199, .t (tB ((decide (a < s11.1)) && (decide (s11.1 < (w64 (bitShr .u64 (IntKind.u64.wrap (w64 (a + b2))) 1))))))), (200, .own 1000000), (201, .t (tI a)), (202, .t (tI s11.1)), (203, .t (tI (w64 (bitShr .u64 (IntKind.u64.wrap (w64 (a + b2))) 1)))), (204, .fz n2 cs), (205, .tup [])], [(1000000, .rows 35 4 v5.length (v5.map enc_SRequest))]⟩) (ih f4 a s11.1 (w64 (bitShr .u64 (IntKind.u64.wrap (w64 (a + b2))) 1)) n2 cs cmp h2) rfl rfl rfl rfl rfl rfl rfl (fun _ => rfl) (fun _ => rfl) (fun _ => rfl) (fun _ => .of rfl rfl) fun v5 hv5 => ?_
              refine TieO.nil ?_
              exact TieS.leaf ⟨rfl, .of rfl rfl⟩
            · refine TieS.skip ?_
              exact TieS.leaf ⟨rfl, .of rfl rfl⟩
          rintro f5 e σ' _ ⟨rfl, hs⟩
          refine TieX.sub hs ?_
          refine TieS.seq ?_
          refine TieS.region ?_
          refine TieO.run 4 rfl ?_
          refine TieO.selAnd (v := decide ((w64 ((w64 ((w64 (bitShr .u64 (IntKind.u64.wrap (w64 (a + b2))) 1)) + m2)) - s11.1)) < b2)) 4 209 (fun b => ⟨[(0, .own 1000000), (3, .t (tI b2)), (4, .fz n2 cs), (18, .t (tI (w64 (bitShr .u64 (IntKind.u64.wrap (w64 (a + b2))) 1)))), (24, .t (tI (w64 ((w64 ((w64 (bitShr .u64 (IntKind.u64.wrap (w64 (a + b2))) 1)) + m2)) - s11.1)))), (213, .t (tB b))], [(1000000, .rows 35 4 f5.length (f5.map enc_SRequest))]⟩) rfl ?_ ?_ ?_
          · refine TieO.run 4 rfl ?_
            refine TieO.nil ?_
            exact TieS.leaf ⟨rfl, .of rfl rfl⟩
          · refine TieO.run 4 rfl ?_
            refine TieO.nil ?_
            exact TieS.leaf ⟨rfl, .of rfl rfl⟩
          refine TieO.nil ?_
          refine TieS.cond rfl ?_ ?_
          · refine TieS.region ?_
            refine TieO.run 5 rfl ?_
            refine TieO.callG [(1000000, 1000000)] [] (fun v6 => ⟨[(0, .own 1000000), (3, .t (tI b2)), (4, .fz n2 cs), (18, .t (tI (w64 (bitShr .u64 (IntKind.u64.wrap (w64 (a + b2))) 1)))), (24, .t (tI (w64 ((w64 ((w64 (bitShr .u64 (IntKind.u64.wrap (w64 (a + b2))) 1)) + m2)) - s11.1)))), (213, .t (tB ((decide ((w64 (bitShr .u64 (IntKind.u64.wrap (w64 (a + b2))) 1)) < (w64 ((w64 ((w64 (bitShr .u64 (IntKind.u64.wrap (w64 (a + b2))) 1)) + m2)) - s11.1)))) && (decide ((w64 ((w64 ((w64 (bitShr .u64 (IntKind.u64.wrap (w64 (a + b2))) 1)) + m2)) - s11.1)) < b2))))), (214, .own 1000000), (215, .t (tI (w64 (bitShr .u64 (IntKind.u64.wrap (w64 (a + b2))) 1)))), (216, .t (tI (w64 ((w64 ((w64 (bitShr .u64 (IntKind.u64.wrap (w64 (a + b2))) 1)) + m2)) - s11.1)))), (217, .t (tI b2)), (218, .fz n2 cs), (219, .tup [])], [(1000000, .rows 35 4 v6.length (v6.map enc_SRequest))]⟩) (ih f5 (w64 (bitShr .u64 (IntKind.u64.wrap (w64 (a + b2))) 1)) (w64 ((w64 ((w64 (bitShr .u64 (IntKind.u64.wrap (w64 (a + b2))) 1)) + m2)) - s11.1)) b2 n2 cs cmp h2) rfl rfl rfl rfl rfl rfl rfl (fun _ => rfl) (fun _ => rfl) (fun _ => rfl) (fun _ => .of rfl rfl) fun v6 hv6 => ?_
            refine TieO.nil ?_
            exact TieS.leaf ⟨.inr rfl, ⟨[(1000000, 1000000)], _, _, rfl, rfl, rfl, rfl, rfl⟩⟩
          · refine TieS.skip ?_
            exact TieS.leaf ⟨.inr rfl, ⟨[(1000000, 1000000)], _, _, rfl, rfl, rfl, rfl, rfl⟩⟩
        · exact hq.elim
-- slices.stableCmpFunc[magneto/api.Request]
set_option maxRecDepth 100000 in
theorem tie_slices_stableCmpFunc_Request (data : List SRequest) (n2 : Int) (n3 : Nat) (cs : List (List Tree)) (cmp : SRequest → SRequest → Option Int) (h2 : ∀ x0 x1, TieF Try.prog n3 ([A_SRequest x0, A_SRequest x1] ++ cs.map T.el) (cmp x0 x1) (fun r => .t (tI r))) : TieG Try.prog 52 [.own 1000000, .t (tI n2), .fz n3 cs] [(1000000, .rows 35 4 data.length (data.map enc_SRequest))] (slices_stableCmpFunc_Request data n2 cmp) (fun _ => .tup []) (fun r => [(1000000, .rows 35 4 r.length (r.map enc_SRequest))]) := by
  refine TieG.intro htab 63 [] Try.call52 Try.func52 rfl rfl rfl (Nat.le_of_ble_eq_true rfl) fun w0 L => ?_
  refine TieS.seq ?_
  refine TieS.region ?_
  refine TieO.run 1 rfl ?_
  refine TieO.nil ?_
  refine TieS.seq ?_
  refine TieS.region ?_
  refine TieO.run 3 rfl ?_
  refine TieO.nil ?_
  refine TieS.seq ?_
  refine TieS.block ?_
  refine TieS.loop (fun t => ⟨[(0, .own 1000000), (1, .t (tI n2)), (2, .fz n3 cs), (6, .t (tI 20)), (7, .t (tI t.1)), (8, .t (tI t.2.1))], [(1000000, .rows 35 4 t.2.2.length (t.2.2.map enc_SRequest))]⟩) (fun b e σ' => match b with | .inl t => e = .exit 0 ∧ Sub ⟨[(0, .own 1000000), (1, .t (tI n2)), (2, .fz n3 cs), (6, .t (tI 20)), (7, .t (tI t.1))], [(1000000, .rows 35 4 t.2.2.length (t.2.2.map enc_SRequest))]⟩ σ' | .inr t => False) (.of rfl rfl) ?_ ?_
  · intro s
    refine TieS.seq ?_
    refine TieS.seq ?_
    refine TieS.region ?_
    refine TieO.run 3 rfl ?_
    refine TieO.nil ?_
    refine TieS.cond rfl ?_ ?_
    · refine TieS.skip ?_
      refine TieS.block ?_
      refine TieS.seq ?_
      refine TieS.region ?_
      refine TieO.run 4 rfl ?_
      refine TieO.callG [(1000000, 1000000)] [] (fun v => ⟨[(0, .own 1000000), (1, .t (tI n2)), (2, .fz n3 cs), (6, .t (tI 20)), (7, .t (tI s.1)), (8, .t (tI s.2.1)), (11, .t (tI s.2.1)), (12, .t (tI n2)), (13, .t (tB (decide (s.2.1 ≤ n2)))), (14, .own 1000000), (15, .t (tI s.1)), (16, .t (tI s.2.1)), (17, .fz n3 cs), (18, .tup [])], [(1000000, .rows 35 4 v.length (v.map enc_SRequest))]⟩) (tie_slices_insertionSortCmpFunc_Request s.2.2 s.1 s.2.1 n3 cs cmp h2) rfl rfl rfl rfl rfl rfl rfl (fun _ => rfl) (fun _ => rfl) (fun _ => rfl) (fun _ => .of rfl rfl) fun v hv => ?_
      refine TieO.nil ?_
      refine TieS.seq ?_
      refine TieS.region ?_
      refine TieO.run 2 rfl ?_
      refine TieO.nil ?_
      refine TieS.region ?_
      refine TieO.run 4 rfl ?_
      refine TieO.nil ?_
      refine TieS.endb ?_
      exact TieS.leaf ⟨rfl, .of rfl rfl⟩
    · exact TieS.exitOut rfl ⟨(fun h => by cases h), rfl, .of rfl rfl⟩
  rintro (s2 | r) e σ' _ hq
  · obtain ⟨rfl, hs⟩ := hq
    refine TieX.exit rfl (TieX.sub hs ?_)
    refine TieS.seq ?_
    refine TieS.region ?_
    refine TieO.run 4 rfl ?_
    refine TieO.callG [(1000000, 1000000)] [] (fun v2 => ⟨[(0, .own 1000000), (1, .t (tI n2)), (2, .fz n3 cs), (6, .t (tI 20)), (7, .t (tI s2.1)), (23, .own 1000000), (24, .t (tI s2.1)), (25, .t (tI n2)), (26, .fz n3 cs), (27, .tup [])], [(1000000, .rows 35 4 v2.length (v2.map enc_SRequest))]⟩) (tie_slices_insertionSortCmpFunc_Request s2.2.2 s2.1 n2 n3 cs cmp h2) rfl rfl rfl rfl rfl rfl rfl (fun _ => rfl) (fun _ => rfl) (fun _ => rfl) (fun _ => .of rfl rfl) fun v2 hv2 => ?_
    refine TieO.nil ?_
    refine TieS.block ?_
    refine TieS.loop (fun t => ⟨[(0, .own 1000000), (1, .t (tI n2)), (2, .fz n3 cs), (6, .t (tI t.1))], [(1000000, .rows 35 4 t.2.length (t.2.map enc_SRequest))]⟩) (fun b e σ' => match b with | .inl t => e = .exit 2 ∧ Sub ⟨[], [(1000000, .rows 35 4 t.2.length (t.2.map enc_SRequest))]⟩ σ' | .inr t => False) (.of rfl rfl) ?_ ?_
    · intro s3
      refine TieS.seq ?_
      refine TieS.seq ?_
      refine TieS.region ?_
      refine TieO.run 3 rfl ?_
      refine TieO.nil ?_
      refine TieS.cond rfl ?_ ?_
      · refine TieS.skip ?_
        refine TieS.block ?_
        refine TieS.seq ?_
        refine TieS.region ?_
        refine TieO.run 4 rfl ?_
        refine TieO.nil ?_
        refine TieS.seq ?_
        refine TieS.block ?_
        refine TieS.loop (fun t => ⟨[(0, .own 1000000), (1, .t (tI n2)), (2, .fz n3 cs), (6, .t (tI s3.1)), (7, .t (tI t.1)), (8, .t (tI t.2.1))], [(1000000, .rows 35 4 t.2.2.length (t.2.2.map enc_SRequest))]⟩) (fun b e σ' => match b with | .inl t => e = .exit 4 ∧ Sub ⟨[(0, .own 1000000), (1, .t (tI n2)), (2, .fz n3 cs), (6, .t (tI s3.1)), (7, .t (tI t.1))], [(1000000, .rows 35 4 t.2.2.length (t.2.2.map enc_SRequest))]⟩ σ' | .inr t => False) (.of rfl rfl) ?_ ?_
        · intro s4
          refine TieS.seq ?_
          refine TieS.seq ?_
          refine TieS.region ?_
          refine TieO.run 3 rfl ?_
          refine TieO.nil ?_
          refine TieS.cond rfl ?_ ?_
          · refine TieS.skip ?_
            refine TieS.block ?_
            refine TieS.seq ?_
            refine TieS.region ?_
            refine TieO.run 7 rfl ?_
            refine TieO.callG [(1000000, 1000000)] [] (fun v3 => ⟨[(0, .own 1000000), (1, .t (tI n2)), (2, .fz n3 cs), (6, .t (tI s3.1)), (7, .t (tI s4.1)), (8, .t (tI s4.2.1)), (33, .t (tI s4.2.1)), (34, .t (tI n2)), (35, .t (tB (decide (s4.2.1 ≤ n2)))), (36, .own 1000000), (37, .t (tI s4.1)), (38, .t (tI s4.1)), (39, .t (tI s3.1)), (40, .t (tI (w64 (s4.1 + s3.1)))), (41, .t (tI s4.2.1)), (42, .fz n3 cs), (43, .tup [])], [(1000000, .rows 35 4 v3.length (v3.map enc_SRequest))]⟩) (tie_slices_symMergeCmpFunc_Request 64 s4.2.2 s4.1 (w64 (s4.1 + s3.1)) s4.2.1 n3 cs cmp h2) rfl rfl rfl rfl rfl rfl rfl (fun _ => rfl) (fun _ => rfl) (fun _ => rfl) (fun _ => .of rfl rfl) fun v3 hv3 => ?_
            refine TieO.nil ?_
            refine TieS.seq ?_
            refine TieS.region ?_
            refine TieO.run 2 rfl ?_
            refine TieO.nil ?_
            refine TieS.region ?_
            refine TieO.run 5 rfl ?_
            refine TieO.nil ?_
            refine TieS.endb ?_
            exact TieS.leaf ⟨rfl, .of rfl rfl⟩
          · exact TieS.exitOut rfl ⟨(fun h => by cases h), rfl, .of rfl rfl⟩
        rintro (s5 | r) e σ' _ hq
        · obtain ⟨rfl, hs⟩ := hq
          refine TieX.exit rfl (TieX.sub hs ?_)
          refine TieS.seq ?_
          refine TieS.seq ?_
          refine TieS.region ?_
          refine TieO.run 4 rfl ?_
          refine TieO.nil ?_
          refine TieS.seq ?_
          refine TieS.region ?_
          refine TieO.run 3 rfl ?_
          refine TieO.nil ?_
          refine TieS.cond rfl ?_ ?_
          · refine TieS.region ?_
            refine TieO.run 5 rfl ?_
            refine TieO.callG [(1000000, 1000000)] [] (fun v4 => ⟨[(0, .own 1000000), (1, .t (tI n2)), (2, .fz n3 cs), (6, .t (tI s3.1)), (7, .t (tI s5.1)), (9, .t (tI (w64 (s5.1 + s3.1)))), (49, .t (tI s5.1)), (50, .t (tI s3.1)), (51, .t (tI (w64 (s5.1 + s3.1)))), (52, .t (tI (w64 (s5.1 + s3.1)))), (53, .t (tI n2)), (54, .t (tB (decide ((w64 (s5.1 + s3.1)) < n2)))), (55, .own 1000000), (56, .t (tI s5.1)), (57, .t (tI (w64 (s5.1 + s3.1)))), (58, .t (tI n2)), (59, .fz n3 cs), (60, .tup [])], [(1000000, .rows 35 4 v4.length (v4.map enc_SRequest))]⟩) (tie_slices_symMergeCmpFunc_Request 64 s5.2.2 s5.1 (w64 (s5.1 + s3.1)) n2 n3 cs cmp h2) rfl rfl rfl rfl rfl rfl rfl (fun _ => rfl) (fun _ => rfl) (fun _ => rfl) (fun _ => .of rfl rfl) fun v4 hv4 => ?_
            refine TieO.nil ?_
            refine TieS.region ?_
            refine TieO.run 3 rfl ?_
            refine TieO.nil ?_
            refine TieS.endb ?_
            exact TieS.leaf ⟨rfl, .of rfl rfl⟩
          · refine TieS.skip ?_
            refine TieS.region ?_
            refine TieO.run 3 rfl ?_
            refine TieO.nil ?_
            refine TieS.endb ?_
            exact TieS.leaf ⟨rfl, .of rfl rfl⟩
        · exact hq.elim
      · exact TieS.exitOut rfl ⟨(fun h => by cases h), rfl, .of rfl rfl⟩
    rintro (s6 | r) e σ' _ hq
    · obtain ⟨rfl, hs⟩ := hq
      refine TieX.exit rfl (TieX.sub hs ?_)
      exact TieS.leaf ⟨.inr rfl, ⟨[(1000000, 1000000)], _, _, rfl, rfl, rfl, rfl, rfl⟩⟩
    · exact hq.elim
  · exact hq.elim
-- slices.SortStableFunc[[]magneto/api.Request,magneto/api.Request]
set_option maxRecDepth 100000 in
theorem tie_slices_SortStableFunc_sRequest (x : List SRequest) (n2 : Nat) (cs : List (List Tree)) (cmp : SRequest → SRequest → Option Int) (h2 : ∀ x0 x1, TieF Try.prog n2 ([A_SRequest x0, A_SRequest x1] ++ cs.map T.el) (cmp x0 x1) (fun r => .t (tI r))) : TieG Try.prog 37 [.own 1000000, .fz n2 cs] [(1000000, .rows 35 4 x.length (x.map enc_SRequest))] (slices_SortStableFunc_sRequest x cmp) (fun _ => .tup []) (fun r => [(1000000, .rows 35 4 r.length (r.map enc_SRequest))]) := by
  refine TieG.intro htab 9 [] Try.call37 Try.func37 rfl rfl rfl (Nat.le_of_ble_eq_true rfl) fun w0 L => ?_
  refine TieS.region ?_
  refine TieO.run 4 rfl ?_
  refine TieO.callG [(1000000, 1000000)] [] (fun v => ⟨[(0, .own 1000000), (1, .fz n2 cs), (4, .own 1000000), (5, .own 1000000), (6, .t (tI (x.length : Int))), (7, .fz n2 cs), (8, .tup [])], [(1000000, .rows 35 4 v.length (v.map enc_SRequest))]⟩) (tie_slices_stableCmpFunc_Request x (x.length : Int) n2 cs cmp h2) rfl rfl rfl rfl rfl rfl rfl (fun _ => rfl) (fun _ => rfl) (fun _ => rfl) (fun _ => .of rfl rfl) fun v hv => ?_
  refine TieO.nil ?_
  exact TieS.leaf ⟨.inr rfl, ⟨[(1000000, 1000000)], _, _, rfl, rfl, rfl, rfl, rfl⟩⟩
-- magneto/arbiter.decide$1
set_option maxRecDepth 100000 in
theorem tie_arbiter_decide_1 (a : SRequest) (b2 : SRequest) : TieF Try.prog 38 [A_SRequest a, A_SRequest b2] (arbiter_decide_1 a b2) (fun r => .t (tI r)) := by
  refine TieF.intro htab 10 [.tmp 4] Try.call38 Try.func38 rfl rfl rfl (Nat.le_of_ble_eq_true rfl) fun w0 L => ?_
  refine TieS.seq ?_
  refine TieS.region ?_
  refine TieO.run 3 rfl ?_
  refine TieO.nil ?_
  refine TieS.seq ?_
  refine TieS.region ?_
  refine TieO.run 6 rfl ?_
  refine TieO.nil ?_
  exact TieS.ret ⟨.inl rfl, rfl⟩
-- (*magneto/arbiter.span).atMost
set_option maxRecDepth 100000 in
theorem tie_arbiter_span_atMost (s : Sarbiter_span) (t2 : Int) : TieG Try.prog 53 [.ptr 1000000 0, .t (tI t2)] [(1000000, .box [.t (tI s.low), .t (tI s.high), .t (tI s.source)])] (arbiter_span_atMost s t2) (fun _ => .tup []) (fun r => [(1000000, .box [.t (tI r.low), .t (tI r.high), .t (tI r.source)])]) := by
  refine TieG.intro htab 18 [] Try.call53 Try.func53 rfl rfl rfl (Nat.le_of_ble_eq_true rfl) fun w0 L => ?_
  refine TieS.draw 14 [.ptr 1000000 0, .ptr 1000000 0, .ptr 1000000 0, .ptr 1000000 0, .t (tI s.low), .ptr 1000000 0, .ptr 1000000 0, .ptr 1000000 1, .t (tI s.high), .t (tI t2), .t (tI (minI s.high t2)), .t (tI (maxI s.low (minI s.high t2))), .ptr 1000000 0, .ptr 1000000 1] [(0, .ptr 1000000 0), (1, .t (tI t2))] [(1000000, .box [.t (tI s.low), .t (tI s.high), .t (tI s.source)])] mixed (.of rfl rfl) rfl rfl rfl rfl (.cons (.quiet rfl rfl rfl) (.cons (.quiet rfl rfl rfl) (.cons (.quiet rfl rfl rfl) (.cons (.quiet rfl rfl rfl) (.cons (.quiet rfl rfl rfl) (.cons (.quiet rfl rfl rfl) (.cons (.quiet rfl rfl rfl) (.cons (.quiet rfl rfl rfl) (.cons (.quiet rfl rfl rfl) (.cons (.quiet rfl rfl rfl) (.cons (.quiet rfl rfl rfl) (.cons (.quiet rfl rfl rfl) (.cons (.quiet rfl rfl rfl) (.cons (.quiet rfl rfl rfl) (.nil))))))))))))))) ?_
  refine TieO.run 1 rfl ?_
  refine TieO.nil ?_
  exact TieS.leaf ⟨.inr rfl, ⟨[(1000000, 1000000)], _, _, rfl, rfl, rfl, rfl, rfl⟩⟩
-- (*magneto/arbiter.span).atLeast
set_option maxRecDepth 100000 in
theorem tie_arbiter_span_atLeast (s : Sarbiter_span) (t2 : Int) : TieG Try.prog 54 [.ptr 1000000 0, .t (tI t2)] [(1000000, .box [.t (tI s.low), .t (tI s.high), .t (tI s.source)])] (arbiter_span_atLeast s t2) (fun _ => .tup []) (fun r => [(1000000, .box [.t (tI r.low), .t (tI r.high), .t (tI r.source)])]) := by
  refine TieG.intro htab 18 [] Try.call54 Try.func54 rfl rfl rfl (Nat.le_of_ble_eq_true rfl) fun w0 L => ?_
  refine TieS.draw 14 [.ptr 1000000 0, .ptr 1000000 0, .ptr 1000000 0, .ptr 1000000 1, .t (tI s.high), .ptr 1000000 0, .ptr 1000000 0, .ptr 1000000 0, .t (tI s.low), .t (tI t2), .t (tI (maxI s.low t2)), .t (tI (minI s.high (maxI s.low t2))), .ptr 1000000 0, .ptr 1000000 0] [(0, .ptr 1000000 0), (1, .t (tI t2))] [(1000000, .box [.t (tI s.low), .t (tI s.high), .t (tI s.source)])] mixed (.of rfl rfl) rfl rfl rfl rfl (.cons (.quiet rfl rfl rfl) (.cons (.quiet rfl rfl rfl) (.cons (.quiet rfl rfl rfl) (.cons (.quiet rfl rfl rfl) (.cons (.quiet rfl rfl rfl) (.cons (.quiet rfl rfl rfl) (.cons (.quiet rfl rfl rfl) (.cons (.quiet rfl rfl rfl) (.cons (.quiet rfl rfl rfl) (.cons (.quiet rfl rfl rfl) (.cons (.quiet rfl rfl rfl) (.cons (.quiet rfl rfl rfl) (.cons (.quiet rfl rfl rfl) (.cons (.quiet rfl rfl rfl) (.nil))))))))))))))) ?_
  refine TieO.run 1 rfl ?_
  refine TieO.nil ?_
  exact TieS.leaf ⟨.inr rfl, ⟨[(1000000, 1000000)], _, _, rfl, rfl, rfl, rfl, rfl⟩⟩
-- magneto/arith.Clamp
set_option maxRecDepth 100000 in
theorem tie_arith_Clamp (x : Int) (low : Int) (high : Int) : TieF Try.prog 64 [.t (tI x), .t (tI low), .t (tI high)] (arith_Clamp x low high) (fun r => .t (tI r)) := by
  refine TieF.intro htab 12 [.tmp 6] Try.call64 Try.func64 rfl rfl rfl (Nat.le_of_ble_eq_true rfl) fun w0 L => ?_
  refine TieS.seq ?_
  refine TieS.region ?_
  refine TieO.run 1 rfl ?_
  refine TieO.nil ?_
  refine TieS.seq ?_
  refine TieS.region ?_
  refine TieO.run 6 rfl ?_
  refine TieO.nil ?_
  exact TieS.ret ⟨.inl rfl, rfl⟩
-- (*magneto/arbiter.span).exactly
set_option maxRecDepth 100000 in
theorem tie_arbiter_span_exactly (s : Sarbiter_span) (t2 : Int) : TieG Try.prog 55 [.ptr 1000000 0, .t (tI t2)] [(1000000, .box [.t (tI s.low), .t (tI s.high), .t (tI s.source)])] (arbiter_span_exactly s t2) (fun _ => .tup []) (fun r => [(1000000, .box [.t (tI r.low), .t (tI r.high), .t (tI r.source)])]) := by
  refine TieG.intro htab 22 [] Try.call55 Try.func55 rfl rfl rfl (Nat.le_of_ble_eq_true rfl) fun w0 L => ?_
  refine TieS.seq ?_
  refine TieX.pre fun v hv => ?_
  refine TieS.draw 10 [.t (tI t2), .ptr 1000000 0, .ptr 1000000 0, .ptr 1000000 0, .t (tI s.low), .ptr 1000000 0, .ptr 1000000 0, .ptr 1000000 1, .t (tI s.high), .t (tI v)] [(0, .ptr 1000000 0), (1, .t (tI t2))] [(1000000, .box [.t (tI s.low), .t (tI s.high), .t (tI s.source)])] mixed (.of rfl rfl) rfl rfl rfl rfl (.cons (.quiet rfl rfl rfl) (.cons (.quiet rfl rfl rfl) (.cons (.quiet rfl rfl rfl) (.cons (.quiet rfl rfl rfl) (.cons (.quiet rfl rfl rfl) (.cons (.quiet rfl rfl rfl) (.cons (.quiet rfl rfl rfl) (.cons (.quiet rfl rfl rfl) (.cons (.quiet rfl rfl rfl) (.cons (.callV (tie_arith_Clamp t2 s.low s.high) hv rfl rfl rfl rfl) (.nil))))))))))) ?_
  refine TieO.run 1 rfl ?_
  refine TieO.nil ?_
  refine TieS.region ?_
  refine TieO.run 10 rfl ?_
  refine TieO.nil ?_
  exact TieS.leaf ⟨.inr rfl, ⟨[(1000000, 1000000)], _, _, rfl, rfl, rfl, rfl, rfl⟩⟩
-- (*magneto/arbiter.span).narrow
set_option maxRecDepth 100000 in
theorem tie_arbiter_span_narrow (s : Sarbiter_span) (r2 : SRequest) : TieG Try.prog 39 [.ptr 1000000 0, A_SRequest r2] [(1000000, .box [.t (tI s.low), .t (tI s.high), .t (tI s.source)])] (arbiter_span_narrow s r2) (fun r => .t (tB r.1)) (fun r => [(1000000, .box [.t (tI r.2.low), .t (tI r.2.high), .t (tI r.2.source)])]) := by
  refine TieG.intro htab 57 [.tmp 4] Try.call39 Try.func39 rfl rfl rfl (Nat.le_of_ble_eq_true rfl) fun w0 L => ?_
  refine TieS.seq ?_
  refine TieS.region ?_
  refine TieO.run 2 rfl ?_
  refine TieO.nil ?_
  refine TieS.seq ?_
  refine TieS.region ?_
  refine TieO.run 5 rfl ?_
  refine TieO.nil ?_
  refine TieS.seq ?_
  refine TieS.seq ?_
  refine TieS.region ?_
  refine TieO.run 2 rfl ?_
  refine TieO.nil ?_
  refine TieS.bind (Q₁ := fun t e σ' => e = .normal ∧ Sub ⟨[(0, .ptr 1000000 0), (3, .ptr 3 0), (5, .ptr 5 0)], [(3, .box [.t (tI r2.Source), .t (tI r2.Kind), .t (tI r2.Torque), .t (tI r2.Priority)]), (5, .box [.t (tI s.low), .t (tI s.high), .t (tI s.source)]), (1000000, .box [.t (tI t.low), .t (tI t.high), .t (tI t.source)])]⟩ σ') ?_ ?_
  · refine TieS.block ?_
    refine TieS.seq ?_
    refine TieS.region ?_
    refine TieO.run 2 rfl ?_
    refine TieO.nil ?_
    refine TieS.cond rfl ?_ ?_
    · refine TieS.region ?_
      refine TieO.run 3 rfl ?_
      refine TieO.callG [(1000000, 1000000)] [] (fun v => ⟨[(0, .ptr 1000000 0), (1, .agg [.t (tI r2.Source), .t (tI r2.Kind), .t (tI r2.Torque), .t (tI r2.Priority)]), (3, .ptr 3 0), (4, .t (tB false)), (5, .ptr 5 0), (6, .ptr 1000000 0), (7, .ptr 1000000 0), (8, .agg [.t (tI s.low), .t (tI s.high), .t (tI s.source)]), (9, .ptr 3 1), (10, .t (tI r2.Kind)), (11, .t (tB (r2.Kind == 1))), (12, .t (tB (r2.Kind == 1))), (13, .ptr 1000000 0), (14, .ptr 3 2), (15, .t (tI r2.Torque)), (16, .tup [])], [(3, .box [.t (tI r2.Source), .t (tI r2.Kind), .t (tI r2.Torque), .t (tI r2.Priority)]), (5, .box [.t (tI s.low), .t (tI s.high), .t (tI s.source)]), (1000000, .box [.t (tI v.low), .t (tI v.high), .t (tI v.source)])]⟩) (tie_arbiter_span_atMost s r2.Torque) rfl rfl rfl rfl rfl rfl rfl (fun _ => rfl) (fun _ => rfl) (fun _ => rfl) (fun _ => .of rfl rfl) fun v hv => ?_
      refine TieO.nil ?_
      refine TieS.endb ?_
      exact TieS.leaf ⟨rfl, .of rfl rfl⟩
    · refine TieS.seq ?_
      refine TieS.region ?_
      refine TieO.run 2 rfl ?_
      refine TieO.nil ?_
      refine TieS.cond rfl ?_ ?_
      · refine TieS.region ?_
        refine TieO.run 3 rfl ?_
        refine TieO.callG [(1000000, 1000000)] [] (fun v2 => ⟨[(0, .ptr 1000000 0), (1, .agg [.t (tI r2.Source), .t (tI r2.Kind), .t (tI r2.Torque), .t (tI r2.Priority)]), (3, .ptr 3 0), (4, .t (tB false)), (5, .ptr 5 0), (6, .ptr 1000000 0), (7, .ptr 1000000 0), (8, .agg [.t (tI s.low), .t (tI s.high), .t (tI s.source)]), (9, .ptr 3 1), (10, .t (tI r2.Kind)), (11, .t (tB (r2.Kind == 1))), (12, .t (tB (r2.Kind == 1))), (17, .t (tB (r2.Kind == 2))), (18, .t (tB (r2.Kind == 2))), (19, .ptr 1000000 0), (20, .ptr 3 2), (21, .t (tI r2.Torque)), (22, .tup [])], [(3, .box [.t (tI r2.Source), .t (tI r2.Kind), .t (tI r2.Torque), .t (tI r2.Priority)]), (5, .box [.t (tI s.low), .t (tI s.high), .t (tI s.source)]), (1000000, .box [.t (tI v2.low), .t (tI v2.high), .t (tI v2.source)])]⟩) (tie_arbiter_span_atLeast s r2.Torque) rfl rfl rfl rfl rfl rfl rfl (fun _ => rfl) (fun _ => rfl) (fun _ => rfl) (fun _ => .of rfl rfl) fun v2 hv2 => ?_
        refine TieO.nil ?_
        refine TieS.endb ?_
        exact TieS.leaf ⟨rfl, .of rfl rfl⟩
      · refine TieS.seq ?_
        refine TieS.region ?_
        refine TieO.run 2 rfl ?_
        refine TieO.nil ?_
        refine TieS.cond rfl ?_ ?_
        · refine TieS.region ?_
          refine TieO.run 3 rfl ?_
          refine TieO.callG [(1000000, 1000000)] [] (fun v3 => ⟨[(0, .ptr 1000000 0), (1, .agg [.t (tI r2.Source), .t (tI r2.Kind), .t (tI r2.Torque), .t (tI r2.Priority)]), (3, .ptr 3 0), (4, .t (tB false)), (5, .ptr 5 0), (6, .ptr 1000000 0), (7, .ptr 1000000 0), (8, .agg [.t (tI s.low), .t (tI s.high), .t (tI s.source)]), (9, .ptr 3 1), (10, .t (tI r2.Kind)), (11, .t (tB (r2.Kind == 1))), (12, .t (tB (r2.Kind == 1))), (17, .t (tB (r2.Kind == 2))), (18, .t (tB (r2.Kind == 2))), (23, .t (tB (r2.Kind == 3))), (24, .t (tB (r2.Kind == 3))), (25, .ptr 1000000 0), (26, .ptr 3 2), (27, .t (tI r2.Torque)), (28, .tup [])], [(3, .box [.t (tI r2.Source), .t (tI r2.Kind), .t (tI r2.Torque), .t (tI r2.Priority)]), (5, .box [.t (tI s.low), .t (tI s.high), .t (tI s.source)]), (1000000, .box [.t (tI v3.low), .t (tI v3.high), .t (tI v3.source)])]⟩) (tie_arbiter_span_exactly s r2.Torque) rfl rfl rfl rfl rfl rfl rfl (fun _ => rfl) (fun _ => rfl) (fun _ => rfl) (fun _ => .of rfl rfl) fun v3 hv3 => ?_
          refine TieO.nil ?_
          refine TieS.endb ?_
          exact TieS.leaf ⟨rfl, .of rfl rfl⟩
        · refine TieS.skip ?_
          refine TieS.endb ?_
          exact TieS.leaf ⟨rfl, .of rfl rfl⟩
  rintro f2 e σ' _ ⟨rfl, hs⟩
  refine TieX.sub hs ?_
  refine TieS.seq ?_
  refine TieS.seq ?_
  refine TieS.draw 7 [.ptr 1000000 0, .ptr 1000000 0, .ptr 1000000 0, .t (tI f2.low), .ptr 5 0, .t (tI s.low), .t (tB (f2.low != s.low))] [(0, .ptr 1000000 0), (3, .ptr 3 0), (5, .ptr 5 0)] [(3, .box [.t (tI r2.Source), .t (tI r2.Kind), .t (tI r2.Torque), .t (tI r2.Priority)]), (5, .box [.t (tI s.low), .t (tI s.high), .t (tI s.source)]), (1000000, .box [.t (tI f2.low), .t (tI f2.high), .t (tI f2.source)])] mixed (.of rfl rfl) rfl rfl rfl rfl (.cons (.quiet rfl rfl rfl) (.cons (.quiet rfl rfl rfl) (.cons (.quiet rfl rfl rfl) (.cons (.quiet rfl rfl rfl) (.cons (.quiet rfl rfl rfl) (.cons (.quiet rfl rfl rfl) (.cons (.quiet rfl rfl rfl) (.nil)))))))) ?_
  refine TieO.nil ?_
  refine TieS.bind (Q₁ := fun t e σ' => e = .normal ∧ Sub ⟨[(0, .ptr 1000000 0), (5, .ptr 5 0)], [(5, .box [.t (tI s.low), .t (tI s.high), .t (tI s.source)]), (1000000, .box [.t (tI f2.low), .t (tI f2.high), .t (tI t)])]⟩ σ') ?_ ?_
  · refine TieS.cond rfl ?_ ?_
    · refine TieS.region ?_
      refine TieO.run 6 rfl ?_
      refine TieO.nil ?_
      exact TieS.leaf ⟨rfl, .of rfl rfl⟩
    · refine TieS.skip ?_
      exact TieS.leaf ⟨rfl, .of rfl rfl⟩
  rintro f3 e σ' _ ⟨rfl, hs⟩
  refine TieX.sub hs ?_
  refine TieS.seq ?_
  refine TieX.split (fun hg => ?_) (fun hg2 => ?_)
  · refine TieS.draw 17 [.ptr 1000000 0, .ptr 1000000 0, .ptr 1000000 0, .t (tI f2.low), .ptr 5 0, .t (tI s.low), .t (tB (f2.low != s.low)), .t (tB true), .t (.v undef), .t (.v undef), .t (.v undef), .t (.v undef), .t (.v undef), .t (.v undef), .t (.v undef), .t (tB true), .t (tB true)] [(0, .ptr 1000000 0), (5, .ptr 5 0)] [(5, .box [.t (tI s.low), .t (tI s.high), .t (tI s.source)]), (1000000, .box [.t (tI f2.low), .t (tI f2.high), .t (tI f3)])] mixed (.of rfl rfl) rfl rfl rfl rfl (.cons (.quiet rfl rfl rfl) (.cons (.quiet rfl rfl rfl) (.cons (.quiet rfl rfl rfl) (.cons (.quiet rfl rfl rfl) (.cons (.quiet rfl rfl rfl) (.cons (.quiet rfl rfl rfl) (.cons (.quiet rfl rfl rfl) (.cons (.cast (congrArg T.B hg) (.quiet rfl rfl rfl)) (.cons (.skip rfl) (.cons (.skip rfl) (.cons (.skip rfl) (.cons (.skip rfl) (.cons (.skip rfl) (.cons (.skip rfl) (.cons (.skip rfl) (.cons (.quiet rfl rfl rfl) (.cons (.quiet rfl rfl rfl) (.nil)))))))))))))))))) ?_
    refine TieO.nil ?_
    exact TieS.ret ⟨.inl rfl, ⟨[(1000000, 1000000)], _, _, rfl, rfl, rfl, rfl, rfl⟩⟩
  · refine TieS.draw 17 [.ptr 1000000 0, .ptr 1000000 0, .ptr 1000000 0, .t (tI f2.low), .ptr 5 0, .t (tI s.low), .t (tB (f2.low != s.low)), .t (tB false), .ptr 1000000 0, .ptr 1000000 0, .ptr 1000000 1, .t (tI f2.high), .ptr 5 1, .t (tI s.high), .t (tB (f2.high != s.high)), .t (tB (f2.high != s.high)), .t (tB (f2.high != s.high))] [(0, .ptr 1000000 0), (5, .ptr 5 0)] [(5, .box [.t (tI s.low), .t (tI s.high), .t (tI s.source)]), (1000000, .box [.t (tI f2.low), .t (tI f2.high), .t (tI f3)])] mixed (.of rfl rfl) rfl rfl rfl rfl (.cons (.quiet rfl rfl rfl) (.cons (.quiet rfl rfl rfl) (.cons (.quiet rfl rfl rfl) (.cons (.quiet rfl rfl rfl) (.cons (.quiet rfl rfl rfl) (.cons (.quiet rfl rfl rfl) (.cons (.quiet rfl rfl rfl) (.cons (.cast (congrArg T.B hg2) (.quiet rfl rfl rfl)) (.cons (.quiet rfl rfl rfl) (.cons (.quiet rfl rfl rfl) (.cons (.quiet rfl rfl rfl) (.cons (.quiet rfl rfl rfl) (.cons (.quiet rfl rfl rfl) (.cons (.quiet rfl rfl rfl) (.cons (.quiet rfl rfl rfl) (.cons (.quiet rfl rfl rfl) (.cons (.quiet rfl rfl rfl) (.nil)))))))))))))))))) ?_
    refine TieO.nil ?_
    exact TieS.ret ⟨.inl rfl, ⟨[(1000000, 1000000)], _, _, rfl, rfl, rfl, rfl, rfl⟩⟩
-- magneto/arbiter.decide
set_option maxRecDepth 100000 in
theorem tie_arbiter_decide (l : List SRequest) (low : Int) (high : Int) : TieF Try.prog 28 [.t (tS enc_SRequest l), .t (tI low), .t (tI high)] (arbiter_decide l low high) (fun r => .tup [A_Sarbiter_span r.1, .t (tS Pv.encI r.2)]) := by
  refine TieF.intro htab 38 [.cell 6 58, .tmp 7] Try.call28 Try.func28 rfl rfl rfl (Nat.le_of_ble_eq_true rfl) fun w0 L => ?_
  refine TieS.seq ?_
  refine TieS.region ?_
  refine TieO.run 2 rfl ?_
  refine TieO.nil ?_
  refine TieS.seq ?_
  refine TieS.region ?_
  refine TieO.run 1 rfl ?_
  refine TieO.callG [] [(900000, 2104)] (fun v => ⟨[(0, .t (tS enc_SRequest l)), (1, .t (tI low)), (2, .t (tI high)), (6, .ptr 6 0), (7, .t (.v (.slice none 0 0))), (12, .t (tS enc_SRequest l)), (13, .own 2104)], [(6, .box [.t (tI 0), .t (tI 0), .t (tI 0)]), (2104, .rows 35 4 v.length (v.map enc_SRequest))]⟩) (tie_slices_Clone_sRequest l) rfl rfl rfl rfl rfl rfl rfl (fun _ => rfl) (fun _ => rfl) (fun _ => rfl) (fun _ => .of rfl rfl) fun v hv => ?_
  refine TieO.run 1 rfl ?_
  refine TieO.nil ?_
  refine TieS.seq ?_
  refine TieS.region ?_
  refine TieO.run 1 rfl ?_
  refine TieO.callG [(1000000, 2104)] [] (fun v2 => ⟨[(0, .own 2104), (1, .t (tI low)), (2, .t (tI high)), (6, .ptr 6 0), (7, .t (.v (.slice none 0 0))), (12, .t (tS enc_SRequest l)), (13, .own 2104), (14, .own 2104), (15, .tup [])], [(6, .box [.t (tI 0), .t (tI 0), .t (tI 0)]), (2104, .rows 35 4 v2.length (v2.map enc_SRequest))]⟩) (tie_slices_SortStableFunc_sRequest v 38 [] arbiter_decide_1 tie_arbiter_decide_1) rfl rfl rfl rfl rfl rfl rfl (fun _ => rfl) (fun _ => rfl) (fun _ => rfl) (fun _ => .of rfl rfl) fun v2 hv2 => ?_
  refine TieO.nil ?_
  refine TieS.seq ?_
  refine TieS.region ?_
  refine TieO.run 5 rfl ?_
  refine TieO.nil ?_
  refine TieS.seq ?_
  refine TieS.region ?_
  refine TieO.run 1 rfl ?_
  refine TieO.nil ?_
  refine TieS.seq ?_
  refine TieS.seq ?_
  refine TieS.region ?_
  refine TieO.run 3 rfl ?_
  refine TieO.nil ?_
  refine TieS.block ?_
  refine TieX.nilP 9 2248 3 1 [] rfl rfl rfl rfl rfl ?_
  refine TieS.loop (fun p => ⟨[(6, .ptr 6 0), (8, .ptr 8 0), (9, .own 2248), (19, .own 2104), (20, .t (tI (v2.length : Int))), (21, .t (tI p.1))], [(6, .box [.t (tI 0), .t (tI 0), .t (tI 0)]), (8, .box [.t (tI p.2.2.low), .t (tI p.2.2.high), .t (tI p.2.2.source)]), (2104, .rows 35 4 v2.length (v2.map enc_SRequest)), (2248, .rows 3 1 p.2.1.length (p.2.1.map Pv.encI))]⟩) (fun b e σ' => match b with | .inl t => e = .exit 0 ∧ Sub ⟨[(6, .ptr 6 0), (8, .ptr 8 0), (9, .own 2248)], [(6, .box [.t (tI 0), .t (tI 0), .t (tI 0)]), (8, .box [.t (tI t.2.low), .t (tI t.2.high), .t (tI t.2.source)]), (2248, .rows 3 1 t.1.length (t.1.map Pv.encI))]⟩ σ' | .inr t => False) (.of rfl rfl) ?_ ?_
  · rintro ⟨i, s⟩
    refine TieS.seq ?_
    refine TieS.region ?_
    refine TieO.run 1 rfl ?_
    refine TieO.nil ?_
    refine TieS.seq ?_
    refine TieS.cond rfl ?_ ?_
    · refine TieS.skip ?_
      refine TieS.seq ?_
      refine TieX.pre fun x hx => ?_
      refine TieX.sub (σ' := ⟨[(6, .ptr 6 0), (8, .ptr 8 0), (9, .own 2248), (19, .own 2104), (20, .t (tI (v2.length : Int))), (21, .t (tI i))], [(6, .box [.t (tI 0), .t (tI 0), .t (tI 0)]), (8, .box [.t (tI s.2.low), .t (tI s.2.high), .t (tI s.2.source)]), (2104, .rows 35 4 v2.length (v2.map enc_SRequest)), (2248, .rows 3 1 s.1.length (s.1.map Pv.encI))]⟩) (.of rfl rfl) ?_
      refine TieS.bind (Q₁ := fun f e σ' => match f with | .next t => e = .normal ∧ Sub ⟨[(6, .ptr 6 0), (8, .ptr 8 0), (9, .own 2248), (19, .own 2104), (20, .t (tI (v2.length : Int))), (21, .t (tI i))], [(6, .box [.t (tI 0), .t (tI 0), .t (tI 0)]), (8, .box [.t (tI t.2.low), .t (tI t.2.high), .t (tI t.2.source)]), (2104, .rows 35 4 v2.length (v2.map enc_SRequest)), (2248, .rows 3 1 t.1.length (t.1.map Pv.encI))]⟩ σ' | .brk t => e = .exit 0 ∧ Sub ⟨[(6, .ptr 6 0), (8, .ptr 8 0), (9, .own 2248)], [(6, .box [.t (tI 0), .t (tI 0), .t (tI 0)]), (8, .box [.t (tI t.2.low), .t (tI t.2.high), .t (tI t.2.source)]), (2248, .rows 3 1 t.1.length (t.1.map Pv.encI))]⟩ σ' | .ret r => False) ?_ ?_
      · refine TieS.block ?_
        refine TieS.seq ?_
        refine TieS.region ?_
        refine TieO.indexOH hx rfl rfl rfl rfl rfl rfl rfl rfl rfl rfl ?_
        refine TieO.loadY hx rfl rfl rfl rfl rfl rfl rfl rfl ?_
        refine TieO.run 2 rfl ?_
        refine TieO.nil ?_
        refine TieS.seq ?_
        refine TieS.region ?_
        refine TieO.run 1 rfl ?_
        refine TieO.callG [(1000000, 8)] [] (fun r2 => ⟨[(6, .ptr 6 0), (8, .ptr 8 0), (9, .own 2248), (11, .ptr 11 0), (19, .own 2104), (20, .t (tI (v2.length : Int))), (21, .t (tI i)), (23, .pe 2104 (Int.toNat i) 4 0), (24, .agg [.t (tI x.Source), .t (tI x.Kind), .t (tI x.Torque), .t (tI x.Priority)]), (25, .agg [.t (tI x.Source), .t (tI x.Kind), .t (tI x.Torque), .t (tI x.Priority)]), (26, .t (tB r2.1))], [(6, .box [.t (tI 0), .t (tI 0), .t (tI 0)]), (8, .box [.t (tI r2.2.low), .t (tI r2.2.high), .t (tI r2.2.source)]), (11, .box [.t (tI x.Source), .t (tI x.Kind), .t (tI x.Torque), .t (tI x.Priority)]), (2104, .rows 35 4 v2.length (v2.map enc_SRequest)), (2248, .rows 3 1 s.1.length (s.1.map Pv.encI))]⟩) (tie_arbiter_span_narrow s.2 x) rfl rfl rfl rfl rfl rfl rfl (fun _ => rfl) (fun _ => rfl) (fun _ => rfl) (fun _ => .of rfl rfl) fun r2 hr2 => ?_
        refine TieO.nil ?_
        refine TieS.cond rfl ?_ ?_
        · refine TieS.region ?_
          refine TieO.run 4 rfl ?_
          refine TieO.appendY (id := 2248) (l := s.1) (r := ([x.Source] : List Int)) (tm' := [(6, .ptr 6 0), (8, .ptr 8 0), (11, .ptr 11 0), (19, .own 2104), (20, .t (tI (v2.length : Int))), (21, .t (tI i)), (23, .pe 2104 (Int.toNat i) 4 0), (24, .agg [.t (tI x.Source), .t (tI x.Kind), .t (tI x.Torque), .t (tI x.Priority)]), (25, .agg [.t (tI x.Source), .t (tI x.Kind), .t (tI x.Torque), .t (tI x.Priority)]), (26, .t (tB r2.1)), (28, .ptr 11 0), (29, .t (tI x.Source)), (30, .own 30)]) (hp' := [(6, .box [.t (tI 0), .t (tI 0), .t (tI 0)]), (8, .box [.t (tI r2.2.low), .t (tI r2.2.high), .t (tI r2.2.source)]), (11, .box [.t (tI x.Source), .t (tI x.Kind), .t (tI x.Torque), .t (tI x.Priority)]), (30, .rows 3 1 ([x.Source] : List Int).length (([x.Source] : List Int).map Pv.encI)), (2104, .rows 35 4 v2.length (v2.map enc_SRequest))]) rfl rfl rfl rfl rfl rfl rfl (fun _ => rfl) (fun _ => rfl) (.inl ⟨rfl, rfl⟩) (.inr ⟨_, rfl, rfl⟩) (.of rfl rfl) rfl rfl rfl fun l2 => ?_
          refine TieO.run 1 rfl ?_
          refine TieO.nil ?_
          refine TieS.endb ?_
          exact TieS.leaf ⟨rfl, .of rfl rfl⟩
        · refine TieS.skip ?_
          refine TieS.endb ?_
          exact TieS.leaf ⟨rfl, .of rfl rfl⟩
      rintro (t | t | r) e σ' _ hq
      · obtain ⟨rfl, hs⟩ := hq
        refine TieX.sub hs ?_
        refine TieS.region ?_
        refine TieO.run 2 rfl ?_
        refine TieO.nil ?_
        exact TieS.leaf ⟨rfl, .of rfl rfl⟩
      · obtain ⟨rfl, hs⟩ := hq
        exact TieX.exitOut rfl ⟨(fun h => by cases h), rfl, hs⟩
      · exact hq.elim
    · exact TieS.exitOut rfl ⟨(fun h => by cases h), rfl, .of rfl rfl⟩
  rintro (s2 | r) e σ' _ hq
  · obtain ⟨rfl, hs⟩ := hq
    refine TieX.exit rfl (TieX.sub hs ?_)
    refine TieS.seq ?_
    refine TieS.region ?_
    refine TieO.run 1 rfl ?_
    refine TieO.callG [(1000000, 2248)] [] (fun v3 => ⟨[(6, .ptr 6 0), (8, .ptr 8 0), (9, .own 2248), (33, .own 2248), (34, .tup [])], [(6, .box [.t (tI 0), .t (tI 0), .t (tI 0)]), (8, .box [.t (tI s2.2.low), .t (tI s2.2.high), .t (tI s2.2.source)]), (2248, .rows 3 1 v3.length (v3.map Pv.encI))]⟩) (tie_slices_Sort_sint s2.1) rfl rfl rfl rfl rfl rfl rfl (fun _ => rfl) (fun _ => rfl) (fun _ => rfl) (fun _ => .of rfl rfl) fun v3 hv3 => ?_
    refine TieO.nil ?_
    refine TieS.seq ?_
    refine TieS.bind (Q₁ := fun t e σ' => e = .normal ∧ Sub ⟨[(6, .ptr 6 0), (7, .own 2296)], [(6, .box [.t (tI t.2.low), .t (tI t.2.high), .t (tI t.2.source)]), (2296, .rows 3 1 t.1.length (t.1.map Pv.encI))]⟩ σ') ?_ ?_
    · refine TieX.pre fun v4 hv4 => ?_
      refine TieS.draws 3 [false, false, false, false, false] [true, true, true, false, false] ⟨[(6, .ptr 6 0), (8, .ptr 8 0), (35, .agg [.t (tI s2.2.low), .t (tI s2.2.high), .t (tI s2.2.source)]), (37, .own 2296)], [(6, .box [.t (tI 0), .t (tI 0), .t (tI 0)]), (8, .box [.t (tI s2.2.low), .t (tI s2.2.high), .t (tI s2.2.source)]), (2296, .rows 3 1 v4.length (v4.map Pv.encI))]⟩ mixed (fun _ _ _ h => by cases h.1) rfl rfl rfl rfl ?_ ?_
      · refine TieA.have_ (fuel₁ := 2) (l₁ := [true, true, true, false, false]) (σ₁ := ⟨[(6, .ptr 6 0), (8, .ptr 8 0), (35, .agg [.t (tI s2.2.low), .t (tI s2.2.high), .t (tI s2.2.source)]), (37, .own 2296)], [(6, .box [.t (tI 0), .t (tI 0), .t (tI 0)]), (8, .box [.t (tI s2.2.low), .t (tI s2.2.high), .t (tI s2.2.source)]), (2296, .rows 3 1 v4.length (v4.map Pv.encI))]⟩) ?_ fun A_2 => ?_
        · exact TieA.done (.of rfl rfl)
        refine TieA.have_ (fuel₁ := 3) (l₁ := [true, true, false, false, false]) (σ₁ := ⟨[(6, .ptr 6 0), (8, .ptr 8 0), (9, .own 2248), (35, .agg [.t (tI s2.2.low), .t (tI s2.2.high), .t (tI s2.2.source)]), (36, .own 2248)], [(6, .box [.t (tI 0), .t (tI 0), .t (tI 0)]), (8, .box [.t (tI s2.2.low), .t (tI s2.2.high), .t (tI s2.2.source)]), (2248, .rows 3 1 v3.length (v3.map Pv.encI))]⟩) ?_ fun A_1 => ?_
        · refine TieA.all [2] (by kernel_rfl) rfl ?_
          refine AllA.cons (σ₁ := ⟨[(6, .ptr 6 0), (8, .ptr 8 0), (35, .agg [.t (tI s2.2.low), .t (tI s2.2.high), .t (tI s2.2.source)]), (37, .own 2296)], [(6, .box [.t (tI 0), .t (tI 0), .t (tI 0)]), (8, .box [.t (tI s2.2.low), .t (tI s2.2.high), .t (tI s2.2.source)]), (2296, .rows 3 1 v4.length (v4.map Pv.encI))]⟩) [true, true, true, false, false] rfl rfl ?_ A_2 ?_
          · refine TieO.withH hv4 (TieO.callG [(1000000, 2248)] [(900000, 2296)] (fun v4 => ⟨[(6, .ptr 6 0), (8, .ptr 8 0), (35, .agg [.t (tI s2.2.low), .t (tI s2.2.high), .t (tI s2.2.source)]), (37, .own 2296)], [(6, .box [.t (tI 0), .t (tI 0), .t (tI 0)]), (8, .box [.t (tI s2.2.low), .t (tI s2.2.high), .t (tI s2.2.source)]), (2296, .rows 3 1 v4.length (v4.map Pv.encI))]⟩) (tie_slices_Compact_sint v3) rfl rfl rfl rfl rfl rfl rfl (fun _ => rfl) (fun _ => rfl) (fun _ => rfl) (fun _ => .of rfl rfl) (TieO.ifG ?_))
            exact TieO.nil (TieS.leaf ⟨rfl, .of rfl rfl⟩)
          exact AllA.nil
        refine TieA.have_ (fuel₁ := 3) (l₁ := [false, true, true, false, false]) (σ₁ := ⟨[(6, .ptr 6 0), (8, .ptr 8 0), (37, .own 2296)], [(6, .box [.t (tI 0), .t (tI 0), .t (tI 0)]), (8, .box [.t (tI s2.2.low), .t (tI s2.2.high), .t (tI s2.2.source)]), (2296, .rows 3 1 v4.length (v4.map Pv.encI))]⟩) ?_ fun A_3 => ?_
        · refine TieA.all [0] (by kernel_rfl) rfl ?_
          refine AllA.cons (σ₁ := ⟨[(6, .ptr 6 0), (8, .ptr 8 0), (35, .agg [.t (tI s2.2.low), .t (tI s2.2.high), .t (tI s2.2.source)]), (37, .own 2296)], [(6, .box [.t (tI 0), .t (tI 0), .t (tI 0)]), (8, .box [.t (tI s2.2.low), .t (tI s2.2.high), .t (tI s2.2.source)]), (2296, .rows 3 1 v4.length (v4.map Pv.encI))]⟩) [true, true, true, false, false] rfl rfl ?_ A_2 ?_
          · refine TieO.run 1 rfl ?_
            exact TieO.nil (TieS.leaf ⟨rfl, .of rfl rfl⟩)
          exact AllA.nil
        refine TieA.move 1 [false, true, false, false, false] rfl rfl (by first | exact .inl rfl | exact .inr rfl) rfl rfl rfl (by kernel_rfl) (by kernel_rfl) (by kernel_rfl) rfl ?_
        refine TieA.all [0, 2] (by kernel_rfl) rfl ?_
        refine AllA.cons (σ₁ := ⟨[(6, .ptr 6 0), (8, .ptr 8 0), (9, .own 2248), (35, .agg [.t (tI s2.2.low), .t (tI s2.2.high), .t (tI s2.2.source)]), (36, .own 2248)], [(6, .box [.t (tI 0), .t (tI 0), .t (tI 0)]), (8, .box [.t (tI s2.2.low), .t (tI s2.2.high), .t (tI s2.2.source)]), (2248, .rows 3 1 v3.length (v3.map Pv.encI))]⟩) [true, true, false, false, false] rfl rfl ?_ A_1 ?_
        · refine TieO.run 1 rfl ?_
          exact TieO.nil (TieS.leaf ⟨rfl, .of rfl rfl⟩)
        refine AllA.cons (σ₁ := ⟨[(6, .ptr 6 0), (8, .ptr 8 0), (37, .own 2296)], [(6, .box [.t (tI 0), .t (tI 0), .t (tI 0)]), (8, .box [.t (tI s2.2.low), .t (tI s2.2.high), .t (tI s2.2.source)]), (2296, .rows 3 1 v4.length (v4.map Pv.encI))]⟩) [false, true, true, false, false] rfl rfl ?_ A_3 ?_
        · refine TieO.withH hv4 (TieO.callG [(1000000, 2248)] [(900000, 2296)] (fun v4 => ⟨[(6, .ptr 6 0), (8, .ptr 8 0), (34, .tup []), (37, .own 2296)], [(6, .box [.t (tI 0), .t (tI 0), .t (tI 0)]), (8, .box [.t (tI s2.2.low), .t (tI s2.2.high), .t (tI s2.2.source)]), (2296, .rows 3 1 v4.length (v4.map Pv.encI))]⟩) (tie_slices_Compact_sint v3) rfl rfl rfl rfl rfl rfl rfl (fun _ => rfl) (fun _ => rfl) (fun _ => rfl) (fun _ => .of rfl rfl) (TieO.ifG ?_))
          exact TieO.nil (TieS.leaf ⟨rfl, .of rfl rfl⟩)
        exact AllA.nil
      refine TieO.run 2 rfl ?_
      refine TieO.nil ?_
      exact TieS.leaf ⟨rfl, .of rfl rfl⟩
    rintro s3 e σ' _ ⟨rfl, hs⟩
    refine TieX.sub hs ?_
    exact TieS.ret ⟨.inl rfl, rfl⟩
  · exact hq.elim
-- magneto/arbiter.Explain
set_option maxRecDepth 100000 in
theorem tie_arbiter_Explain (l : List SRequest) (low : Int) (high : Int) : TieF Try.prog 11 [.t (tS enc_SRequest l), .t (tI low), .t (tI high)] (arbiter_Explain l low high) (fun r => .tup [.t (tS Pv.encI r.1), .t (tI r.2)]) := by
  refine TieF.intro htab 26 [.tmp 6, .tmp 7] Try.call11 Try.func11 rfl rfl rfl (Nat.le_of_ble_eq_true rfl) fun w0 L => ?_
  refine TieS.seq ?_
  refine TieS.region ?_
  refine TieO.run 2 rfl ?_
  refine TieO.nil ?_
  refine TieS.seq ?_
  refine TieS.seq ?_
  refine TieS.region ?_
  refine TieO.run 3 rfl ?_
  refine TieO.call _ rfl rfl rfl (tie_arbiter_given l low high) (fun _ => rfl) fun v => ?_
  refine TieO.run 1 rfl ?_
  refine TieO.nil ?_
  refine TieS.seq ?_
  refine TieS.region ?_
  refine TieO.run 2 rfl ?_
  refine TieO.nil ?_
  refine TieS.cond rfl ?_ ?_
  · refine TieS.seq ?_
    refine TieS.region ?_
    refine TieO.run 3 rfl ?_
    refine TieO.nil ?_
    exact TieS.ret ⟨.inl rfl, rfl⟩
  · refine TieS.skip ?_
    refine TieS.seq ?_
    refine TieS.region ?_
    refine TieO.run 3 rfl ?_
    refine TieO.call _ rfl rfl rfl (tie_arbiter_decide l low high) (fun _ => rfl) fun r2 => ?_
    refine TieO.run 6 rfl ?_
    refine TieO.nil ?_
    refine TieS.seq ?_
    refine TieS.region ?_
    refine TieO.run 3 rfl ?_
    refine TieO.nil ?_
    exact TieS.ret ⟨.inl rfl, rfl⟩
-- slices.Equal[[]int,int]
set_option maxRecDepth 100000 in
theorem tie_slices_Equal_sint (s1 : List Int) (s2 : List Int) : TieF Try.prog 15 [.t (tS Pv.encI s1), .t (tS Pv.encI s2)] (slices_Equal_sint s1 s2) (fun r => .t (tB r)) := by
  refine TieF.intro htab 26 [.tmp 4] Try.call15 Try.func15 rfl rfl rfl (Nat.le_of_ble_eq_true rfl) fun w0 L => ?_
  refine TieS.seq ?_
  refine TieS.region ?_
  refine TieO.run 1 rfl ?_
  refine TieO.nil ?_
  refine TieS.seq ?_
  refine TieS.seq ?_
  refine TieS.region ?_
  refine TieO.run 5 rfl ?_
  refine TieO.nil ?_
  refine TieS.cond rfl ?_ ?_
  · refine TieS.seq ?_
    refine TieS.region ?_
    refine TieO.run 1 rfl ?_
    refine TieO.nil ?_
    exact TieS.ret ⟨.inl rfl, rfl⟩
  · refine TieS.skip ?_
    refine TieS.seq ?_
    refine TieS.seq ?_
    refine TieS.region ?_
    refine TieO.run 3 rfl ?_
    refine TieO.nil ?_
    refine TieS.block ?_
    refine TieS.loop (fun p => ⟨[(0, .t (tS Pv.encI s1)), (1, .t (tS Pv.encI s2)), (12, .t (tI (s1.length : Int))), (13, .t (tI p.1))], []⟩) (fun b e σ' => match b with | .inl t => e = .exit 0 ∧ Sub ⟨[], []⟩ σ' | .inr t => e = .ret ∧ retT tab σ' [.tmp 4] = some (((fun r => .t (tB r)) : Bool → T) t)) (.of rfl rfl) ?_ ?_
    · rintro ⟨i, s⟩
      refine TieS.seq ?_
      refine TieS.region ?_
      refine TieO.run 1 rfl ?_
      refine TieO.nil ?_
      refine TieS.seq ?_
      refine TieS.cond rfl ?_ ?_
      · refine TieS.skip ?_
        refine TieS.seq ?_
        refine TieX.sub (σ' := ⟨[(0, .t (tS Pv.encI s1)), (1, .t (tS Pv.encI s2)), (12, .t (tI (s1.length : Int))), (13, .t (tI i))], []⟩) (.of rfl rfl) ?_
        refine TieS.bind (Q₁ := fun f e σ' => match f with | .next t => e = .normal ∧ Sub ⟨[(0, .t (tS Pv.encI s1)), (1, .t (tS Pv.encI s2)), (12, .t (tI (s1.length : Int))), (13, .t (tI i))], []⟩ σ' | .brk t => e = .exit 0 ∧ Sub ⟨[], []⟩ σ' | .ret t => e = .ret ∧ retT tab σ' [.tmp 4] = some (((fun r => .t (tB r)) : Bool → T) t)) ?_ ?_
        · refine TieS.block ?_
          refine TieS.seq ?_
          refine TieS.region ?_
          refine TieO.run 2 rfl ?_
          refine TieO.nil ?_
          refine TieS.seq ?_
          refine TieX.pre fun x hx => ?_
          refine TieX.pre fun x2 hx2 => ?_
          refine TieS.draw 9 [.t (tS Pv.encI s1), .t (tI i), .el (Pv.encI x), .t (tI x), .t (tS Pv.encI s2), .t (tI i), .el (Pv.encI x2), .t (tI x2), .t (tB (x != x2))] [(0, .t (tS Pv.encI s1)), (1, .t (tS Pv.encI s2)), (5, .t (tI i)), (12, .t (tI (s1.length : Int))), (13, .t (tI i))] [] mixed (.of rfl rfl) rfl rfl rfl rfl (.cons (.quiet rfl rfl rfl) (.cons (.quiet rfl rfl rfl) (.cons (.index hx rfl rfl rfl rfl rfl rfl (fun _ => rfl)) (.cons (.quiet rfl rfl rfl) (.cons (.quiet rfl rfl rfl) (.cons (.quiet rfl rfl rfl) (.cons (.index hx2 rfl rfl rfl rfl rfl rfl (fun _ => rfl)) (.cons (.quiet rfl rfl rfl) (.cons (.quiet rfl rfl rfl) (.nil)))))))))) ?_
          refine TieO.nil ?_
          refine TieS.cond rfl ?_ ?_
          · refine TieS.seq ?_
            refine TieS.region ?_
            refine TieO.run 1 rfl ?_
            refine TieO.nil ?_
            exact TieS.ret ⟨rfl, rfl⟩
          · refine TieS.skip ?_
            refine TieS.endb ?_
            exact TieS.leaf ⟨rfl, .of rfl rfl⟩
        rintro (t | t | t) e σ' _ hq
        · obtain ⟨rfl, hs⟩ := hq
          refine TieX.sub hs ?_
          refine TieS.region ?_
          refine TieO.run 2 rfl ?_
          refine TieO.nil ?_
          exact TieS.leaf ⟨rfl, .of rfl rfl⟩
        · obtain ⟨rfl, hs⟩ := hq
          exact TieX.exitOut rfl ⟨(fun h => by cases h), rfl, hs⟩
        · obtain ⟨rfl, hs⟩ := hq
          exact TieX.ret ⟨(fun h => by cases h), rfl, hs⟩
      · exact TieS.exitOut rfl ⟨(fun h => by cases h), rfl, .of rfl rfl⟩
    rintro (s3 | r2) e σ' _ hq
    · obtain ⟨rfl, hs⟩ := hq
      refine TieX.exit rfl (TieX.sub hs ?_)
      refine TieS.seq ?_
      refine TieS.region ?_
      refine TieO.run 1 rfl ?_
      refine TieO.nil ?_
      exact TieS.ret ⟨.inl rfl, rfl⟩
    · obtain ⟨rfl, hs⟩ := hq
      exact TieX.ret ⟨.inl rfl, hs⟩
-- magneto/arbiter.Decide
set_option maxRecDepth 100000 in
theorem tie_arbiter_Decide (l : List SRequest) (low : Int) (high : Int) : TieF Try.prog 18 [.t (tS enc_SRequest l), .t (tI low), .t (tI high)] (arbiter_Decide l low high) (fun r => .tup [A_SGrant r.1, .t (tI r.2)]) := by
  refine TieF.intro htab 31 [.cell 6 43, .tmp 7] Try.call18 Try.func18 rfl rfl rfl (Nat.le_of_ble_eq_true rfl) fun w0 L => ?_
  refine TieS.seq ?_
  refine TieS.region ?_
  refine TieO.run 2 rfl ?_
  refine TieO.nil ?_
  refine TieS.seq ?_
  refine TieS.seq ?_
  refine TieS.region ?_
  refine TieO.run 3 rfl ?_
  refine TieO.call _ rfl rfl rfl (tie_arbiter_given l low high) (fun _ => rfl) fun v => ?_
  refine TieO.run 1 rfl ?_
  refine TieO.nil ?_
  refine TieS.seq ?_
  refine TieS.region ?_
  refine TieO.run 2 rfl ?_
  refine TieO.nil ?_
  refine TieS.cond rfl ?_ ?_
  · refine TieS.seq ?_
    refine TieS.region ?_
    refine TieO.run 4 rfl ?_
    refine TieO.nil ?_
    exact TieS.ret ⟨.inl rfl, rfl⟩
  · refine TieS.skip ?_
    refine TieS.seq ?_
    refine TieS.region ?_
    refine TieO.run 3 rfl ?_
    refine TieO.call _ rfl rfl rfl (tie_arbiter_decide l low high) (fun _ => rfl) fun r2 => ?_
    refine TieO.run 6 rfl ?_
    refine TieO.nil ?_
    refine TieS.seq ?_
    refine TieS.region ?_
    refine TieO.run 7 rfl ?_
    refine TieO.nil ?_
    exact TieS.ret ⟨.inl rfl, rfl⟩
-- magneto/magnetolaw36.awake
set_option maxRecDepth 100000 in
theorem tie_magnetolaw36_awake : TieF Try.prog 10 [] (magnetolaw36_awake) (fun r => .t (tB r)) := by
  refine TieF.intro htab 35 [.tmp 0] Try.call10 Try.func10 rfl rfl rfl (Nat.le_of_ble_eq_true rfl) fun w0 L => ?_
  refine TieS.seq ?_
  refine TieS.region ?_
  refine TieO.run 1 rfl ?_
  refine TieO.nil ?_
  refine TieS.seq ?_
  refine TieS.region ?_
  refine TieO.run 4 rfl ?_
  refine TieO.nil ?_
  refine TieS.seq ?_
  refine TieS.region ?_
  refine TieO.run 1 rfl ?_
  refine TieO.callS _ rfl rfl rfl (tie_arbiter_Decide ([(⟨0, 3, 2000, 1⟩ : SRequest), (⟨3, 1, 1500, 5⟩ : SRequest)] : List SRequest) 0 3000) (fun _ => rfl) (fun _ => rfl) fun r2 => ?_
  refine TieO.run 6 rfl ?_
  refine TieO.nil ?_
  refine TieS.seq ?_
  refine TieS.region ?_
  refine TieO.run 1 rfl ?_
  refine TieO.frz 8 rfl ?_
  refine TieO.call _ rfl rfl rfl (tie_arbiter_Explain ([(⟨0, 3, 2000, 1⟩ : SRequest), (⟨3, 1, 1500, 5⟩ : SRequest)] : List SRequest) 0 3000) (fun _ => rfl) fun r3 => ?_
  refine TieO.run 5 rfl ?_
  refine TieO.nil ?_
  refine TieS.seq ?_
  refine TieS.region ?_
  refine TieO.run 2 rfl ?_
  refine TieO.eqS [.int .i64 r2.1.Torque, .int .i64 r2.1.Source] [.int .i64 1500, .int .i64 0] (eqv_43 r2.1.Torque r2.1.Source 1500 0) rfl rfl rfl rfl rfl rfl ?_
  refine TieO.run 1 rfl ?_
  refine TieO.selAnd (v := (r2.2 == 0)) 3 22 (fun b => ⟨[(4, .t (tS Pv.encI r3.1)), (5, .t (tI r3.2)), (25, .t (tB b))], []⟩) rfl ?_ ?_ ?_
  · refine TieO.run 3 rfl ?_
    refine TieO.nil ?_
    exact TieS.leaf ⟨rfl, .of rfl rfl⟩
  · refine TieO.run 3 rfl ?_
    refine TieO.nil ?_
    exact TieS.leaf ⟨rfl, .of rfl rfl⟩
  refine TieO.run 1 rfl ?_
  refine TieO.bind 4 (fun b2 => ⟨[(5, .t (tI r3.2)), (30, .t (tB b2))], []⟩) (TieO.split 26 rfl ?_ ?_) fun b2 _ => ?_
  · refine TieO.run 2 rfl ?_
    refine TieO.callS _ rfl rfl rfl (tie_slices_Equal_sint r3.1 ([0, 3] : List Int)) (fun _ => rfl) (fun _ => rfl) fun v => ?_
    refine TieO.run 1 rfl ?_
    refine TieO.nil ?_
    exact TieS.leaf ⟨rfl, .of rfl rfl⟩
  · refine TieO.run 4 rfl ?_
    refine TieO.nil ?_
    exact TieS.leaf ⟨rfl, .of rfl rfl⟩
  refine TieO.run 1 rfl ?_
  refine TieO.selAnd (v := (r3.2 == 0)) 3 31 (fun b => ⟨[(34, .t (tB b))], []⟩) rfl ?_ ?_ ?_
  · refine TieO.run 3 rfl ?_
    refine TieO.nil ?_
    exact TieS.leaf ⟨rfl, .of rfl rfl⟩
  · refine TieO.run 3 rfl ?_
    refine TieO.nil ?_
    exact TieS.leaf ⟨rfl, .of rfl rfl⟩
  refine TieO.run 1 rfl ?_
  refine TieO.nil ?_
  exact TieS.ret ⟨.inl rfl, rfl⟩
-- magneto/magnetoref36.Torque
set_option maxRecDepth 100000 in
theorem tie_magnetoref36_Torque (t2 : Int) : TieF Try.prog 23 [.t (tI t2)] (magnetoref36_Torque t2) (fun r => .t (tB r)) := by
  refine TieF.intro htab 9 [.tmp 2] Try.call23 Try.func23 rfl rfl rfl (Nat.le_of_ble_eq_true rfl) fun w0 L => ?_
  refine TieS.seq ?_
  refine TieS.region ?_
  refine TieO.run 1 rfl ?_
  refine TieO.nil ?_
  refine TieS.seq ?_
  refine TieS.region ?_
  refine TieO.run 3 rfl ?_
  refine TieO.selAnd (v := decide (t2 ≤ 10000)) 3 5 (fun b => ⟨[(8, .t (tB b))], []⟩) rfl ?_ ?_ ?_
  · refine TieO.run 3 rfl ?_
    refine TieO.nil ?_
    exact TieS.leaf ⟨rfl, .of rfl rfl⟩
  · refine TieO.run 3 rfl ?_
    refine TieO.nil ?_
    exact TieS.leaf ⟨rfl, .of rfl rfl⟩
  refine TieO.run 1 rfl ?_
  refine TieO.nil ?_
  exact TieS.ret ⟨.inl rfl, rfl⟩
-- magneto/magnetoref36.Valid
set_option maxRecDepth 100000 in
theorem tie_magnetoref36_Valid (r2 : SRequest) : TieF Try.prog 20 [A_SRequest r2] (magnetoref36_Valid r2) (fun r => .t (tB r)) := by
  refine TieF.intro htab 45 [.tmp 2] Try.call20 Try.func20 rfl rfl rfl (Nat.le_of_ble_eq_true rfl) fun w0 L => ?_
  refine TieS.seq ?_
  refine TieS.region ?_
  refine TieO.run 2 rfl ?_
  refine TieO.nil ?_
  refine TieS.seq ?_
  refine TieS.seq ?_
  refine TieS.region ?_
  refine TieO.run 4 rfl ?_
  refine TieO.selOr (v := decide (r2.Source > 15)) 4 6 (fun b => ⟨[(1, .ptr 1 0), (10, .t (tB b))], [(1, .box [.t (tI r2.Source), .t (tI r2.Kind), .t (tI r2.Torque), .t (tI r2.Priority)])]⟩) rfl ?_ ?_ ?_
  · refine TieO.run 4 rfl ?_
    refine TieO.nil ?_
    exact TieS.leaf ⟨rfl, .of rfl rfl⟩
  · refine TieO.run 4 rfl ?_
    refine TieO.nil ?_
    exact TieS.leaf ⟨rfl, .of rfl rfl⟩
  refine TieO.run 1 rfl ?_
  refine TieO.selOr (v := decide (r2.Priority < 0)) 4 11 (fun b => ⟨[(1, .ptr 1 0), (15, .t (tB b))], [(1, .box [.t (tI r2.Source), .t (tI r2.Kind), .t (tI r2.Torque), .t (tI r2.Priority)])]⟩) rfl ?_ ?_ ?_
  · refine TieO.run 4 rfl ?_
    refine TieO.nil ?_
    exact TieS.leaf ⟨rfl, .of rfl rfl⟩
  · refine TieO.run 4 rfl ?_
    refine TieO.nil ?_
    exact TieS.leaf ⟨rfl, .of rfl rfl⟩
  refine TieO.run 1 rfl ?_
  refine TieO.selOr (v := decide (r2.Priority > 15)) 4 16 (fun b => ⟨[(1, .ptr 1 0), (20, .t (tB b))], [(1, .box [.t (tI r2.Source), .t (tI r2.Kind), .t (tI r2.Torque), .t (tI r2.Priority)])]⟩) rfl ?_ ?_ ?_
  · refine TieO.run 4 rfl ?_
    refine TieO.nil ?_
    exact TieS.leaf ⟨rfl, .of rfl rfl⟩
  · refine TieO.run 4 rfl ?_
    refine TieO.nil ?_
    exact TieS.leaf ⟨rfl, .of rfl rfl⟩
  refine TieO.run 1 rfl ?_
  refine TieO.bind 5 (fun b2 => ⟨[(1, .ptr 1 0), (26, .t (tB b2))], [(1, .box [.t (tI r2.Source), .t (tI r2.Kind), .t (tI r2.Torque), .t (tI r2.Priority)])]⟩) (TieO.split 21 rfl ?_ ?_) fun b2 _ => ?_
  · refine TieO.run 5 rfl ?_
    refine TieO.nil ?_
    exact TieS.leaf ⟨rfl, .of rfl rfl⟩
  · refine TieO.run 2 rfl ?_
    refine TieO.call _ rfl rfl rfl (tie_magnetoref36_Torque r2.Torque) (fun _ => rfl) fun v => ?_
    refine TieO.run 2 rfl ?_
    refine TieO.nil ?_
    exact TieS.leaf ⟨rfl, .of rfl rfl⟩
  refine TieO.run 1 rfl ?_
  refine TieO.selOr (v := decide (r2.Kind < 1)) 4 27 (fun b => ⟨[(1, .ptr 1 0), (31, .t (tB b))], [(1, .box [.t (tI r2.Source), .t (tI r2.Kind), .t (tI r2.Torque), .t (tI r2.Priority)])]⟩) rfl ?_ ?_ ?_
  · refine TieO.run 4 rfl ?_
    refine TieO.nil ?_
    exact TieS.leaf ⟨rfl, .of rfl rfl⟩
  · refine TieO.run 4 rfl ?_
    refine TieO.nil ?_
    exact TieS.leaf ⟨rfl, .of rfl rfl⟩
  refine TieO.run 1 rfl ?_
  refine TieO.selOr (v := decide (r2.Kind > 3)) 4 32 (fun b => ⟨[(1, .ptr 1 0), (36, .t (tB b))], [(1, .box [.t (tI r2.Source), .t (tI r2.Kind), .t (tI r2.Torque), .t (tI r2.Priority)])]⟩) rfl ?_ ?_ ?_
  · refine TieO.run 4 rfl ?_
    refine TieO.nil ?_
    exact TieS.leaf ⟨rfl, .of rfl rfl⟩
  · refine TieO.run 4 rfl ?_
    refine TieO.nil ?_
    exact TieS.leaf ⟨rfl, .of rfl rfl⟩
  refine TieO.nil ?_
  refine TieS.cond rfl ?_ ?_
  · refine TieS.seq ?_
    refine TieS.region ?_
    refine TieO.run 1 rfl ?_
    refine TieO.nil ?_
    exact TieS.ret ⟨.inl rfl, rfl⟩
  · refine TieS.skip ?_
    refine TieS.seq ?_
    refine TieS.region ?_
    refine TieO.run 4 rfl ?_
    refine TieO.selOr (v := (r2.Kind == 1)) 4 40 (fun b => ⟨[(44, .t (tB b))], []⟩) rfl ?_ ?_ ?_
    · refine TieO.run 4 rfl ?_
      refine TieO.nil ?_
      exact TieS.leaf ⟨rfl, .of rfl rfl⟩
    · refine TieO.run 4 rfl ?_
      refine TieO.nil ?_
      exact TieS.leaf ⟨rfl, .of rfl rfl⟩
    refine TieO.run 1 rfl ?_
    refine TieO.nil ?_
    exact TieS.ret ⟨.inl rfl, rfl⟩
-- magneto/magnetoref36.Check
set_option maxRecDepth 100000 in
theorem tie_magnetoref36_Check (l : List SRequest) (low : Int) (high : Int) : TieF Try.prog 12 [.t (tS enc_SRequest l), .t (tI low), .t (tI high)] (magnetoref36_Check l low high) (fun r => .t (tI r)) := by
  refine TieF.intro htab 36 [.tmp 6] Try.call12 Try.func12 rfl rfl rfl (Nat.le_of_ble_eq_true rfl) fun w0 L => ?_
  refine TieS.seq ?_
  refine TieS.region ?_
  refine TieO.run 1 rfl ?_
  refine TieO.nil ?_
  refine TieS.seq ?_
  refine TieS.seq ?_
  refine TieS.region ?_
  refine TieO.run 1 rfl ?_
  refine TieO.nil ?_
  refine TieS.block ?_
  refine TieS.loop (fun t => ⟨[(0, .t (tS enc_SRequest l)), (1, .t (tI low)), (2, .t (tI high)), (7, .t (tI t))], []⟩) (fun b e σ' => match b with | .inl t => e = .exit 0 ∧ Sub ⟨[(0, .t (tS enc_SRequest l)), (1, .t (tI low)), (2, .t (tI high))], []⟩ σ' | .inr t => e = .ret ∧ retT tab σ' [.tmp 6] = some (((fun r => .t (tI r)) : Int → T) t)) (.of rfl rfl) ?_ ?_
  · intro i
    refine TieS.seq ?_
    refine TieS.seq ?_
    refine TieS.region ?_
    refine TieO.run 4 rfl ?_
    refine TieO.nil ?_
    refine TieS.cond rfl ?_ ?_
    · refine TieS.skip ?_
      refine TieS.seq ?_
      refine TieS.block ?_
      refine TieS.seq ?_
      refine TieS.region ?_
      refine TieO.run 2 rfl ?_
      refine TieO.index rfl rfl rfl rfl rfl rfl rfl rfl (fun _ => rfl) fun x hx => ?_
      refine TieO.run 1 rfl ?_
      refine TieO.call _ rfl rfl rfl (tie_magnetoref36_Valid x) (fun _ => rfl) fun v => ?_
      refine TieO.run 1 rfl ?_
      refine TieO.nil ?_
      refine TieS.cond rfl ?_ ?_
      · refine TieS.seq ?_
        refine TieS.region ?_
        refine TieO.run 1 rfl ?_
        refine TieO.nil ?_
        exact TieS.ret ⟨(fun h => by cases h), rfl, rfl⟩
      · refine TieS.skip ?_
        refine TieS.endb ?_
        refine TieS.region ?_
        refine TieO.run 3 rfl ?_
        refine TieO.nil ?_
        exact TieS.leaf ⟨rfl, .of rfl rfl⟩
    · exact TieS.exitOut rfl ⟨(fun h => by cases h), rfl, .of rfl rfl⟩
  rintro (i2 | r2) e σ' _ hq
  · obtain ⟨rfl, hs⟩ := hq
    refine TieX.exit rfl (TieX.sub hs ?_)
    refine TieS.seq ?_
    refine TieS.seq ?_
    refine TieS.region ?_
    refine TieO.run 3 rfl ?_
    refine TieO.nil ?_
    refine TieS.cond rfl ?_ ?_
    · refine TieS.seq ?_
      refine TieS.region ?_
      refine TieO.run 1 rfl ?_
      refine TieO.nil ?_
      exact TieS.ret ⟨.inl rfl, rfl⟩
    · refine TieS.skip ?_
      refine TieS.seq ?_
      refine TieS.seq ?_
      refine TieS.region ?_
      refine TieO.run 1 rfl ?_
      refine TieO.call _ rfl rfl rfl (tie_magnetoref36_Torque low) (fun _ => rfl) fun v2 => ?_
      refine TieO.run 2 rfl ?_
      refine TieO.bind 4 (fun b2 => ⟨[(1, .t (tI low)), (2, .t (tI high)), (30, .t (tB b2))], []⟩) (TieO.split 26 rfl ?_ ?_) fun b2 _ => ?_
      · refine TieO.run 4 rfl ?_
        refine TieO.nil ?_
        exact TieS.leaf ⟨rfl, .of rfl rfl⟩
      · refine TieO.run 1 rfl ?_
        refine TieO.call _ rfl rfl rfl (tie_magnetoref36_Torque high) (fun _ => rfl) fun v3 => ?_
        refine TieO.run 2 rfl ?_
        refine TieO.nil ?_
        exact TieS.leaf ⟨rfl, .of rfl rfl⟩
      refine TieO.run 1 rfl ?_
      refine TieO.selOr (v := decide (low > high)) 4 31 (fun b => ⟨[(35, .t (tB b))], []⟩) rfl ?_ ?_ ?_
      · refine TieO.run 4 rfl ?_
        refine TieO.nil ?_
        exact TieS.leaf ⟨rfl, .of rfl rfl⟩
      · refine TieO.run 4 rfl ?_
        refine TieO.nil ?_
        exact TieS.leaf ⟨rfl, .of rfl rfl⟩
      refine TieO.nil ?_
      refine TieS.cond rfl ?_ ?_
      · refine TieS.seq ?_
        refine TieS.region ?_
        refine TieO.run 1 rfl ?_
        refine TieO.nil ?_
        exact TieS.ret ⟨.inl rfl, rfl⟩
      · refine TieS.skip ?_
        refine TieS.seq ?_
        refine TieS.region ?_
        refine TieO.run 1 rfl ?_
        refine TieO.nil ?_
        exact TieS.ret ⟨.inl rfl, rfl⟩
  · obtain ⟨rfl, hs⟩ := hq
    exact TieX.ret ⟨.inl rfl, hs⟩
-- magneto/magnetoref36.Narrow
set_option maxRecDepth 100000 in
theorem tie_magnetoref36_Narrow (x : SRange) (r2 : SRequest) : TieF Try.prog 29 [A_SRange x, A_SRequest r2] (magnetoref36_Narrow x r2) (fun r => A_SRange r) := by
  refine TieF.intro htab 29 [.cell 4 30] Try.call29 Try.func29 rfl rfl rfl (Nat.le_of_ble_eq_true rfl) fun w0 L => ?_
  refine TieS.seq ?_
  refine TieS.region ?_
  refine TieO.run 3 rfl ?_
  refine TieO.nil ?_
  refine TieS.seq ?_
  refine TieS.region ?_
  refine TieO.run 9 rfl ?_
  refine TieO.nil ?_
  refine TieS.seq ?_
  refine TieS.seq ?_
  refine TieS.region ?_
  refine TieO.run 2 rfl ?_
  refine TieO.nil ?_
  refine TieS.block ?_
  refine TieS.seq ?_
  refine TieS.region ?_
  refine TieO.run 2 rfl ?_
  refine TieO.nil ?_
  refine TieS.cond rfl ?_ ?_
  · refine TieS.region ?_
    refine TieO.run 3 rfl ?_
    refine TieO.nil ?_
    refine TieS.endb ?_
    refine TieS.seq ?_
    refine TieS.region ?_
    refine TieO.run 2 rfl ?_
    refine TieO.nil ?_
    exact TieS.ret ⟨.inl rfl, rfl⟩
  · refine TieS.seq ?_
    refine TieS.region ?_
    refine TieO.run 2 rfl ?_
    refine TieO.nil ?_
    refine TieS.cond rfl ?_ ?_
    · refine TieS.region ?_
      refine TieO.run 3 rfl ?_
      refine TieO.nil ?_
      refine TieS.endb ?_
      refine TieS.seq ?_
      refine TieS.region ?_
      refine TieO.run 2 rfl ?_
      refine TieO.nil ?_
      exact TieS.ret ⟨.inl rfl, rfl⟩
    · refine TieS.region ?_
      refine TieO.run 6 rfl ?_
      refine TieO.nil ?_
      refine TieS.endb ?_
      refine TieS.seq ?_
      refine TieS.region ?_
      refine TieO.run 2 rfl ?_
      refine TieO.nil ?_
      exact TieS.ret ⟨.inl rfl, rfl⟩
-- magneto/magnetoref36.Interval
set_option maxRecDepth 100000 in
set_option maxHeartbeats 4000000 in
theorem tie_magnetoref36_Interval (l : List SRequest) (low : Int) (high : Int) : TieF Try.prog 13 [.t (tS enc_SRequest l), .t (tI low), .t (tI high)] (magnetoref36_Interval l low high) (fun r => .tup [A_SRange r.1, .t (tI r.2.1), .t (tS Pv.encB r.2.2)]) := by
  refine TieF.intro htab 64 [.cell 6 30, .tmp 7, .tmp 8] Try.call13 Try.func13 rfl rfl rfl (Nat.le_of_ble_eq_true rfl) fun w0 L => ?_
  refine TieS.seq ?_
  refine TieS.region ?_
  refine TieO.run 3 rfl ?_
  refine TieO.nil ?_
  refine TieS.seq ?_
  refine TieS.region ?_
  refine TieO.run 5 rfl ?_
  refine TieO.nil ?_
  refine TieS.seq ?_
  refine TieS.region ?_
  refine TieO.run 1 rfl ?_
  refine TieO.nil ?_
  refine TieS.seq ?_
  refine TieS.region ?_
  refine TieO.run 2 rfl ?_
  refine TieO.makeO (enc := Pv.encB) 2160 false rfl rfl rfl rfl rfl rfl rfl rfl rfl rfl rfl rfl rfl fun l2 hl2 => ?_
  refine TieO.run 1 rfl ?_
  refine TieO.nil ?_
  refine TieS.seq ?_
  refine TieS.seq ?_
  refine TieS.region ?_
  refine TieO.run 1 rfl ?_
  refine TieO.nil ?_
  refine TieS.block ?_
  refine TieS.loop (fun t => ⟨[(0, .t (tS enc_SRequest l)), (6, .ptr 6 0), (9, .ptr 9 0), (10, .t (tI t.1)), (11, .own 2160), (12, .t (tI t.2.1))], [(6, .box [.t (tI 0), .t (tI 0)]), (9, .box [.t (tI t.2.2.1.Low), .t (tI t.2.2.1.High)]), (2160, .rows 4 1 t.2.2.2.length (t.2.2.2.map Pv.encB))]⟩) (fun b e σ' => match b with | .inl t => e = .exit 0 ∧ Sub ⟨[(6, .ptr 6 0), (9, .ptr 9 0), (10, .t (tI t.1)), (11, .own 2160)], [(6, .box [.t (tI 0), .t (tI 0)]), (9, .box [.t (tI t.2.2.1.Low), .t (tI t.2.2.1.High)]), (2160, .rows 4 1 t.2.2.2.length (t.2.2.2.map Pv.encB))]⟩ σ' | .inr t => False) (.of rfl rfl) ?_ ?_
  · intro s
    refine TieS.seq ?_
    refine TieS.seq ?_
    refine TieS.region ?_
    refine TieO.run 2 rfl ?_
    refine TieO.nil ?_
    refine TieS.cond rfl ?_ ?_
    · refine TieS.skip ?_
      refine TieS.seq ?_
      refine TieS.block ?_
      refine TieS.seq ?_
      refine TieS.region ?_
      refine TieO.run 1 rfl ?_
      refine TieO.nil ?_
      refine TieS.block ?_
      refine TieS.loop (fun t => ⟨[(0, .t (tS enc_SRequest l)), (6, .ptr 6 0), (9, .ptr 9 0), (10, .t (tI t.1)), (11, .own 2160), (12, .t (tI s.2.1)), (13, .t (tI t.2.1))], [(6, .box [.t (tI 0), .t (tI 0)]), (9, .box [.t (tI t.2.2.1.Low), .t (tI t.2.2.1.High)]), (2160, .rows 4 1 t.2.2.2.length (t.2.2.2.map Pv.encB))]⟩) (fun b e σ' => match b with | .inl t => e = .exit 2 ∧ Sub ⟨[(0, .t (tS enc_SRequest l)), (6, .ptr 6 0), (9, .ptr 9 0), (10, .t (tI t.1)), (11, .own 2160), (12, .t (tI s.2.1))], [(6, .box [.t (tI 0), .t (tI 0)]), (9, .box [.t (tI t.2.2.1.Low), .t (tI t.2.2.1.High)]), (2160, .rows 4 1 t.2.2.2.length (t.2.2.2.map Pv.encB))]⟩ σ' | .inr t => False) (.of rfl rfl) ?_ ?_
      · intro s2
        refine TieS.seq ?_
        refine TieS.seq ?_
        refine TieS.region ?_
        refine TieO.run 4 rfl ?_
        refine TieO.nil ?_
        refine TieS.cond rfl ?_ ?_
        · refine TieS.skip ?_
          refine TieS.seq ?_
          refine TieS.block ?_
          refine TieS.seq ?_
          refine TieS.seq ?_
          refine TieS.region ?_
          refine TieO.run 2 rfl ?_
          refine TieO.index rfl rfl rfl rfl rfl rfl rfl rfl (fun _ => rfl) fun x hx => ?_
          refine TieO.run 4 rfl ?_
          refine TieO.nil ?_
          refine TieS.cond rfl ?_ ?_
          · refine TieS.exit rfl ?_
            refine TieS.region ?_
            refine TieO.run 3 rfl ?_
            refine TieO.nil ?_
            exact TieS.leaf ⟨rfl, .of rfl rfl⟩
          · refine TieS.skip ?_
            refine TieS.seq ?_
            refine TieS.bind (Q₁ := fun t e σ' => e = .normal ∧ Sub ⟨[(0, .t (tS enc_SRequest l)), (6, .ptr 6 0), (9, .ptr 9 0), (10, .t (tI s2.1)), (11, .own 2160), (12, .t (tI s.2.1)), (13, .t (tI s2.2.1)), (14, .ptr 14 0)], [(6, .box [.t (tI 0), .t (tI 0)]), (9, .box [.t (tI s2.2.2.1.Low), .t (tI s2.2.2.1.High)]), (14, .box [.t (tI t.Low), .t (tI t.High)]), (2160, .rows 4 1 s2.2.2.2.length (s2.2.2.2.map Pv.encB))]⟩ σ') ?_ ?_
            · refine TieX.pre fun v hv => ?_
              refine TieS.draws 7 [false, false, false, false, false, false, false, false] [true, true, true, true, true, true, true, false] ⟨[(0, .t (tS enc_SRequest l)), (6, .ptr 6 0), (9, .ptr 9 0), (10, .t (tI s2.1)), (11, .own 2160), (12, .t (tI s.2.1)), (13, .t (tI s2.2.1)), (14, .ptr 14 0), (38, .agg [.t (tI s2.2.2.1.Low), .t (tI s2.2.2.1.High)]), (39, .t (tS enc_SRequest l)), (40, .t (tI s2.2.1)), (41, .el (enc_SRequest x)), (42, .agg [.t (tI x.Source), .t (tI x.Kind), .t (tI x.Torque), .t (tI x.Priority)]), (43, .agg [.t (tI v.Low), .t (tI v.High)])], [(6, .box [.t (tI 0), .t (tI 0)]), (9, .box [.t (tI s2.2.2.1.Low), .t (tI s2.2.2.1.High)]), (14, .box [.t (tI 0), .t (tI 0)]), (2160, .rows 4 1 s2.2.2.2.length (s2.2.2.2.map Pv.encB))]⟩ mixed (fun _ _ _ h => by cases h.1) rfl rfl rfl rfl ?_ ?_
              · refine TieA.have_ (fuel₁ := 1) (l₁ := [true, true, true, true, true, true, true, false]) (σ₁ := ⟨[(0, .t (tS enc_SRequest l)), (6, .ptr 6 0), (9, .ptr 9 0), (10, .t (tI s2.1)), (11, .own 2160), (12, .t (tI s.2.1)), (13, .t (tI s2.2.1)), (14, .ptr 14 0), (38, .agg [.t (tI s2.2.2.1.Low), .t (tI s2.2.2.1.High)]), (39, .t (tS enc_SRequest l)), (40, .t (tI s2.2.1)), (41, .el (enc_SRequest x)), (42, .agg [.t (tI x.Source), .t (tI x.Kind), .t (tI x.Torque), .t (tI x.Priority)]), (43, .agg [.t (tI v.Low), .t (tI v.High)])], [(6, .box [.t (tI 0), .t (tI 0)]), (9, .box [.t (tI s2.2.2.1.Low), .t (tI s2.2.2.1.High)]), (14, .box [.t (tI 0), .t (tI 0)]), (2160, .rows 4 1 s2.2.2.2.length (s2.2.2.2.map Pv.encB))]⟩) ?_ fun A_5 => ?_
                · exact TieA.done (.of rfl rfl)
                refine TieA.have_ (fuel₁ := 2) (l₁ := [true, true, true, true, true, true, false, false]) (σ₁ := ⟨[(0, .t (tS enc_SRequest l)), (6, .ptr 6 0), (9, .ptr 9 0), (10, .t (tI s2.1)), (11, .own 2160), (12, .t (tI s.2.1)), (13, .t (tI s2.2.1)), (38, .agg [.t (tI s2.2.2.1.Low), .t (tI s2.2.2.1.High)]), (39, .t (tS enc_SRequest l)), (40, .t (tI s2.2.1)), (41, .el (enc_SRequest x)), (42, .agg [.t (tI x.Source), .t (tI x.Kind), .t (tI x.Torque), .t (tI x.Priority)]), (43, .agg [.t (tI v.Low), .t (tI v.High)])], [(6, .box [.t (tI 0), .t (tI 0)]), (9, .box [.t (tI s2.2.2.1.Low), .t (tI s2.2.2.1.High)]), (2160, .rows 4 1 s2.2.2.2.length (s2.2.2.2.map Pv.encB))]⟩) ?_ fun A_4 => ?_
                · refine TieA.all [6] (by kernel_rfl) rfl ?_
                  refine AllA.cons (σ₁ := ⟨[(0, .t (tS enc_SRequest l)), (6, .ptr 6 0), (9, .ptr 9 0), (10, .t (tI s2.1)), (11, .own 2160), (12, .t (tI s.2.1)), (13, .t (tI s2.2.1)), (14, .ptr 14 0), (38, .agg [.t (tI s2.2.2.1.Low), .t (tI s2.2.2.1.High)]), (39, .t (tS enc_SRequest l)), (40, .t (tI s2.2.1)), (41, .el (enc_SRequest x)), (42, .agg [.t (tI x.Source), .t (tI x.Kind), .t (tI x.Torque), .t (tI x.Priority)]), (43, .agg [.t (tI v.Low), .t (tI v.High)])], [(6, .box [.t (tI 0), .t (tI 0)]), (9, .box [.t (tI s2.2.2.1.Low), .t (tI s2.2.2.1.High)]), (14, .box [.t (tI 0), .t (tI 0)]), (2160, .rows 4 1 s2.2.2.2.length (s2.2.2.2.map Pv.encB))]⟩) [true, true, true, true, true, true, true, false] rfl rfl ?_ A_5 ?_
                  · refine TieO.run 1 rfl ?_
                    exact TieO.nil (TieS.leaf ⟨rfl, .of rfl rfl⟩)
                  exact AllA.nil
                refine TieA.have_ (fuel₁ := 2) (l₁ := [true, true, true, true, true, false, true, false]) (σ₁ := ⟨[(0, .t (tS enc_SRequest l)), (6, .ptr 6 0), (9, .ptr 9 0), (10, .t (tI s2.1)), (11, .own 2160), (12, .t (tI s.2.1)), (13, .t (tI s2.2.1)), (14, .ptr 14 0), (38, .agg [.t (tI s2.2.2.1.Low), .t (tI s2.2.2.1.High)]), (39, .t (tS enc_SRequest l)), (40, .t (tI s2.2.1)), (41, .el (enc_SRequest x)), (42, .agg [.t (tI x.Source), .t (tI x.Kind), .t (tI x.Torque), .t (tI x.Priority)])], [(6, .box [.t (tI 0), .t (tI 0)]), (9, .box [.t (tI s2.2.2.1.Low), .t (tI s2.2.2.1.High)]), (14, .box [.t (tI 0), .t (tI 0)]), (2160, .rows 4 1 s2.2.2.2.length (s2.2.2.2.map Pv.encB))]⟩) ?_ fun A_6 => ?_
                · refine TieA.all [5] (by kernel_rfl) rfl ?_
                  refine AllA.cons (σ₁ := ⟨[(0, .t (tS enc_SRequest l)), (6, .ptr 6 0), (9, .ptr 9 0), (10, .t (tI s2.1)), (11, .own 2160), (12, .t (tI s.2.1)), (13, .t (tI s2.2.1)), (14, .ptr 14 0), (38, .agg [.t (tI s2.2.2.1.Low), .t (tI s2.2.2.1.High)]), (39, .t (tS enc_SRequest l)), (40, .t (tI s2.2.1)), (41, .el (enc_SRequest x)), (42, .agg [.t (tI x.Source), .t (tI x.Kind), .t (tI x.Torque), .t (tI x.Priority)]), (43, .agg [.t (tI v.Low), .t (tI v.High)])], [(6, .box [.t (tI 0), .t (tI 0)]), (9, .box [.t (tI s2.2.2.1.Low), .t (tI s2.2.2.1.High)]), (14, .box [.t (tI 0), .t (tI 0)]), (2160, .rows 4 1 s2.2.2.2.length (s2.2.2.2.map Pv.encB))]⟩) [true, true, true, true, true, true, true, false] rfl rfl ?_ A_5 ?_
                  · refine TieO.withH hv (TieO.call _ rfl rfl rfl (tie_magnetoref36_Narrow s2.2.2.1 x) (fun _ => rfl) (TieO.ifH ?_))
                    exact TieO.nil (TieS.leaf ⟨rfl, .of rfl rfl⟩)
                  exact AllA.nil
                refine TieA.have_ (fuel₁ := 3) (l₁ := [true, true, true, true, true, false, false, false]) (σ₁ := ⟨[(0, .t (tS enc_SRequest l)), (6, .ptr 6 0), (9, .ptr 9 0), (10, .t (tI s2.1)), (11, .own 2160), (12, .t (tI s.2.1)), (13, .t (tI s2.2.1)), (38, .agg [.t (tI s2.2.2.1.Low), .t (tI s2.2.2.1.High)]), (39, .t (tS enc_SRequest l)), (40, .t (tI s2.2.1)), (41, .el (enc_SRequest x)), (42, .agg [.t (tI x.Source), .t (tI x.Kind), .t (tI x.Torque), .t (tI x.Priority)])], [(6, .box [.t (tI 0), .t (tI 0)]), (9, .box [.t (tI s2.2.2.1.Low), .t (tI s2.2.2.1.High)]), (2160, .rows 4 1 s2.2.2.2.length (s2.2.2.2.map Pv.encB))]⟩) ?_ fun A_3 => ?_
                · refine TieA.all [5, 6] (by kernel_rfl) rfl ?_
                  refine AllA.cons (σ₁ := ⟨[(0, .t (tS enc_SRequest l)), (6, .ptr 6 0), (9, .ptr 9 0), (10, .t (tI s2.1)), (11, .own 2160), (12, .t (tI s.2.1)), (13, .t (tI s2.2.1)), (38, .agg [.t (tI s2.2.2.1.Low), .t (tI s2.2.2.1.High)]), (39, .t (tS enc_SRequest l)), (40, .t (tI s2.2.1)), (41, .el (enc_SRequest x)), (42, .agg [.t (tI x.Source), .t (tI x.Kind), .t (tI x.Torque), .t (tI x.Priority)]), (43, .agg [.t (tI v.Low), .t (tI v.High)])], [(6, .box [.t (tI 0), .t (tI 0)]), (9, .box [.t (tI s2.2.2.1.Low), .t (tI s2.2.2.1.High)]), (2160, .rows 4 1 s2.2.2.2.length (s2.2.2.2.map Pv.encB))]⟩) [true, true, true, true, true, true, false, false] rfl rfl ?_ A_4 ?_
                  · refine TieO.withH hv (TieO.call _ rfl rfl rfl (tie_magnetoref36_Narrow s2.2.2.1 x) (fun _ => rfl) (TieO.ifH ?_))
                    exact TieO.nil (TieS.leaf ⟨rfl, .of rfl rfl⟩)
                  refine AllA.cons (σ₁ := ⟨[(0, .t (tS enc_SRequest l)), (6, .ptr 6 0), (9, .ptr 9 0), (10, .t (tI s2.1)), (11, .own 2160), (12, .t (tI s.2.1)), (13, .t (tI s2.2.1)), (14, .ptr 14 0), (38, .agg [.t (tI s2.2.2.1.Low), .t (tI s2.2.2.1.High)]), (39, .t (tS enc_SRequest l)), (40, .t (tI s2.2.1)), (41, .el (enc_SRequest x)), (42, .agg [.t (tI x.Source), .t (tI x.Kind), .t (tI x.Torque), .t (tI x.Priority)])], [(6, .box [.t (tI 0), .t (tI 0)]), (9, .box [.t (tI s2.2.2.1.Low), .t (tI s2.2.2.1.High)]), (14, .box [.t (tI 0), .t (tI 0)]), (2160, .rows 4 1 s2.2.2.2.length (s2.2.2.2.map Pv.encB))]⟩) [true, true, true, true, true, false, true, false] rfl rfl ?_ A_6 ?_
                  · refine TieO.run 1 rfl ?_
                    exact TieO.nil (TieS.leaf ⟨rfl, .of rfl rfl⟩)
                  exact AllA.nil
                refine TieA.have_ (fuel₁ := 3) (l₁ := [true, true, true, true, false, false, true, false]) (σ₁ := ⟨[(0, .t (tS enc_SRequest l)), (6, .ptr 6 0), (9, .ptr 9 0), (10, .t (tI s2.1)), (11, .own 2160), (12, .t (tI s.2.1)), (13, .t (tI s2.2.1)), (14, .ptr 14 0), (38, .agg [.t (tI s2.2.2.1.Low), .t (tI s2.2.2.1.High)]), (39, .t (tS enc_SRequest l)), (40, .t (tI s2.2.1)), (41, .el (enc_SRequest x))], [(6, .box [.t (tI 0), .t (tI 0)]), (9, .box [.t (tI s2.2.2.1.Low), .t (tI s2.2.2.1.High)]), (14, .box [.t (tI 0), .t (tI 0)]), (2160, .rows 4 1 s2.2.2.2.length (s2.2.2.2.map Pv.encB))]⟩) ?_ fun A_7 => ?_
                · refine TieA.all [4] (by kernel_rfl) rfl ?_
                  refine AllA.cons (σ₁ := ⟨[(0, .t (tS enc_SRequest l)), (6, .ptr 6 0), (9, .ptr 9 0), (10, .t (tI s2.1)), (11, .own 2160), (12, .t (tI s.2.1)), (13, .t (tI s2.2.1)), (14, .ptr 14 0), (38, .agg [.t (tI s2.2.2.1.Low), .t (tI s2.2.2.1.High)]), (39, .t (tS enc_SRequest l)), (40, .t (tI s2.2.1)), (41, .el (enc_SRequest x)), (42, .agg [.t (tI x.Source), .t (tI x.Kind), .t (tI x.Torque), .t (tI x.Priority)])], [(6, .box [.t (tI 0), .t (tI 0)]), (9, .box [.t (tI s2.2.2.1.Low), .t (tI s2.2.2.1.High)]), (14, .box [.t (tI 0), .t (tI 0)]), (2160, .rows 4 1 s2.2.2.2.length (s2.2.2.2.map Pv.encB))]⟩) [true, true, true, true, true, false, true, false] rfl rfl ?_ A_6 ?_
                  · refine TieO.run 1 rfl ?_
                    exact TieO.nil (TieS.leaf ⟨rfl, .of rfl rfl⟩)
                  exact AllA.nil
                refine TieA.have_ (fuel₁ := 4) (l₁ := [true, true, true, true, false, false, false, false]) (σ₁ := ⟨[(0, .t (tS enc_SRequest l)), (6, .ptr 6 0), (9, .ptr 9 0), (10, .t (tI s2.1)), (11, .own 2160), (12, .t (tI s.2.1)), (13, .t (tI s2.2.1)), (38, .agg [.t (tI s2.2.2.1.Low), .t (tI s2.2.2.1.High)]), (39, .t (tS enc_SRequest l)), (40, .t (tI s2.2.1)), (41, .el (enc_SRequest x))], [(6, .box [.t (tI 0), .t (tI 0)]), (9, .box [.t (tI s2.2.2.1.Low), .t (tI s2.2.2.1.High)]), (2160, .rows 4 1 s2.2.2.2.length (s2.2.2.2.map Pv.encB))]⟩) ?_ fun A_2 => ?_
                · refine TieA.all [4, 6] (by kernel_rfl) rfl ?_
                  refine AllA.cons (σ₁ := ⟨[(0, .t (tS enc_SRequest l)), (6, .ptr 6 0), (9, .ptr 9 0), (10, .t (tI s2.1)), (11, .own 2160), (12, .t (tI s.2.1)), (13, .t (tI s2.2.1)), (38, .agg [.t (tI s2.2.2.1.Low), .t (tI s2.2.2.1.High)]), (39, .t (tS enc_SRequest l)), (40, .t (tI s2.2.1)), (41, .el (enc_SRequest x)), (42, .agg [.t (tI x.Source), .t (tI x.Kind), .t (tI x.Torque), .t (tI x.Priority)])], [(6, .box [.t (tI 0), .t (tI 0)]), (9, .box [.t (tI s2.2.2.1.Low), .t (tI s2.2.2.1.High)]), (2160, .rows 4 1 s2.2.2.2.length (s2.2.2.2.map Pv.encB))]⟩) [true, true, true, true, true, false, false, false] rfl rfl ?_ A_3 ?_
                  · refine TieO.run 1 rfl ?_
                    exact TieO.nil (TieS.leaf ⟨rfl, .of rfl rfl⟩)
                  refine AllA.cons (σ₁ := ⟨[(0, .t (tS enc_SRequest l)), (6, .ptr 6 0), (9, .ptr 9 0), (10, .t (tI s2.1)), (11, .own 2160), (12, .t (tI s.2.1)), (13, .t (tI s2.2.1)), (14, .ptr 14 0), (38, .agg [.t (tI s2.2.2.1.Low), .t (tI s2.2.2.1.High)]), (39, .t (tS enc_SRequest l)), (40, .t (tI s2.2.1)), (41, .el (enc_SRequest x))], [(6, .box [.t (tI 0), .t (tI 0)]), (9, .box [.t (tI s2.2.2.1.Low), .t (tI s2.2.2.1.High)]), (14, .box [.t (tI 0), .t (tI 0)]), (2160, .rows 4 1 s2.2.2.2.length (s2.2.2.2.map Pv.encB))]⟩) [true, true, true, true, false, false, true, false] rfl rfl ?_ A_7 ?_
                  · refine TieO.run 1 rfl ?_
                    exact TieO.nil (TieS.leaf ⟨rfl, .of rfl rfl⟩)
                  exact AllA.nil
                refine TieA.have_ (fuel₁ := 4) (l₁ := [true, true, true, false, false, false, true, false]) (σ₁ := ⟨[(0, .t (tS enc_SRequest l)), (6, .ptr 6 0), (9, .ptr 9 0), (10, .t (tI s2.1)), (11, .own 2160), (12, .t (tI s.2.1)), (13, .t (tI s2.2.1)), (14, .ptr 14 0), (38, .agg [.t (tI s2.2.2.1.Low), .t (tI s2.2.2.1.High)]), (39, .t (tS enc_SRequest l)), (40, .t (tI s2.2.1))], [(6, .box [.t (tI 0), .t (tI 0)]), (9, .box [.t (tI s2.2.2.1.Low), .t (tI s2.2.2.1.High)]), (14, .box [.t (tI 0), .t (tI 0)]), (2160, .rows 4 1 s2.2.2.2.length (s2.2.2.2.map Pv.encB))]⟩) ?_ fun A_8 => ?_
                · refine TieA.all [3] (by kernel_rfl) rfl ?_
                  refine AllA.cons (σ₁ := ⟨[(0, .t (tS enc_SRequest l)), (6, .ptr 6 0), (9, .ptr 9 0), (10, .t (tI s2.1)), (11, .own 2160), (12, .t (tI s.2.1)), (13, .t (tI s2.2.1)), (14, .ptr 14 0), (38, .agg [.t (tI s2.2.2.1.Low), .t (tI s2.2.2.1.High)]), (39, .t (tS enc_SRequest l)), (40, .t (tI s2.2.1)), (41, .el (enc_SRequest x))], [(6, .box [.t (tI 0), .t (tI 0)]), (9, .box [.t (tI s2.2.2.1.Low), .t (tI s2.2.2.1.High)]), (14, .box [.t (tI 0), .t (tI 0)]), (2160, .rows 4 1 s2.2.2.2.length (s2.2.2.2.map Pv.encB))]⟩) [true, true, true, true, false, false, true, false] rfl rfl ?_ A_7 ?_
                  · refine TieO.indexH hx rfl rfl rfl rfl rfl rfl rfl rfl (fun _ => rfl) ?_
                    exact TieO.nil (TieS.leaf ⟨rfl, .of rfl rfl⟩)
                  exact AllA.nil
                refine TieA.have_ (fuel₁ := 5) (l₁ := [true, true, true, false, false, false, false, false]) (σ₁ := ⟨[(0, .t (tS enc_SRequest l)), (6, .ptr 6 0), (9, .ptr 9 0), (10, .t (tI s2.1)), (11, .own 2160), (12, .t (tI s.2.1)), (13, .t (tI s2.2.1)), (38, .agg [.t (tI s2.2.2.1.Low), .t (tI s2.2.2.1.High)]), (39, .t (tS enc_SRequest l)), (40, .t (tI s2.2.1))], [(6, .box [.t (tI 0), .t (tI 0)]), (9, .box [.t (tI s2.2.2.1.Low), .t (tI s2.2.2.1.High)]), (2160, .rows 4 1 s2.2.2.2.length (s2.2.2.2.map Pv.encB))]⟩) ?_ fun A_1 => ?_
                · refine TieA.all [3, 6] (by kernel_rfl) rfl ?_
                  refine AllA.cons (σ₁ := ⟨[(0, .t (tS enc_SRequest l)), (6, .ptr 6 0), (9, .ptr 9 0), (10, .t (tI s2.1)), (11, .own 2160), (12, .t (tI s.2.1)), (13, .t (tI s2.2.1)), (38, .agg [.t (tI s2.2.2.1.Low), .t (tI s2.2.2.1.High)]), (39, .t (tS enc_SRequest l)), (40, .t (tI s2.2.1)), (41, .el (enc_SRequest x))], [(6, .box [.t (tI 0), .t (tI 0)]), (9, .box [.t (tI s2.2.2.1.Low), .t (tI s2.2.2.1.High)]), (2160, .rows 4 1 s2.2.2.2.length (s2.2.2.2.map Pv.encB))]⟩) [true, true, true, true, false, false, false, false] rfl rfl ?_ A_2 ?_
                  · refine TieO.indexH hx rfl rfl rfl rfl rfl rfl rfl rfl (fun _ => rfl) ?_
                    exact TieO.nil (TieS.leaf ⟨rfl, .of rfl rfl⟩)
                  refine AllA.cons (σ₁ := ⟨[(0, .t (tS enc_SRequest l)), (6, .ptr 6 0), (9, .ptr 9 0), (10, .t (tI s2.1)), (11, .own 2160), (12, .t (tI s.2.1)), (13, .t (tI s2.2.1)), (14, .ptr 14 0), (38, .agg [.t (tI s2.2.2.1.Low), .t (tI s2.2.2.1.High)]), (39, .t (tS enc_SRequest l)), (40, .t (tI s2.2.1))], [(6, .box [.t (tI 0), .t (tI 0)]), (9, .box [.t (tI s2.2.2.1.Low), .t (tI s2.2.2.1.High)]), (14, .box [.t (tI 0), .t (tI 0)]), (2160, .rows 4 1 s2.2.2.2.length (s2.2.2.2.map Pv.encB))]⟩) [true, true, true, false, false, false, true, false] rfl rfl ?_ A_8 ?_
                  · refine TieO.run 1 rfl ?_
                    exact TieO.nil (TieS.leaf ⟨rfl, .of rfl rfl⟩)
                  exact AllA.nil
                refine TieA.have_ (fuel₁ := 3) (l₁ := [false, true, true, true, true, false, true, false]) (σ₁ := ⟨[(0, .t (tS enc_SRequest l)), (6, .ptr 6 0), (9, .ptr 9 0), (10, .t (tI s2.1)), (11, .own 2160), (12, .t (tI s.2.1)), (13, .t (tI s2.2.1)), (14, .ptr 14 0), (39, .t (tS enc_SRequest l)), (40, .t (tI s2.2.1)), (41, .el (enc_SRequest x)), (42, .agg [.t (tI x.Source), .t (tI x.Kind), .t (tI x.Torque), .t (tI x.Priority)])], [(6, .box [.t (tI 0), .t (tI 0)]), (9, .box [.t (tI s2.2.2.1.Low), .t (tI s2.2.2.1.High)]), (14, .box [.t (tI 0), .t (tI 0)]), (2160, .rows 4 1 s2.2.2.2.length (s2.2.2.2.map Pv.encB))]⟩) ?_ fun A_11 => ?_
                · refine TieA.all [0] (by kernel_rfl) rfl ?_
                  refine AllA.cons (σ₁ := ⟨[(0, .t (tS enc_SRequest l)), (6, .ptr 6 0), (9, .ptr 9 0), (10, .t (tI s2.1)), (11, .own 2160), (12, .t (tI s.2.1)), (13, .t (tI s2.2.1)), (14, .ptr 14 0), (38, .agg [.t (tI s2.2.2.1.Low), .t (tI s2.2.2.1.High)]), (39, .t (tS enc_SRequest l)), (40, .t (tI s2.2.1)), (41, .el (enc_SRequest x)), (42, .agg [.t (tI x.Source), .t (tI x.Kind), .t (tI x.Torque), .t (tI x.Priority)])], [(6, .box [.t (tI 0), .t (tI 0)]), (9, .box [.t (tI s2.2.2.1.Low), .t (tI s2.2.2.1.High)]), (14, .box [.t (tI 0), .t (tI 0)]), (2160, .rows 4 1 s2.2.2.2.length (s2.2.2.2.map Pv.encB))]⟩) [true, true, true, true, true, false, true, false] rfl rfl ?_ A_6 ?_
                  · refine TieO.run 1 rfl ?_
                    exact TieO.nil (TieS.leaf ⟨rfl, .of rfl rfl⟩)
                  exact AllA.nil
                refine TieA.have_ (fuel₁ := 4) (l₁ := [false, true, true, true, true, false, false, false]) (σ₁ := ⟨[(0, .t (tS enc_SRequest l)), (6, .ptr 6 0), (9, .ptr 9 0), (10, .t (tI s2.1)), (11, .own 2160), (12, .t (tI s.2.1)), (13, .t (tI s2.2.1)), (39, .t (tS enc_SRequest l)), (40, .t (tI s2.2.1)), (41, .el (enc_SRequest x)), (42, .agg [.t (tI x.Source), .t (tI x.Kind), .t (tI x.Torque), .t (tI x.Priority)])], [(6, .box [.t (tI 0), .t (tI 0)]), (9, .box [.t (tI s2.2.2.1.Low), .t (tI s2.2.2.1.High)]), (2160, .rows 4 1 s2.2.2.2.length (s2.2.2.2.map Pv.encB))]⟩) ?_ fun A_10 => ?_
                · refine TieA.all [0, 6] (by kernel_rfl) rfl ?_
                  refine AllA.cons (σ₁ := ⟨[(0, .t (tS enc_SRequest l)), (6, .ptr 6 0), (9, .ptr 9 0), (10, .t (tI s2.1)), (11, .own 2160), (12, .t (tI s.2.1)), (13, .t (tI s2.2.1)), (38, .agg [.t (tI s2.2.2.1.Low), .t (tI s2.2.2.1.High)]), (39, .t (tS enc_SRequest l)), (40, .t (tI s2.2.1)), (41, .el (enc_SRequest x)), (42, .agg [.t (tI x.Source), .t (tI x.Kind), .t (tI x.Torque), .t (tI x.Priority)])], [(6, .box [.t (tI 0), .t (tI 0)]), (9, .box [.t (tI s2.2.2.1.Low), .t (tI s2.2.2.1.High)]), (2160, .rows 4 1 s2.2.2.2.length (s2.2.2.2.map Pv.encB))]⟩) [true, true, true, true, true, false, false, false] rfl rfl ?_ A_3 ?_
                  · refine TieO.run 1 rfl ?_
                    exact TieO.nil (TieS.leaf ⟨rfl, .of rfl rfl⟩)
                  refine AllA.cons (σ₁ := ⟨[(0, .t (tS enc_SRequest l)), (6, .ptr 6 0), (9, .ptr 9 0), (10, .t (tI s2.1)), (11, .own 2160), (12, .t (tI s.2.1)), (13, .t (tI s2.2.1)), (14, .ptr 14 0), (39, .t (tS enc_SRequest l)), (40, .t (tI s2.2.1)), (41, .el (enc_SRequest x)), (42, .agg [.t (tI x.Source), .t (tI x.Kind), .t (tI x.Torque), .t (tI x.Priority)])], [(6, .box [.t (tI 0), .t (tI 0)]), (9, .box [.t (tI s2.2.2.1.Low), .t (tI s2.2.2.1.High)]), (14, .box [.t (tI 0), .t (tI 0)]), (2160, .rows 4 1 s2.2.2.2.length (s2.2.2.2.map Pv.encB))]⟩) [false, true, true, true, true, false, true, false] rfl rfl ?_ A_11 ?_
                  · refine TieO.run 1 rfl ?_
                    exact TieO.nil (TieS.leaf ⟨rfl, .of rfl rfl⟩)
                  exact AllA.nil
                refine TieA.have_ (fuel₁ := 4) (l₁ := [false, true, true, true, false, false, true, false]) (σ₁ := ⟨[(0, .t (tS enc_SRequest l)), (6, .ptr 6 0), (9, .ptr 9 0), (10, .t (tI s2.1)), (11, .own 2160), (12, .t (tI s.2.1)), (13, .t (tI s2.2.1)), (14, .ptr 14 0), (39, .t (tS enc_SRequest l)), (40, .t (tI s2.2.1)), (41, .el (enc_SRequest x))], [(6, .box [.t (tI 0), .t (tI 0)]), (9, .box [.t (tI s2.2.2.1.Low), .t (tI s2.2.2.1.High)]), (14, .box [.t (tI 0), .t (tI 0)]), (2160, .rows 4 1 s2.2.2.2.length (s2.2.2.2.map Pv.encB))]⟩) ?_ fun A_12 => ?_
                · refine TieA.all [0, 4] (by kernel_rfl) rfl ?_
                  refine AllA.cons (σ₁ := ⟨[(0, .t (tS enc_SRequest l)), (6, .ptr 6 0), (9, .ptr 9 0), (10, .t (tI s2.1)), (11, .own 2160), (12, .t (tI s.2.1)), (13, .t (tI s2.2.1)), (14, .ptr 14 0), (38, .agg [.t (tI s2.2.2.1.Low), .t (tI s2.2.2.1.High)]), (39, .t (tS enc_SRequest l)), (40, .t (tI s2.2.1)), (41, .el (enc_SRequest x))], [(6, .box [.t (tI 0), .t (tI 0)]), (9, .box [.t (tI s2.2.2.1.Low), .t (tI s2.2.2.1.High)]), (14, .box [.t (tI 0), .t (tI 0)]), (2160, .rows 4 1 s2.2.2.2.length (s2.2.2.2.map Pv.encB))]⟩) [true, true, true, true, false, false, true, false] rfl rfl ?_ A_7 ?_
                  · refine TieO.run 1 rfl ?_
                    exact TieO.nil (TieS.leaf ⟨rfl, .of rfl rfl⟩)
                  refine AllA.cons (σ₁ := ⟨[(0, .t (tS enc_SRequest l)), (6, .ptr 6 0), (9, .ptr 9 0), (10, .t (tI s2.1)), (11, .own 2160), (12, .t (tI s.2.1)), (13, .t (tI s2.2.1)), (14, .ptr 14 0), (39, .t (tS enc_SRequest l)), (40, .t (tI s2.2.1)), (41, .el (enc_SRequest x)), (42, .agg [.t (tI x.Source), .t (tI x.Kind), .t (tI x.Torque), .t (tI x.Priority)])], [(6, .box [.t (tI 0), .t (tI 0)]), (9, .box [.t (tI s2.2.2.1.Low), .t (tI s2.2.2.1.High)]), (14, .box [.t (tI 0), .t (tI 0)]), (2160, .rows 4 1 s2.2.2.2.length (s2.2.2.2.map Pv.encB))]⟩) [false, true, true, true, true, false, true, false] rfl rfl ?_ A_11 ?_
                  · refine TieO.run 1 rfl ?_
                    exact TieO.nil (TieS.leaf ⟨rfl, .of rfl rfl⟩)
                  exact AllA.nil
                refine TieA.have_ (fuel₁ := 5) (l₁ := [false, true, true, true, false, false, false, false]) (σ₁ := ⟨[(0, .t (tS enc_SRequest l)), (6, .ptr 6 0), (9, .ptr 9 0), (10, .t (tI s2.1)), (11, .own 2160), (12, .t (tI s.2.1)), (13, .t (tI s2.2.1)), (39, .t (tS enc_SRequest l)), (40, .t (tI s2.2.1)), (41, .el (enc_SRequest x))], [(6, .box [.t (tI 0), .t (tI 0)]), (9, .box [.t (tI s2.2.2.1.Low), .t (tI s2.2.2.1.High)]), (2160, .rows 4 1 s2.2.2.2.length (s2.2.2.2.map Pv.encB))]⟩) ?_ fun A_9 => ?_
                · refine TieA.all [0, 4, 6] (by kernel_rfl) rfl ?_
                  refine AllA.cons (σ₁ := ⟨[(0, .t (tS enc_SRequest l)), (6, .ptr 6 0), (9, .ptr 9 0), (10, .t (tI s2.1)), (11, .own 2160), (12, .t (tI s.2.1)), (13, .t (tI s2.2.1)), (38, .agg [.t (tI s2.2.2.1.Low), .t (tI s2.2.2.1.High)]), (39, .t (tS enc_SRequest l)), (40, .t (tI s2.2.1)), (41, .el (enc_SRequest x))], [(6, .box [.t (tI 0), .t (tI 0)]), (9, .box [.t (tI s2.2.2.1.Low), .t (tI s2.2.2.1.High)]), (2160, .rows 4 1 s2.2.2.2.length (s2.2.2.2.map Pv.encB))]⟩) [true, true, true, true, false, false, false, false] rfl rfl ?_ A_2 ?_
                  · refine TieO.run 1 rfl ?_
                    exact TieO.nil (TieS.leaf ⟨rfl, .of rfl rfl⟩)
                  refine AllA.cons (σ₁ := ⟨[(0, .t (tS enc_SRequest l)), (6, .ptr 6 0), (9, .ptr 9 0), (10, .t (tI s2.1)), (11, .own 2160), (12, .t (tI s.2.1)), (13, .t (tI s2.2.1)), (39, .t (tS enc_SRequest l)), (40, .t (tI s2.2.1)), (41, .el (enc_SRequest x)), (42, .agg [.t (tI x.Source), .t (tI x.Kind), .t (tI x.Torque), .t (tI x.Priority)])], [(6, .box [.t (tI 0), .t (tI 0)]), (9, .box [.t (tI s2.2.2.1.Low), .t (tI s2.2.2.1.High)]), (2160, .rows 4 1 s2.2.2.2.length (s2.2.2.2.map Pv.encB))]⟩) [false, true, true, true, true, false, false, false] rfl rfl ?_ A_10 ?_
                  · refine TieO.run 1 rfl ?_
                    exact TieO.nil (TieS.leaf ⟨rfl, .of rfl rfl⟩)
                  refine AllA.cons (σ₁ := ⟨[(0, .t (tS enc_SRequest l)), (6, .ptr 6 0), (9, .ptr 9 0), (10, .t (tI s2.1)), (11, .own 2160), (12, .t (tI s.2.1)), (13, .t (tI s2.2.1)), (14, .ptr 14 0), (39, .t (tS enc_SRequest l)), (40, .t (tI s2.2.1)), (41, .el (enc_SRequest x))], [(6, .box [.t (tI 0), .t (tI 0)]), (9, .box [.t (tI s2.2.2.1.Low), .t (tI s2.2.2.1.High)]), (14, .box [.t (tI 0), .t (tI 0)]), (2160, .rows 4 1 s2.2.2.2.length (s2.2.2.2.map Pv.encB))]⟩) [false, true, true, true, false, false, true, false] rfl rfl ?_ A_12 ?_
                  · refine TieO.run 1 rfl ?_
                    exact TieO.nil (TieS.leaf ⟨rfl, .of rfl rfl⟩)
                  exact AllA.nil
                refine TieA.have_ (fuel₁ := 5) (l₁ := [false, true, true, false, false, false, true, false]) (σ₁ := ⟨[(0, .t (tS enc_SRequest l)), (6, .ptr 6 0), (9, .ptr 9 0), (10, .t (tI s2.1)), (11, .own 2160), (12, .t (tI s.2.1)), (13, .t (tI s2.2.1)), (14, .ptr 14 0), (39, .t (tS enc_SRequest l)), (40, .t (tI s2.2.1))], [(6, .box [.t (tI 0), .t (tI 0)]), (9, .box [.t (tI s2.2.2.1.Low), .t (tI s2.2.2.1.High)]), (14, .box [.t (tI 0), .t (tI 0)]), (2160, .rows 4 1 s2.2.2.2.length (s2.2.2.2.map Pv.encB))]⟩) ?_ fun A_13 => ?_
                · refine TieA.all [0, 3] (by kernel_rfl) rfl ?_
                  refine AllA.cons (σ₁ := ⟨[(0, .t (tS enc_SRequest l)), (6, .ptr 6 0), (9, .ptr 9 0), (10, .t (tI s2.1)), (11, .own 2160), (12, .t (tI s.2.1)), (13, .t (tI s2.2.1)), (14, .ptr 14 0), (38, .agg [.t (tI s2.2.2.1.Low), .t (tI s2.2.2.1.High)]), (39, .t (tS enc_SRequest l)), (40, .t (tI s2.2.1))], [(6, .box [.t (tI 0), .t (tI 0)]), (9, .box [.t (tI s2.2.2.1.Low), .t (tI s2.2.2.1.High)]), (14, .box [.t (tI 0), .t (tI 0)]), (2160, .rows 4 1 s2.2.2.2.length (s2.2.2.2.map Pv.encB))]⟩) [true, true, true, false, false, false, true, false] rfl rfl ?_ A_8 ?_
                  · refine TieO.run 1 rfl ?_
                    exact TieO.nil (TieS.leaf ⟨rfl, .of rfl rfl⟩)
                  refine AllA.cons (σ₁ := ⟨[(0, .t (tS enc_SRequest l)), (6, .ptr 6 0), (9, .ptr 9 0), (10, .t (tI s2.1)), (11, .own 2160), (12, .t (tI s.2.1)), (13, .t (tI s2.2.1)), (14, .ptr 14 0), (39, .t (tS enc_SRequest l)), (40, .t (tI s2.2.1)), (41, .el (enc_SRequest x))], [(6, .box [.t (tI 0), .t (tI 0)]), (9, .box [.t (tI s2.2.2.1.Low), .t (tI s2.2.2.1.High)]), (14, .box [.t (tI 0), .t (tI 0)]), (2160, .rows 4 1 s2.2.2.2.length (s2.2.2.2.map Pv.encB))]⟩) [false, true, true, true, false, false, true, false] rfl rfl ?_ A_12 ?_
                  · refine TieO.indexH hx rfl rfl rfl rfl rfl rfl rfl rfl (fun _ => rfl) ?_
                    exact TieO.nil (TieS.leaf ⟨rfl, .of rfl rfl⟩)
                  exact AllA.nil
                refine TieA.move 1 [false, true, false, false, false, false, false, false] rfl rfl (by first | exact .inl rfl | exact .inr rfl) rfl rfl rfl (by kernel_rfl) (by kernel_rfl) (by kernel_rfl) rfl ?_
                refine TieA.move 2 [false, true, true, false, false, false, false, false] rfl rfl (by first | exact .inl rfl | exact .inr rfl) rfl rfl rfl (by kernel_rfl) (by kernel_rfl) (by kernel_rfl) rfl ?_
                refine TieA.all [0, 3, 6] (by kernel_rfl) rfl ?_
                refine AllA.cons (σ₁ := ⟨[(0, .t (tS enc_SRequest l)), (6, .ptr 6 0), (9, .ptr 9 0), (10, .t (tI s2.1)), (11, .own 2160), (12, .t (tI s.2.1)), (13, .t (tI s2.2.1)), (38, .agg [.t (tI s2.2.2.1.Low), .t (tI s2.2.2.1.High)]), (39, .t (tS enc_SRequest l)), (40, .t (tI s2.2.1))], [(6, .box [.t (tI 0), .t (tI 0)]), (9, .box [.t (tI s2.2.2.1.Low), .t (tI s2.2.2.1.High)]), (2160, .rows 4 1 s2.2.2.2.length (s2.2.2.2.map Pv.encB))]⟩) [true, true, true, false, false, false, false, false] rfl rfl ?_ A_1 ?_
                · refine TieO.run 1 rfl ?_
                  exact TieO.nil (TieS.leaf ⟨rfl, .of rfl rfl⟩)
                refine AllA.cons (σ₁ := ⟨[(0, .t (tS enc_SRequest l)), (6, .ptr 6 0), (9, .ptr 9 0), (10, .t (tI s2.1)), (11, .own 2160), (12, .t (tI s.2.1)), (13, .t (tI s2.2.1)), (39, .t (tS enc_SRequest l)), (40, .t (tI s2.2.1)), (41, .el (enc_SRequest x))], [(6, .box [.t (tI 0), .t (tI 0)]), (9, .box [.t (tI s2.2.2.1.Low), .t (tI s2.2.2.1.High)]), (2160, .rows 4 1 s2.2.2.2.length (s2.2.2.2.map Pv.encB))]⟩) [false, true, true, true, false, false, false, false] rfl rfl ?_ A_9 ?_
                · refine TieO.indexH hx rfl rfl rfl rfl rfl rfl rfl rfl (fun _ => rfl) ?_
                  exact TieO.nil (TieS.leaf ⟨rfl, .of rfl rfl⟩)
                refine AllA.cons (σ₁ := ⟨[(0, .t (tS enc_SRequest l)), (6, .ptr 6 0), (9, .ptr 9 0), (10, .t (tI s2.1)), (11, .own 2160), (12, .t (tI s.2.1)), (13, .t (tI s2.2.1)), (14, .ptr 14 0), (39, .t (tS enc_SRequest l)), (40, .t (tI s2.2.1))], [(6, .box [.t (tI 0), .t (tI 0)]), (9, .box [.t (tI s2.2.2.1.Low), .t (tI s2.2.2.1.High)]), (14, .box [.t (tI 0), .t (tI 0)]), (2160, .rows 4 1 s2.2.2.2.length (s2.2.2.2.map Pv.encB))]⟩) [false, true, true, false, false, false, true, false] rfl rfl ?_ A_13 ?_
                · refine TieO.run 1 rfl ?_
                  exact TieO.nil (TieS.leaf ⟨rfl, .of rfl rfl⟩)
                exact AllA.nil
              refine TieO.run 1 rfl ?_
              refine TieO.nil ?_
              exact TieS.leaf ⟨rfl, .of rfl rfl⟩
            rintro f2 e σ' _ ⟨rfl, hs⟩
            refine TieX.sub hs ?_
            refine TieS.seq ?_
            refine TieS.seq ?_
            refine TieS.region ?_
            refine TieO.run 5 rfl ?_
            refine TieO.nil ?_
            refine TieS.bind (Q₁ := fun t e σ' => e = .normal ∧ Sub ⟨[(0, .t (tS enc_SRequest l)), (6, .ptr 6 0), (9, .ptr 9 0), (10, .t (tI t)), (11, .own 2160), (12, .t (tI s.2.1)), (13, .t (tI s2.2.1)), (14, .ptr 14 0)], [(6, .box [.t (tI 0), .t (tI 0)]), (9, .box [.t (tI s2.2.2.1.Low), .t (tI s2.2.2.1.High)]), (14, .box [.t (tI f2.Low), .t (tI f2.High)]), (2160, .rows 4 1 s2.2.2.2.length (s2.2.2.2.map Pv.encB))]⟩ σ') ?_ ?_
            · refine TieS.cond rfl ?_ ?_
              · refine TieS.region ?_
                refine TieO.run 2 rfl ?_
                refine TieO.indexH hx rfl rfl rfl rfl rfl rfl rfl rfl (fun _ => rfl) ?_
                refine TieO.run 3 rfl ?_
                refine TieO.nil ?_
                exact TieS.leaf ⟨rfl, .of rfl rfl⟩
              · refine TieS.skip ?_
                exact TieS.leaf ⟨rfl, .of rfl rfl⟩
            rintro source e σ' _ ⟨rfl, hs⟩
            refine TieX.sub hs ?_
            refine TieS.seq ?_
            refine TieS.region ?_
            refine TieO.run 4 rfl ?_
            refine TieO.neS [.int .i64 f2.Low, .int .i64 f2.High] [.int .i64 s2.2.2.1.Low, .int .i64 s2.2.2.1.High] (eqv_30 f2.Low f2.High s2.2.2.1.Low s2.2.2.1.High) rfl rfl rfl rfl rfl rfl ?_
            refine TieO.indexO rfl rfl rfl rfl rfl rfl rfl rfl rfl rfl fun x2 hx2 => ?_
            refine TieO.storeY (!((f2.Low == s2.2.2.1.Low) && ((f2.High == s2.2.2.1.High) && true))) [tB (!((f2.Low == s2.2.2.1.Low) && ((f2.High == s2.2.2.1.High) && true)))] hx2 rfl rfl rfl rfl rfl rfl rfl rfl rfl rfl rfl rfl fun l3 hl3 => ?_
            refine TieO.nil ?_
            refine TieS.region ?_
            refine TieO.run 2 rfl ?_
            refine TieO.nil ?_
            refine TieS.endb ?_
            refine TieS.region ?_
            refine TieO.run 3 rfl ?_
            refine TieO.nil ?_
            exact TieS.leaf ⟨rfl, .of rfl rfl⟩
        · exact TieS.exitOut rfl ⟨(fun h => by cases h), rfl, .of rfl rfl⟩
      rintro (s3 | r) e σ' _ hq
      · obtain ⟨rfl, hs⟩ := hq
        refine TieX.exit rfl (TieX.sub hs ?_)
        refine TieS.endb ?_
        refine TieS.region ?_
        refine TieO.run 3 rfl ?_
        refine TieO.nil ?_
        exact TieS.leaf ⟨rfl, .of rfl rfl⟩
      · exact hq.elim
    · exact TieS.exitOut rfl ⟨(fun h => by cases h), rfl, .of rfl rfl⟩
  rintro (s4 | r) e σ' _ hq
  · obtain ⟨rfl, hs⟩ := hq
    refine TieX.exit rfl (TieX.sub hs ?_)
    refine TieS.seq ?_
    refine TieS.region ?_
    refine TieO.run 6 rfl ?_
    refine TieO.nil ?_
    exact TieS.ret ⟨.inl rfl, rfl⟩
  · exact hq.elim
-- magneto/arbiter.Bounds
set_option maxRecDepth 100000 in
theorem tie_arbiter_Bounds (l : List SRequest) (low : Int) (high : Int) : TieF Try.prog 17 [.t (tS enc_SRequest l), .t (tI low), .t (tI high)] (arbiter_Bounds l low high) (fun r => .tup [A_SRange r.1, .t (tI r.2)]) := by
  refine TieF.intro htab 31 [.cell 6 30, .tmp 7] Try.call17 Try.func17 rfl rfl rfl (Nat.le_of_ble_eq_true rfl) fun w0 L => ?_
  refine TieS.seq ?_
  refine TieS.region ?_
  refine TieO.run 2 rfl ?_
  refine TieO.nil ?_
  refine TieS.seq ?_
  refine TieS.seq ?_
  refine TieS.region ?_
  refine TieO.run 3 rfl ?_
  refine TieO.call _ rfl rfl rfl (tie_arbiter_given l low high) (fun _ => rfl) fun v => ?_
  refine TieO.run 1 rfl ?_
  refine TieO.nil ?_
  refine TieS.seq ?_
  refine TieS.region ?_
  refine TieO.run 2 rfl ?_
  refine TieO.nil ?_
  refine TieS.cond rfl ?_ ?_
  · refine TieS.seq ?_
    refine TieS.region ?_
    refine TieO.run 4 rfl ?_
    refine TieO.nil ?_
    exact TieS.ret ⟨.inl rfl, rfl⟩
  · refine TieS.skip ?_
    refine TieS.seq ?_
    refine TieS.region ?_
    refine TieO.run 3 rfl ?_
    refine TieO.call _ rfl rfl rfl (tie_arbiter_decide l low high) (fun _ => rfl) fun r2 => ?_
    refine TieO.run 6 rfl ?_
    refine TieO.nil ?_
    refine TieS.seq ?_
    refine TieS.region ?_
    refine TieO.run 7 rfl ?_
    refine TieO.nil ?_
    exact TieS.ret ⟨.inl rfl, rfl⟩
-- magneto/magnetolaw36.ArbiterDecides
set_option maxRecDepth 100000 in
theorem tie_magnetolaw36_ArbiterDecides (l : List SRequest) (low : Int) (high : Int) : TieF Try.prog 4 [.t (tS enc_SRequest l), .t (tI low), .t (tI high)] (magnetolaw36_ArbiterDecides l low high) (fun r => .t (tB r)) := by
  refine TieF.intro htab 102 [.tmp 6] Try.call4 Try.func4 rfl rfl rfl (Nat.le_of_ble_eq_true rfl) fun w0 L => ?_
  refine TieS.seq ?_
  refine TieS.region ?_
  refine TieO.run 1 rfl ?_
  refine TieO.nil ?_
  refine TieS.seq ?_
  refine TieS.seq ?_
  refine TieS.region ?_
  refine TieO.call _ rfl rfl rfl (tie_magnetolaw36_awake) (fun _ => rfl) fun v => ?_
  refine TieO.run 2 rfl ?_
  refine TieO.selOr (v := decide ((l.length : Int) > 100)) 4 19 (fun b => ⟨[(0, .t (tS enc_SRequest l)), (1, .t (tI low)), (2, .t (tI high)), (23, .t (tB b))], []⟩) rfl ?_ ?_ ?_
  · refine TieO.run 4 rfl ?_
    refine TieO.nil ?_
    exact TieS.leaf ⟨rfl, .of rfl rfl⟩
  · refine TieO.run 4 rfl ?_
    refine TieO.nil ?_
    exact TieS.leaf ⟨rfl, .of rfl rfl⟩
  refine TieO.nil ?_
  refine TieS.cond rfl ?_ ?_
  · refine TieS.seq ?_
    refine TieS.region ?_
    refine TieO.call _ rfl rfl rfl (tie_magnetolaw36_awake) (fun _ => rfl) fun v2 => ?_
    refine TieO.run 1 rfl ?_
    refine TieO.nil ?_
    exact TieS.ret ⟨.inl rfl, rfl⟩
  · refine TieS.skip ?_
    refine TieS.seq ?_
    refine TieS.region ?_
    refine TieO.run 3 rfl ?_
    refine TieO.call _ rfl rfl rfl (tie_arbiter_Bounds l low high) (fun _ => rfl) fun r2 => ?_
    refine TieO.run 6 rfl ?_
    refine TieO.nil ?_
    refine TieS.seq ?_
    refine TieS.region ?_
    refine TieO.run 3 rfl ?_
    refine TieO.call _ rfl rfl rfl (tie_arbiter_Decide l low high) (fun _ => rfl) fun r3 => ?_
    refine TieO.run 6 rfl ?_
    refine TieO.nil ?_
    refine TieS.seq ?_
    refine TieS.seq ?_
    refine TieS.region ?_
    refine TieO.run 3 rfl ?_
    refine TieO.nil ?_
    refine TieS.block ?_
    refine TieS.loop (fun p => ⟨[(0, .t (tS enc_SRequest l)), (1, .t (tI low)), (2, .t (tI high)), (7, .ptr 7 0), (8, .t (tI r2.2)), (9, .ptr 9 0), (10, .t (tI r3.2)), (39, .t (tS enc_SRequest l)), (40, .t (tI (l.length : Int))), (41, .t (tI p.1))], [(7, .box [.t (tI r2.1.Low), .t (tI r2.1.High)]), (9, .box [.t (tI r3.1.Torque), .t (tI r3.1.Source)])]⟩) (fun b e σ' => match b with | .inl t => e = .exit 0 ∧ Sub ⟨[(0, .t (tS enc_SRequest l)), (1, .t (tI low)), (2, .t (tI high)), (7, .ptr 7 0), (8, .t (tI r2.2)), (9, .ptr 9 0), (10, .t (tI r3.2))], [(7, .box [.t (tI r2.1.Low), .t (tI r2.1.High)]), (9, .box [.t (tI r3.1.Torque), .t (tI r3.1.Source)])]⟩ σ' | .inr t => e = .ret ∧ retT tab σ' [.tmp 6] = some (((fun r => .t (tB r)) : Bool → T) t)) (.of rfl rfl) ?_ ?_
    · rintro ⟨i, s⟩
      refine TieS.seq ?_
      refine TieS.region ?_
      refine TieO.run 1 rfl ?_
      refine TieO.nil ?_
      refine TieS.seq ?_
      refine TieS.cond rfl ?_ ?_
      · refine TieS.skip ?_
        refine TieS.seq ?_
        refine TieX.pre fun x hx => ?_
        refine TieX.sub (σ' := ⟨[(0, .t (tS enc_SRequest l)), (1, .t (tI low)), (2, .t (tI high)), (7, .ptr 7 0), (8, .t (tI r2.2)), (9, .ptr 9 0), (10, .t (tI r3.2)), (39, .t (tS enc_SRequest l)), (40, .t (tI (l.length : Int))), (41, .t (tI i))], [(7, .box [.t (tI r2.1.Low), .t (tI r2.1.High)]), (9, .box [.t (tI r3.1.Torque), .t (tI r3.1.Source)])]⟩) (.of rfl rfl) ?_
        refine TieS.bind (Q₁ := fun f e σ' => match f with | .next t => e = .normal ∧ Sub ⟨[(0, .t (tS enc_SRequest l)), (1, .t (tI low)), (2, .t (tI high)), (7, .ptr 7 0), (8, .t (tI r2.2)), (9, .ptr 9 0), (10, .t (tI r3.2)), (39, .t (tS enc_SRequest l)), (40, .t (tI (l.length : Int))), (41, .t (tI i))], [(7, .box [.t (tI r2.1.Low), .t (tI r2.1.High)]), (9, .box [.t (tI r3.1.Torque), .t (tI r3.1.Source)])]⟩ σ' | .brk t => e = .exit 0 ∧ Sub ⟨[(0, .t (tS enc_SRequest l)), (1, .t (tI low)), (2, .t (tI high)), (7, .ptr 7 0), (8, .t (tI r2.2)), (9, .ptr 9 0), (10, .t (tI r3.2))], [(7, .box [.t (tI r2.1.Low), .t (tI r2.1.High)]), (9, .box [.t (tI r3.1.Torque), .t (tI r3.1.Source)])]⟩ σ' | .ret t => e = .ret ∧ retT tab σ' [.tmp 6] = some (((fun r => .t (tB r)) : Bool → T) t)) ?_ ?_
        · refine TieS.block ?_
          refine TieS.seq ?_
          refine TieS.region ?_
          refine TieO.indexH hx rfl rfl rfl rfl rfl rfl rfl rfl (fun _ => rfl) ?_
          refine TieO.run 3 rfl ?_
          refine TieO.nil ?_
          refine TieS.seq ?_
          refine TieX.pre fun v3 hv3 => ?_
          refine TieX.pre fun v4 hv4 => ?_
          refine TieS.draw 5 [.agg [.t (tI x.Source), .t (tI x.Kind), .t (tI x.Torque), .t (tI x.Priority)], .t (tB v3), .agg [.t (tI x.Source), .t (tI x.Kind), .t (tI x.Torque), .t (tI x.Priority)], .t (tB v4), .t (tB (!(v3 == v4)))] [(0, .t (tS enc_SRequest l)), (1, .t (tI low)), (2, .t (tI high)), (7, .ptr 7 0), (8, .t (tI r2.2)), (9, .ptr 9 0), (10, .t (tI r3.2)), (12, .ptr 12 0), (39, .t (tS enc_SRequest l)), (40, .t (tI (l.length : Int))), (41, .t (tI i))] [(7, .box [.t (tI r2.1.Low), .t (tI r2.1.High)]), (9, .box [.t (tI r3.1.Torque), .t (tI r3.1.Source)]), (12, .box [.t (tI x.Source), .t (tI x.Kind), .t (tI x.Torque), .t (tI x.Priority)])] mixed (.of rfl rfl) rfl rfl rfl rfl (.cons (.quiet rfl rfl rfl) (.cons (.callV (tie_arbiter_Valid x) hv3 rfl rfl rfl rfl) (.cons (.quiet rfl rfl rfl) (.cons (.callV (tie_magnetoref36_Valid x) hv4 rfl rfl rfl rfl) (.cons (.quiet rfl rfl rfl) (.nil)))))) ?_
          refine TieO.nil ?_
          refine TieS.cond rfl ?_ ?_
          · refine TieS.seq ?_
            refine TieS.region ?_
            refine TieO.run 1 rfl ?_
            refine TieO.nil ?_
            exact TieS.ret ⟨rfl, rfl⟩
          · refine TieS.skip ?_
            refine TieS.endb ?_
            exact TieS.leaf ⟨rfl, .of rfl rfl⟩
        rintro (t | t | t) e σ' _ hq
        · obtain ⟨rfl, hs⟩ := hq
          refine TieX.sub hs ?_
          refine TieS.region ?_
          refine TieO.run 2 rfl ?_
          refine TieO.nil ?_
          exact TieS.leaf ⟨rfl, .of rfl rfl⟩
        · obtain ⟨rfl, hs⟩ := hq
          exact TieX.exitOut rfl ⟨(fun h => by cases h), rfl, hs⟩
        · obtain ⟨rfl, hs⟩ := hq
          exact TieX.ret ⟨(fun h => by cases h), rfl, hs⟩
      · exact TieS.exitOut rfl ⟨(fun h => by cases h), rfl, .of rfl rfl⟩
    rintro (s2 | r5) e σ' _ hq
    · obtain ⟨rfl, hs⟩ := hq
      refine TieX.exit rfl (TieX.sub hs ?_)
      refine TieS.seq ?_
      refine TieS.seq ?_
      refine TieS.region ?_
      refine TieO.run 3 rfl ?_
      refine TieO.call _ rfl rfl rfl (tie_magnetoref36_Check l low high) (fun _ => rfl) fun v5 => ?_
      refine TieO.run 1 rfl ?_
      refine TieO.nil ?_
      refine TieS.seq ?_
      refine TieS.region ?_
      refine TieO.run 2 rfl ?_
      refine TieO.nil ?_
      refine TieS.cond rfl ?_ ?_
      · refine TieS.seq ?_
        refine TieS.region ?_
        refine TieO.run 2 rfl ?_
        refine TieO.eqS [.int .i64 r2.1.Low, .int .i64 r2.1.High] [.int .i64 0, .int .i64 0] (eqv_30 r2.1.Low r2.1.High 0 0) rfl rfl rfl rfl rfl rfl ?_
        refine TieO.run 1 rfl ?_
        refine TieO.selAnd (v := (r2.2 == v5)) 4 60 (fun b => ⟨[(9, .ptr 9 0), (10, .t (tI r3.2)), (13, .t (tI v5)), (64, .t (tB b))], [(9, .box [.t (tI r3.1.Torque), .t (tI r3.1.Source)])]⟩) rfl ?_ ?_ ?_
        · refine TieO.run 4 rfl ?_
          refine TieO.nil ?_
          exact TieS.leaf ⟨rfl, .of rfl rfl⟩
        · refine TieO.run 4 rfl ?_
          refine TieO.nil ?_
          exact TieS.leaf ⟨rfl, .of rfl rfl⟩
        refine TieO.run 1 rfl ?_
        refine TieO.bind 4 (fun b2 => ⟨[(10, .t (tI r3.2)), (13, .t (tI v5)), (69, .t (tB b2))], []⟩) (TieO.split 65 rfl ?_ ?_) fun b2 _ => ?_
        · refine TieO.run 2 rfl ?_
          refine TieO.eqS [.int .i64 r3.1.Torque, .int .i64 r3.1.Source] [.int .i64 0, .int .i64 0] (eqv_43 r3.1.Torque r3.1.Source 0 0) rfl rfl rfl rfl rfl rfl ?_
          refine TieO.run 1 rfl ?_
          refine TieO.nil ?_
          exact TieS.leaf ⟨rfl, .of rfl rfl⟩
        · refine TieO.run 4 rfl ?_
          refine TieO.nil ?_
          exact TieS.leaf ⟨rfl, .of rfl rfl⟩
        refine TieO.run 1 rfl ?_
        refine TieO.selAnd (v := (r3.2 == v5)) 4 70 (fun b => ⟨[(74, .t (tB b))], []⟩) rfl ?_ ?_ ?_
        · refine TieO.run 4 rfl ?_
          refine TieO.nil ?_
          exact TieS.leaf ⟨rfl, .of rfl rfl⟩
        · refine TieO.run 4 rfl ?_
          refine TieO.nil ?_
          exact TieS.leaf ⟨rfl, .of rfl rfl⟩
        refine TieO.run 1 rfl ?_
        refine TieO.nil ?_
        exact TieS.ret ⟨.inl rfl, rfl⟩
      · refine TieS.skip ?_
        refine TieS.seq ?_
        refine TieS.region ?_
        refine TieO.run 3 rfl ?_
        refine TieO.call _ rfl rfl rfl (tie_magnetoref36_Interval l low high) (fun _ => rfl) fun r4 => ?_
        refine TieO.run 8 rfl ?_
        refine TieO.nil ?_
        refine TieS.seq ?_
        refine TieS.region ?_
        refine TieO.run 2 rfl ?_
        refine TieO.eqS [.int .i64 r2.1.Low, .int .i64 r2.1.High] [.int .i64 r4.1.Low, .int .i64 r4.1.High] (eqv_30 r2.1.Low r2.1.High r4.1.Low r4.1.High) rfl rfl rfl rfl rfl rfl ?_
        refine TieO.run 1 rfl ?_
        refine TieO.selAnd (v := (r2.2 == 0)) 3 86 (fun b => ⟨[(9, .ptr 9 0), (10, .t (tI r3.2)), (14, .ptr 14 0), (15, .t (tI r4.2.1)), (89, .t (tB b))], [(9, .box [.t (tI r3.1.Torque), .t (tI r3.1.Source)]), (14, .box [.t (tI r4.1.Low), .t (tI r4.1.High)])]⟩) rfl ?_ ?_ ?_
        · refine TieO.run 3 rfl ?_
          refine TieO.nil ?_
          exact TieS.leaf ⟨rfl, .of rfl rfl⟩
        · refine TieO.run 3 rfl ?_
          refine TieO.nil ?_
          exact TieS.leaf ⟨rfl, .of rfl rfl⟩
        refine TieO.run 1 rfl ?_
        refine TieO.bind 7 (fun b3 => ⟨[(10, .t (tI r3.2)), (97, .t (tB b3))], []⟩) (TieO.split 90 rfl ?_ ?_) fun b3 _ => ?_
        · refine TieO.run 5 rfl ?_
          refine TieO.eqS [.int .i64 r3.1.Torque, .int .i64 r3.1.Source] [.int .i64 r4.1.Low, .int .i64 r4.2.1] (eqv_43 r3.1.Torque r3.1.Source r4.1.Low r4.2.1) rfl rfl rfl rfl rfl rfl ?_
          refine TieO.run 1 rfl ?_
          refine TieO.nil ?_
          exact TieS.leaf ⟨rfl, .of rfl rfl⟩
        · refine TieO.run 7 rfl ?_
          refine TieO.nil ?_
          exact TieS.leaf ⟨rfl, .of rfl rfl⟩
        refine TieO.run 1 rfl ?_
        refine TieO.selAnd (v := (r3.2 == 0)) 3 98 (fun b => ⟨[(101, .t (tB b))], []⟩) rfl ?_ ?_ ?_
        · refine TieO.run 3 rfl ?_
          refine TieO.nil ?_
          exact TieS.leaf ⟨rfl, .of rfl rfl⟩
        · refine TieO.run 3 rfl ?_
          refine TieO.nil ?_
          exact TieS.leaf ⟨rfl, .of rfl rfl⟩
        refine TieO.run 1 rfl ?_
        refine TieO.nil ?_
        exact TieS.ret ⟨.inl rfl, rfl⟩
    · obtain ⟨rfl, hs⟩ := hq
      exact TieX.ret ⟨.inl rfl, hs⟩
-- magneto/magnetolaw36.ArbiterExplains
set_option maxRecDepth 100000 in
theorem tie_magnetolaw36_ArbiterExplains (l : List SRequest) (low : Int) (high : Int) : TieF Try.prog 3 [.t (tS enc_SRequest l), .t (tI low), .t (tI high)] (magnetolaw36_ArbiterExplains l low high) (fun r => .t (tB r)) := by
  refine TieF.intro htab 80 [.tmp 6] Try.call3 Try.func3 rfl rfl rfl (Nat.le_of_ble_eq_true rfl) fun w0 L => ?_
  refine TieS.seq ?_
  refine TieS.region ?_
  refine TieO.run 1 rfl ?_
  refine TieO.nil ?_
  refine TieS.seq ?_
  refine TieS.seq ?_
  refine TieS.region ?_
  refine TieO.call _ rfl rfl rfl (tie_magnetolaw36_awake) (fun _ => rfl) fun v => ?_
  refine TieO.run 2 rfl ?_
  refine TieO.selOr (v := decide ((l.length : Int) > 100)) 4 18 (fun b => ⟨[(0, .t (tS enc_SRequest l)), (1, .t (tI low)), (2, .t (tI high)), (22, .t (tB b))], []⟩) rfl ?_ ?_ ?_
  · refine TieO.run 4 rfl ?_
    refine TieO.nil ?_
    exact TieS.leaf ⟨rfl, .of rfl rfl⟩
  · refine TieO.run 4 rfl ?_
    refine TieO.nil ?_
    exact TieS.leaf ⟨rfl, .of rfl rfl⟩
  refine TieO.nil ?_
  refine TieS.cond rfl ?_ ?_
  · refine TieS.seq ?_
    refine TieS.region ?_
    refine TieO.call _ rfl rfl rfl (tie_magnetolaw36_awake) (fun _ => rfl) fun v2 => ?_
    refine TieO.run 1 rfl ?_
    refine TieO.nil ?_
    exact TieS.ret ⟨.inl rfl, rfl⟩
  · refine TieS.skip ?_
    refine TieS.seq ?_
    refine TieS.region ?_
    refine TieO.run 3 rfl ?_
    refine TieO.call _ rfl rfl rfl (tie_arbiter_Explain l low high) (fun _ => rfl) fun r2 => ?_
    refine TieO.run 5 rfl ?_
    refine TieO.nil ?_
    refine TieS.seq ?_
    refine TieS.seq ?_
    refine TieS.region ?_
    refine TieO.run 3 rfl ?_
    refine TieO.call _ rfl rfl rfl (tie_magnetoref36_Check l low high) (fun _ => rfl) fun v3 => ?_
    refine TieO.run 1 rfl ?_
    refine TieO.nil ?_
    refine TieS.seq ?_
    refine TieS.region ?_
    refine TieO.run 2 rfl ?_
    refine TieO.nil ?_
    refine TieS.cond rfl ?_ ?_
    · refine TieS.seq ?_
      refine TieS.region ?_
      refine TieO.run 4 rfl ?_
      refine TieO.selAnd (v := (r2.2 == v3)) 4 40 (fun b => ⟨[(44, .t (tB b))], []⟩) rfl ?_ ?_ ?_
      · refine TieO.run 4 rfl ?_
        refine TieO.nil ?_
        exact TieS.leaf ⟨rfl, .of rfl rfl⟩
      · refine TieO.run 4 rfl ?_
        refine TieO.nil ?_
        exact TieS.leaf ⟨rfl, .of rfl rfl⟩
      refine TieO.run 1 rfl ?_
      refine TieO.nil ?_
      exact TieS.ret ⟨.inl rfl, rfl⟩
    · refine TieS.skip ?_
      refine TieS.seq ?_
      refine TieS.region ?_
      refine TieO.run 3 rfl ?_
      refine TieO.call _ rfl rfl rfl (tie_magnetoref36_Interval l low high) (fun _ => rfl) fun r3 => ?_
      refine TieO.run 8 rfl ?_
      refine TieO.nil ?_
      refine TieS.seq ?_
      refine TieS.region ?_
      refine TieO.run 1 rfl ?_
      refine TieO.nil ?_
      refine TieS.seq ?_
      refine TieS.seq ?_
      refine TieS.region ?_
      refine TieO.run 3 rfl ?_
      refine TieO.nil ?_
      refine TieS.block ?_
      refine TieX.nilP 13 2544 3 1 [] rfl rfl rfl rfl rfl ?_
      refine TieS.loop (fun p => ⟨[(7, .t (tS Pv.encI r2.1)), (8, .t (tI r2.2)), (12, .t (tS Pv.encB r3.2.2)), (13, .own 2544), (53, .t (tS enc_SRequest l)), (54, .t (tI (l.length : Int))), (55, .t (tI p.1))], [(2544, .rows 3 1 p.2.length (p.2.map Pv.encI))]⟩) (fun b e σ' => match b with | .inl t => e = .exit 0 ∧ Sub ⟨[(7, .t (tS Pv.encI r2.1)), (8, .t (tI r2.2)), (13, .own 2544)], [(2544, .rows 3 1 t.length (t.map Pv.encI))]⟩ σ' | .inr t => False) (.of rfl rfl) ?_ ?_
      · rintro ⟨i, want⟩
        refine TieS.seq ?_
        refine TieS.region ?_
        refine TieO.run 1 rfl ?_
        refine TieO.nil ?_
        refine TieS.seq ?_
        refine TieS.cond rfl ?_ ?_
        · refine TieS.skip ?_
          refine TieS.seq ?_
          refine TieX.sub (σ' := ⟨[(7, .t (tS Pv.encI r2.1)), (8, .t (tI r2.2)), (12, .t (tS Pv.encB r3.2.2)), (13, .own 2544), (53, .t (tS enc_SRequest l)), (54, .t (tI (l.length : Int))), (55, .t (tI i))], [(2544, .rows 3 1 want.length (want.map Pv.encI))]⟩) (.of rfl rfl) ?_
          refine TieS.bind (Q₁ := fun f e σ' => match f with | .next t => e = .normal ∧ Sub ⟨[(7, .t (tS Pv.encI r2.1)), (8, .t (tI r2.2)), (12, .t (tS Pv.encB r3.2.2)), (13, .own 2544), (53, .t (tS enc_SRequest l)), (54, .t (tI (l.length : Int))), (55, .t (tI i))], [(2544, .rows 3 1 t.length (t.map Pv.encI))]⟩ σ' | .brk t => e = .exit 0 ∧ Sub ⟨[(7, .t (tS Pv.encI r2.1)), (8, .t (tI r2.2)), (13, .own 2544)], [(2544, .rows 3 1 t.length (t.map Pv.encI))]⟩ σ' | .ret r => False) ?_ ?_
          · refine TieS.block ?_
            refine TieS.seq ?_
            refine TieS.region ?_
            refine TieO.run 1 rfl ?_
            refine TieO.index rfl rfl rfl rfl rfl rfl rfl rfl (fun _ => rfl) fun x hx => ?_
            refine TieO.run 4 rfl ?_
            refine TieO.nil ?_
            refine TieS.seq ?_
            refine TieS.region ?_
            refine TieO.run 2 rfl ?_
            refine TieO.index rfl rfl rfl rfl rfl rfl rfl rfl (fun _ => rfl) fun x2 hx2 => ?_
            refine TieO.run 1 rfl ?_
            refine TieO.nil ?_
            refine TieS.cond rfl ?_ ?_
            · refine TieS.region ?_
              refine TieO.run 4 rfl ?_
              refine TieO.appendY (id := 2544) (l := want) (r := ([x.Source] : List Int)) (tm' := [(7, .t (tS Pv.encI r2.1)), (8, .t (tI r2.2)), (12, .t (tS Pv.encB r3.2.2)), (14, .t (tI i)), (15, .ptr 15 0), (53, .t (tS enc_SRequest l)), (54, .t (tI (l.length : Int))), (55, .t (tI i)), (57, .t (tI i)), (58, .el (enc_SRequest x)), (59, .agg [.t (tI x.Source), .t (tI x.Kind), .t (tI x.Torque), .t (tI x.Priority)]), (60, .t (tS Pv.encB r3.2.2)), (61, .t (tI i)), (62, .el (Pv.encB x2)), (63, .t (tB x2)), (65, .ptr 15 0), (66, .t (tI x.Source)), (67, .own 67)]) (hp' := [(15, .box [.t (tI x.Source), .t (tI x.Kind), .t (tI x.Torque), .t (tI x.Priority)]), (67, .rows 3 1 ([x.Source] : List Int).length (([x.Source] : List Int).map Pv.encI))]) rfl rfl rfl rfl rfl rfl rfl (fun _ => rfl) (fun _ => rfl) (.inl ⟨rfl, rfl⟩) (.inr ⟨_, rfl, rfl⟩) (.of rfl rfl) rfl rfl rfl fun l2 => ?_
              refine TieO.run 1 rfl ?_
              refine TieO.nil ?_
              refine TieS.endb ?_
              exact TieS.leaf ⟨rfl, .of rfl rfl⟩
            · refine TieS.skip ?_
              refine TieS.endb ?_
              exact TieS.leaf ⟨rfl, .of rfl rfl⟩
          rintro (t | t | r) e σ' _ hq
          · obtain ⟨rfl, hs⟩ := hq
            refine TieX.sub hs ?_
            refine TieS.region ?_
            refine TieO.run 2 rfl ?_
            refine TieO.nil ?_
            exact TieS.leaf ⟨rfl, .of rfl rfl⟩
          · obtain ⟨rfl, hs⟩ := hq
            exact TieX.exitOut rfl ⟨(fun h => by cases h), rfl, hs⟩
          · exact hq.elim
        · exact TieS.exitOut rfl ⟨(fun h => by cases h), rfl, .of rfl rfl⟩
      rintro (want2 | r) e σ' _ hq
      · obtain ⟨rfl, hs⟩ := hq
        refine TieX.exit rfl (TieX.sub hs ?_)
        refine TieS.seq ?_
        refine TieS.region ?_
        refine TieO.run 1 rfl ?_
        refine TieO.callG [(1000000, 2544)] [] (fun v4 => ⟨[(7, .t (tS Pv.encI r2.1)), (8, .t (tI r2.2)), (13, .own 2544), (70, .own 2544), (71, .tup [])], [(2544, .rows 3 1 v4.length (v4.map Pv.encI))]⟩) (tie_slices_Sort_sint want2) rfl rfl rfl rfl rfl rfl rfl (fun _ => rfl) (fun _ => rfl) (fun _ => rfl) (fun _ => .of rfl rfl) fun v4 hv4 => ?_
        refine TieO.nil ?_
        refine TieS.seq ?_
        refine TieS.region ?_
        refine TieO.run 2 rfl ?_
        refine TieO.callG [(1000000, 2544)] [(900000, 2592)] (fun v5 => ⟨[(7, .t (tS Pv.encI r2.1)), (8, .t (tI r2.2)), (71, .tup []), (72, .t (tS Pv.encI r2.1)), (74, .own 2592)], [(2592, .rows 3 1 v5.length (v5.map Pv.encI))]⟩) (tie_slices_Compact_sint v4) rfl rfl rfl rfl rfl rfl rfl (fun _ => rfl) (fun _ => rfl) (fun _ => rfl) (fun _ => .of rfl rfl) fun v5 hv5 => ?_
        refine TieO.callS _ rfl rfl rfl (tie_slices_Equal_sint r2.1 v5) (fun _ => rfl) (fun _ => rfl) fun v6 => ?_
        refine TieO.run 1 rfl ?_
        refine TieO.selAnd (v := (r2.2 == 0)) 3 76 (fun b => ⟨[(79, .t (tB b))], []⟩) rfl ?_ ?_ ?_
        · refine TieO.run 3 rfl ?_
          refine TieO.nil ?_
          exact TieS.leaf ⟨rfl, .of rfl rfl⟩
        · refine TieO.run 3 rfl ?_
          refine TieO.nil ?_
          exact TieS.leaf ⟨rfl, .of rfl rfl⟩
        refine TieO.run 1 rfl ?_
        refine TieO.nil ?_
        exact TieS.ret ⟨.inl rfl, rfl⟩
      · exact hq.elim
-- magneto/arbiter.Step
set_option maxRecDepth 100000 in
theorem tie_arbiter_Step (g : SGrant) (l : List SRequest) (low : Int) (high : Int) (up : Int) (down : Int) : TieF Try.prog 22 [A_SGrant g, .t (tS enc_SRequest l), .t (tI low), .t (tI high), .t (tI up), .t (tI down)] (arbiter_Step g l low high up down) (fun r => .tup [A_SGrant r.1, .t (tI r.2)]) := by
  refine TieF.intro htab 84 [.cell 12 43, .tmp 13] Try.call22 Try.func22 rfl rfl rfl (Nat.le_of_ble_eq_true rfl) fun w0 L => ?_
  refine TieS.seq ?_
  refine TieS.region ?_
  refine TieO.run 3 rfl ?_
  refine TieO.nil ?_
  refine TieS.seq ?_
  refine TieS.seq ?_
  refine TieS.region ?_
  refine TieO.run 2 rfl ?_
  refine TieO.call _ rfl rfl rfl (tie_arbiter_torque g.Torque) (fun _ => rfl) fun v => ?_
  refine TieO.run 2 rfl ?_
  refine TieO.selOr (v := decide (g.Source < (-1))) 4 22 (fun b => ⟨[(1, .t (tS enc_SRequest l)), (2, .t (tI low)), (3, .t (tI high)), (4, .t (tI up)), (5, .t (tI down)), (6, .ptr 6 0), (12, .ptr 12 0), (26, .t (tB b))], [(6, .box [.t (tI g.Torque), .t (tI g.Source)]), (12, .box [.t (tI 0), .t (tI 0)])]⟩) rfl ?_ ?_ ?_
  · refine TieO.run 4 rfl ?_
    refine TieO.nil ?_
    exact TieS.leaf ⟨rfl, .of rfl rfl⟩
  · refine TieO.run 4 rfl ?_
    refine TieO.nil ?_
    exact TieS.leaf ⟨rfl, .of rfl rfl⟩
  refine TieO.run 1 rfl ?_
  refine TieO.selOr (v := decide (g.Source > 15)) 4 27 (fun b => ⟨[(1, .t (tS enc_SRequest l)), (2, .t (tI low)), (3, .t (tI high)), (4, .t (tI up)), (5, .t (tI down)), (6, .ptr 6 0), (12, .ptr 12 0), (31, .t (tB b))], [(6, .box [.t (tI g.Torque), .t (tI g.Source)]), (12, .box [.t (tI 0), .t (tI 0)])]⟩) rfl ?_ ?_ ?_
  · refine TieO.run 4 rfl ?_
    refine TieO.nil ?_
    exact TieS.leaf ⟨rfl, .of rfl rfl⟩
  · refine TieO.run 4 rfl ?_
    refine TieO.nil ?_
    exact TieS.leaf ⟨rfl, .of rfl rfl⟩
  refine TieO.nil ?_
  refine TieS.cond rfl ?_ ?_
  · refine TieS.seq ?_
    refine TieS.region ?_
    refine TieO.run 3 rfl ?_
    refine TieO.nil ?_
    exact TieS.ret ⟨.inl rfl, rfl⟩
  · refine TieS.skip ?_
    refine TieS.seq ?_
    refine TieS.seq ?_
    refine TieS.region ?_
    refine TieO.run 3 rfl ?_
    refine TieO.call _ rfl rfl rfl (tie_arbiter_given l low high) (fun _ => rfl) fun v2 => ?_
    refine TieO.run 1 rfl ?_
    refine TieO.nil ?_
    refine TieS.seq ?_
    refine TieS.region ?_
    refine TieO.run 2 rfl ?_
    refine TieO.nil ?_
    refine TieS.cond rfl ?_ ?_
    · refine TieS.seq ?_
      refine TieS.region ?_
      refine TieO.run 4 rfl ?_
      refine TieO.nil ?_
      exact TieS.ret ⟨.inl rfl, rfl⟩
    · refine TieS.skip ?_
      refine TieS.seq ?_
      refine TieS.seq ?_
      refine TieS.region ?_
      refine TieO.run 3 rfl ?_
      refine TieO.selOr (v := decide (up > 20000)) 3 43 (fun b => ⟨[(1, .t (tS enc_SRequest l)), (2, .t (tI low)), (3, .t (tI high)), (4, .t (tI up)), (5, .t (tI down)), (6, .ptr 6 0), (12, .ptr 12 0), (46, .t (tB b))], [(6, .box [.t (tI g.Torque), .t (tI g.Source)]), (12, .box [.t (tI 0), .t (tI 0)])]⟩) rfl ?_ ?_ ?_
      · refine TieO.run 3 rfl ?_
        refine TieO.nil ?_
        exact TieS.leaf ⟨rfl, .of rfl rfl⟩
      · refine TieO.run 3 rfl ?_
        refine TieO.nil ?_
        exact TieS.leaf ⟨rfl, .of rfl rfl⟩
      refine TieO.run 1 rfl ?_
      refine TieO.selOr (v := decide (down < 0)) 3 47 (fun b => ⟨[(1, .t (tS enc_SRequest l)), (2, .t (tI low)), (3, .t (tI high)), (4, .t (tI up)), (5, .t (tI down)), (6, .ptr 6 0), (12, .ptr 12 0), (50, .t (tB b))], [(6, .box [.t (tI g.Torque), .t (tI g.Source)]), (12, .box [.t (tI 0), .t (tI 0)])]⟩) rfl ?_ ?_ ?_
      · refine TieO.run 3 rfl ?_
        refine TieO.nil ?_
        exact TieS.leaf ⟨rfl, .of rfl rfl⟩
      · refine TieO.run 3 rfl ?_
        refine TieO.nil ?_
        exact TieS.leaf ⟨rfl, .of rfl rfl⟩
      refine TieO.run 1 rfl ?_
      refine TieO.selOr (v := decide (down > 20000)) 3 51 (fun b => ⟨[(1, .t (tS enc_SRequest l)), (2, .t (tI low)), (3, .t (tI high)), (4, .t (tI up)), (5, .t (tI down)), (6, .ptr 6 0), (12, .ptr 12 0), (54, .t (tB b))], [(6, .box [.t (tI g.Torque), .t (tI g.Source)]), (12, .box [.t (tI 0), .t (tI 0)])]⟩) rfl ?_ ?_ ?_
      · refine TieO.run 3 rfl ?_
        refine TieO.nil ?_
        exact TieS.leaf ⟨rfl, .of rfl rfl⟩
      · refine TieO.run 3 rfl ?_
        refine TieO.nil ?_
        exact TieS.leaf ⟨rfl, .of rfl rfl⟩
      refine TieO.nil ?_
      refine TieS.cond rfl ?_ ?_
      · refine TieS.seq ?_
        refine TieS.region ?_
        refine TieO.run 3 rfl ?_
        refine TieO.nil ?_
        exact TieS.ret ⟨.inl rfl, rfl⟩
      · refine TieS.skip ?_
        refine TieS.seq ?_
        refine TieS.region ?_
        refine TieO.run 3 rfl ?_
        refine TieO.call _ rfl rfl rfl (tie_arbiter_decide l low high) (fun _ => rfl) fun r2 => ?_
        refine TieO.run 6 rfl ?_
        refine TieO.nil ?_
        refine TieS.seq ?_
        refine TieS.region ?_
        refine TieO.run 13 rfl ?_
        refine TieO.nil ?_
        refine TieS.seq ?_
        refine TieS.region ?_
        refine TieO.run 11 rfl ?_
        refine TieO.nil ?_
        exact TieS.ret ⟨.inl rfl, rfl⟩
end Go.Proofs.Ytoiamgpgodcioaa

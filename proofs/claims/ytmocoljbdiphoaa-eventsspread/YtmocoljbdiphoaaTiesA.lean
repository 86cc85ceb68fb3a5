/- Ties, printed by gen.py: each function of the loaded program computes its model. -/
import Derived.Test.YtmocoljbdiphoaaModel
import Derived.Test.YtmocoljbdiphoaaPvXf
import Derived.Test.YtmocoljbdiphoaaProg
import Derived.KernelRfl
namespace Go.Proofs.Ytmocoljbdiphoaa
open Go Go.Pv Go.Proofs
theorem mixed : Try.prog.follows .mixedOrders = true := by kernel_rfl
def tab : Tab := [(3, ⟨1, .int .i64, [.int .i64 0]⟩),
  (4, ⟨1, .bool, [.bool false]⟩),
  (22, ⟨1, .slice 3, [.slice none 0 0]⟩),
  (24, ⟨2, .struct [(0, 1), (1, 1)], [.slice none 0 0, .int .i64 0]⟩),
  (26, ⟨7, .struct [(0, 1), (1, 1), (2, 1), (3, 1), (4, 1), (5, 1), (6, 1)], [.int .i64 0, .int .i64 0, .int .i64 0, .int .i64 0, .int .i64 0, .int .i64 0, .int .i64 0]⟩),
  (31, ⟨1, .int .i64, [.int .i64 0]⟩),
  (36, ⟨1, .slice 26, [.slice none 0 0]⟩),
  (37, ⟨1, .slice 44, [.slice none 0 0]⟩),
  (44, ⟨4, .struct [(0, 1), (1, 1), (2, 1), (3, 1)], [.int .i64 0, .int .i64 0, .int .i64 0, .int .i64 0]⟩),
  (82, ⟨1, .int .u64, [.int .u64 0]⟩)]
theorem ti3 : TIok Try.prog 3 ⟨1, .int .i64, [.int .i64 0]⟩ := ⟨Try.t3, _, by kernel_rfl, rfl, Try.underlying3, rfl, ⟨_, rfl, rfl⟩, Nat.le_of_ble_eq_true rfl⟩
theorem ti4 : TIok Try.prog 4 ⟨1, .bool, [.bool false]⟩ := ⟨Try.t4, _, by kernel_rfl, rfl, Try.underlying4, rfl, ⟨_, rfl, rfl⟩, Nat.le_of_ble_eq_true rfl⟩
theorem ti22 : TIok Try.prog 22 ⟨1, .slice 3, [.slice none 0 0]⟩ := ⟨Try.t22, _, by kernel_rfl, rfl, Try.underlying22, rfl, ⟨_, rfl, rfl⟩, Nat.le_of_ble_eq_true rfl⟩
theorem ti24 : TIok Try.prog 24 ⟨2, .struct [(0, 1), (1, 1)], [.slice none 0 0, .int .i64 0]⟩ := by
  refine ⟨Try.t24, _, by kernel_rfl, rfl, Try.underlying24, ⟨_, rfl, rfl, fun f o n h => ?_⟩, ⟨_, rfl, rfl⟩, Nat.le_of_ble_eq_true rfl⟩
  match f, h with
  | 0, h => cases h; exact ⟨_, Try.t22, rfl, rfl, by kernel_rfl, rfl⟩
  | 1, h => cases h; exact ⟨_, Try.t3, rfl, rfl, by kernel_rfl, rfl⟩
  | _ + 2, h => simp at h
theorem ti26 : TIok Try.prog 26 ⟨7, .struct [(0, 1), (1, 1), (2, 1), (3, 1), (4, 1), (5, 1), (6, 1)], [.int .i64 0, .int .i64 0, .int .i64 0, .int .i64 0, .int .i64 0, .int .i64 0, .int .i64 0]⟩ := by
  refine ⟨Try.t26, _, by kernel_rfl, rfl, Try.underlying26, ⟨_, rfl, rfl, fun f o n h => ?_⟩, ⟨_, rfl, rfl⟩, Nat.le_of_ble_eq_true rfl⟩
  match f, h with
  | 0, h => cases h; exact ⟨_, Try.t3, rfl, rfl, by kernel_rfl, rfl⟩
  | 1, h => cases h; exact ⟨_, Try.t3, rfl, rfl, by kernel_rfl, rfl⟩
  | 2, h => cases h; exact ⟨_, Try.t3, rfl, rfl, by kernel_rfl, rfl⟩
  | 3, h => cases h; exact ⟨_, Try.t3, rfl, rfl, by kernel_rfl, rfl⟩
  | 4, h => cases h; exact ⟨_, Try.t3, rfl, rfl, by kernel_rfl, rfl⟩
  | 5, h => cases h; exact ⟨_, Try.t3, rfl, rfl, by kernel_rfl, rfl⟩
  | 6, h => cases h; exact ⟨_, Try.t3, rfl, rfl, by kernel_rfl, rfl⟩
  | _ + 7, h => simp at h
theorem ti31 : TIok Try.prog 31 ⟨1, .int .i64, [.int .i64 0]⟩ := ⟨Try.t31, _, by kernel_rfl, rfl, Try.underlying31, rfl, ⟨_, rfl, rfl⟩, Nat.le_of_ble_eq_true rfl⟩
theorem ti36 : TIok Try.prog 36 ⟨1, .slice 26, [.slice none 0 0]⟩ := ⟨Try.t36, _, by kernel_rfl, rfl, Try.underlying36, rfl, ⟨_, rfl, rfl⟩, Nat.le_of_ble_eq_true rfl⟩
theorem ti37 : TIok Try.prog 37 ⟨1, .slice 44, [.slice none 0 0]⟩ := ⟨Try.t37, _, by kernel_rfl, rfl, Try.underlying37, rfl, ⟨_, rfl, rfl⟩, Nat.le_of_ble_eq_true rfl⟩
theorem ti44 : TIok Try.prog 44 ⟨4, .struct [(0, 1), (1, 1), (2, 1), (3, 1)], [.int .i64 0, .int .i64 0, .int .i64 0, .int .i64 0]⟩ := by
  refine ⟨Try.t44, _, by kernel_rfl, rfl, Try.underlying44, ⟨_, rfl, rfl, fun f o n h => ?_⟩, ⟨_, rfl, rfl⟩, Nat.le_of_ble_eq_true rfl⟩
  match f, h with
  | 0, h => cases h; exact ⟨_, Try.t3, rfl, rfl, by kernel_rfl, rfl⟩
  | 1, h => cases h; exact ⟨_, Try.t3, rfl, rfl, by kernel_rfl, rfl⟩
  | 2, h => cases h; exact ⟨_, Try.t3, rfl, rfl, by kernel_rfl, rfl⟩
  | 3, h => cases h; exact ⟨_, Try.t3, rfl, rfl, by kernel_rfl, rfl⟩
  | _ + 4, h => simp at h
theorem ti82 : TIok Try.prog 82 ⟨1, .int .u64, [.int .u64 0]⟩ := ⟨Try.t82, _, by kernel_rfl, rfl, Try.underlying82, rfl, ⟨_, rfl, rfl⟩, Nat.le_of_ble_eq_true rfl⟩
theorem htab : TabOk Try.prog tab := by
  intro t ti h
  unfold tab at h
  refine tab_step h ti3 fun h => ?_
  refine tab_step h ti4 fun h => ?_
  refine tab_step h ti22 fun h => ?_
  refine tab_step h ti24 fun h => ?_
  refine tab_step h ti26 fun h => ?_
  refine tab_step h ti31 fun h => ?_
  refine tab_step h ti36 fun h => ?_
  refine tab_step h ti37 fun h => ?_
  refine tab_step h ti44 fun h => ?_
  refine tab_step h ti82 fun h => ?_
  cases h
theorem eqi_44 (d : Nat) (w : World) (a0 : Int) (a1 : Int) (a2 : Int) (a3 : Int) (b0 : Int) (b1 : Int) (b2 : Int) (b3 : Int) : (Op.equalIn (d + 2) 44 (.agg #[.int .i64 a0, .int .i64 a1, .int .i64 a2, .int .i64 a3]) (.agg #[.int .i64 b0, .int .i64 b1, .int .i64 b2, .int .i64 b3])).run Try.prog w = .ok ((a0 == b0) && ((a1 == b1) && ((a2 == b2) && ((a3 == b3) && true)))) w :=
  eq_struct (d := d + 1) (fs := [⟨ "Angle", 3, 0, false, "", "", 0⟩, ⟨ "Kind", 3, 1, false, "", "", 8⟩, ⟨ "Cylinder", 3, 2, false, "", "", 16⟩, ⟨ "Pulse", 3, 3, false, "", "", 24⟩]) (by kernel_rfl) (by kernel_rfl) (by kernel_rfl) (eqf_cons (by decide) (part_one ti3 rfl rfl) (part_one ti3 rfl rfl) (run_equalIn_int w _ 3 _ _ _ _ Try.underlying3) (eqf_cons (by decide) (part_one ti3 rfl rfl) (part_one ti3 rfl rfl) (run_equalIn_int w _ 3 _ _ _ _ Try.underlying3) (eqf_cons (by decide) (part_one ti3 rfl rfl) (part_one ti3 rfl rfl) (run_equalIn_int w _ 3 _ _ _ _ Try.underlying3) (eqf_cons (by decide) (part_one ti3 rfl rfl) (part_one ti3 rfl rfl) (run_equalIn_int w _ 3 _ _ _ _ Try.underlying3) (eqf_nil)))))
theorem eqv_44 (a0 : Int) (a1 : Int) (a2 : Int) (a3 : Int) (b0 : Int) (b1 : Int) (b2 : Int) (b3 : Int) : EqOk Try.prog 44 [.int .i64 a0, .int .i64 a1, .int .i64 a2, .int .i64 a3] [.int .i64 b0, .int .i64 b1, .int .i64 b2, .int .i64 b3] ((a0 == b0) && ((a1 == b1) && ((a2 == b2) && ((a3 == b3) && true)))) := ⟨fun w => eqi_44 9998 w a0 a1 a2 a3 b0 b1 b2 b3, by kernel_rfl⟩
-- magneto/events.angle
set_option maxRecDepth 100000 in
theorem tie_events_angle (a : Int) : TieF Try.prog 38 [.t (tI a)] (events_angle a) (fun r => .t (tB r)) := by
  refine TieF.intro htab 9 [.tmp 2] Try.call38 Try.func38 rfl rfl rfl (Nat.le_of_ble_eq_true rfl) fun w0 L => ?_
  refine TieS.seq ?_
  refine TieS.region ?_
  refine TieO.run 1 rfl ?_
  refine TieO.nil ?_
  refine TieS.seq ?_
  refine TieS.region ?_
  refine TieO.run 3 rfl ?_
  refine TieO.selAnd (v := decide (a < 46080)) 3 5 (fun b => ⟨[(8, .t (tB b))], []⟩) rfl ?_ ?_ ?_
  · refine TieO.run 3 rfl ?_
    refine TieO.nil ?_
    exact TieS.leaf ⟨rfl, .of rfl rfl⟩
  · refine TieO.run 3 rfl ?_
    refine TieO.nil ?_
    exact TieS.leaf ⟨rfl, .of rfl rfl⟩
  refine TieO.run 1 rfl ?_
  refine TieO.nil ?_
  exact TieS.ret ⟨.inl rfl, rfl⟩
-- slices.Index[[]int,int]
set_option maxRecDepth 100000 in
theorem tie_slices_Index_sint (s : List Int) (v : Int) : TieF Try.prog 64 [.t (tS Pv.encI s), .t (tI v)] (slices_Index_sint s v) (fun r => .t (tI r)) := by
  refine TieF.intro htab 19 [.tmp 4] Try.call64 Try.func64 rfl rfl rfl (Nat.le_of_ble_eq_true rfl) fun w0 L => ?_
  refine TieS.seq ?_
  refine TieS.region ?_
  refine TieO.run 1 rfl ?_
  refine TieO.nil ?_
  refine TieS.seq ?_
  refine TieS.seq ?_
  refine TieS.region ?_
  refine TieO.run 3 rfl ?_
  refine TieO.nil ?_
  refine TieS.block ?_
  refine TieS.loop (fun p => ⟨[(0, .t (tS Pv.encI s)), (1, .t (tI v)), (7, .t (tI (s.length : Int))), (8, .t (tI p.1))], []⟩) (fun b e σ' => match b with | .inl t => e = .exit 0 ∧ Sub ⟨[], []⟩ σ' | .inr t => e = .ret ∧ retT tab σ' [.tmp 4] = some (((fun r => .t (tI r)) : Int → T) t)) (.of rfl rfl) ?_ ?_
  · rintro ⟨i, s2⟩
    refine TieS.seq ?_
    refine TieS.region ?_
    refine TieO.run 1 rfl ?_
    refine TieO.nil ?_
    refine TieS.seq ?_
    refine TieS.cond rfl ?_ ?_
    · refine TieS.skip ?_
      refine TieS.seq ?_
      refine TieX.sub (σ' := ⟨[(0, .t (tS Pv.encI s)), (1, .t (tI v)), (7, .t (tI (s.length : Int))), (8, .t (tI i))], []⟩) (.of rfl rfl) ?_
      refine TieS.bind (Q₁ := fun f e σ' => match f with | .next t => e = .normal ∧ Sub ⟨[(0, .t (tS Pv.encI s)), (1, .t (tI v)), (7, .t (tI (s.length : Int))), (8, .t (tI i))], []⟩ σ' | .brk t => e = .exit 0 ∧ Sub ⟨[], []⟩ σ' | .ret t => e = .ret ∧ retT tab σ' [.tmp 4] = some (((fun r => .t (tI r)) : Int → T) t)) ?_ ?_
      · refine TieS.block ?_
        refine TieS.seq ?_
        refine TieS.region ?_
        refine TieO.run 2 rfl ?_
        refine TieO.nil ?_
        refine TieS.seq ?_
        refine TieS.region ?_
        refine TieO.run 3 rfl ?_
        refine TieO.index rfl rfl rfl rfl rfl rfl rfl rfl (fun _ => rfl) fun x hx => ?_
        refine TieO.run 2 rfl ?_
        refine TieO.nil ?_
        refine TieS.cond rfl ?_ ?_
        · refine TieS.seq ?_
          refine TieS.region ?_
          refine TieO.run 2 rfl ?_
          refine TieO.nil ?_
          exact TieS.ret ⟨rfl, rfl⟩
        · refine TieS.skip ?_
          refine TieS.endb ?_
          exact TieS.leaf ⟨rfl, .of rfl rfl⟩
      rintro (t | t | t) e σ' _ hq
      · obtain ⟨rfl, hs⟩ := hq
        refine TieX.sub hs ?_
        refine TieS.region ?_
        refine TieO.run 2 rfl ?_
        refine TieO.nil ?_
        exact TieS.leaf ⟨rfl, .of rfl rfl⟩
      · obtain ⟨rfl, hs⟩ := hq
        exact TieX.exitOut rfl ⟨(fun h => by cases h), rfl, hs⟩
      · obtain ⟨rfl, hs⟩ := hq
        exact TieX.ret ⟨(fun h => by cases h), rfl, hs⟩
    · exact TieS.exitOut rfl ⟨(fun h => by cases h), rfl, .of rfl rfl⟩
  rintro (s3 | r2) e σ' _ hq
  · obtain ⟨rfl, hs⟩ := hq
    refine TieX.exit rfl (TieX.sub hs ?_)
    refine TieS.seq ?_
    refine TieS.region ?_
    refine TieO.run 1 rfl ?_
    refine TieO.nil ?_
    exact TieS.ret ⟨.inl rfl, rfl⟩
  · obtain ⟨rfl, hs⟩ := hq
    exact TieX.ret ⟨.inl rfl, hs⟩
-- slices.Contains[[]int,int]
set_option maxRecDepth 100000 in
theorem tie_slices_Contains_sint (s : List Int) (v : Int) : TieF Try.prog 39 [.t (tS Pv.encI s), .t (tI v)] (slices_Contains_sint s v) (fun r => .t (tB r)) := by
  refine TieF.intro htab 9 [.tmp 4] Try.call39 Try.func39 rfl rfl rfl (Nat.le_of_ble_eq_true rfl) fun w0 L => ?_
  refine TieS.seq ?_
  refine TieS.region ?_
  refine TieO.run 1 rfl ?_
  refine TieO.nil ?_
  refine TieS.seq ?_
  refine TieS.region ?_
  refine TieO.run 2 rfl ?_
  refine TieO.call _ rfl rfl rfl (tie_slices_Index_sint s v) (fun _ => rfl) fun v2 => ?_
  refine TieO.run 2 rfl ?_
  refine TieO.nil ?_
  exact TieS.ret ⟨.inl rfl, rfl⟩
-- magneto/events.Valid
set_option maxRecDepth 100000 in
theorem tie_events_Valid (e2 : SEngine) : TieF Try.prog 13 [A_SEngine e2] (events_Valid e2) (fun r => .t (tB r)) := by
  refine TieF.intro htab 30 [.tmp 2] Try.call13 Try.func13 rfl rfl rfl (Nat.le_of_ble_eq_true rfl) fun w0 L => ?_
  refine TieS.seq ?_
  refine TieS.region ?_
  refine TieO.run 2 rfl ?_
  refine TieO.nil ?_
  refine TieS.seq ?_
  refine TieS.region ?_
  refine TieO.run 4 rfl ?_
  refine TieO.nil ?_
  refine TieS.seq ?_
  refine TieS.seq ?_
  refine TieS.region ?_
  refine TieO.run 3 rfl ?_
  refine TieO.selOr (v := decide ((e2.Order.length : Int) > 8)) 3 10 (fun b => ⟨[(1, .ptr 1 0), (3, .t (tI (e2.Order.length : Int))), (13, .t (tB b))], [(1, .box [.t (tS Pv.encI e2.Order), .t (tI e2.First)])]⟩) rfl ?_ ?_ ?_
  · refine TieO.run 3 rfl ?_
    refine TieO.nil ?_
    exact TieS.leaf ⟨rfl, .of rfl rfl⟩
  · refine TieO.run 3 rfl ?_
    refine TieO.nil ?_
    exact TieS.leaf ⟨rfl, .of rfl rfl⟩
  refine TieO.run 1 rfl ?_
  refine TieO.bind 5 (fun b2 => ⟨[(1, .ptr 1 0), (3, .t (tI (e2.Order.length : Int))), (19, .t (tB b2))], [(1, .box [.t (tS Pv.encI e2.Order), .t (tI e2.First)])]⟩) (TieO.split 14 rfl ?_ ?_) fun b2 _ => ?_
  · refine TieO.run 5 rfl ?_
    refine TieO.nil ?_
    exact TieS.leaf ⟨rfl, .of rfl rfl⟩
  · refine TieO.run 2 rfl ?_
    refine TieO.call _ rfl rfl rfl (tie_events_angle e2.First) (fun _ => rfl) fun v => ?_
    refine TieO.run 2 rfl ?_
    refine TieO.nil ?_
    exact TieS.leaf ⟨rfl, .of rfl rfl⟩
  refine TieO.nil ?_
  refine TieS.cond rfl ?_ ?_
  · refine TieS.seq ?_
    refine TieS.region ?_
    refine TieO.run 1 rfl ?_
    refine TieO.nil ?_
    exact TieS.ret ⟨.inl rfl, rfl⟩
  · refine TieS.skip ?_
    refine TieS.seq ?_
    refine TieS.seq ?_
    refine TieS.region ?_
    refine TieO.run 1 rfl ?_
    refine TieO.nil ?_
    refine TieS.block ?_
    refine TieS.loop (fun t => ⟨[(1, .ptr 1 0), (3, .t (tI (e2.Order.length : Int))), (4, .t (tI t))], [(1, .box [.t (tS Pv.encI e2.Order), .t (tI e2.First)])]⟩) (fun b e σ' => match b with | .inl t => e = .exit 0 ∧ Sub ⟨[], []⟩ σ' | .inr t => e = .ret ∧ retT tab σ' [.tmp 2] = some (((fun r => .t (tB r)) : Bool → T) t)) (.of rfl rfl) ?_ ?_
    · intro i
      refine TieS.seq ?_
      refine TieS.seq ?_
      refine TieS.region ?_
      refine TieO.run 3 rfl ?_
      refine TieO.nil ?_
      refine TieS.cond rfl ?_ ?_
      · refine TieS.skip ?_
        refine TieS.seq ?_
        refine TieS.block ?_
        refine TieS.seq ?_
        refine TieS.region ?_
        refine TieO.run 3 rfl ?_
        refine TieO.call _ rfl rfl rfl (tie_slices_Contains_sint e2.Order i) (fun _ => rfl) fun v2 => ?_
        refine TieO.run 1 rfl ?_
        refine TieO.nil ?_
        refine TieS.cond rfl ?_ ?_
        · refine TieS.seq ?_
          refine TieS.region ?_
          refine TieO.run 1 rfl ?_
          refine TieO.nil ?_
          exact TieS.ret ⟨(fun h => by cases h), rfl, rfl⟩
        · refine TieS.skip ?_
          refine TieS.endb ?_
          refine TieS.region ?_
          refine TieO.run 3 rfl ?_
          refine TieO.nil ?_
          exact TieS.leaf ⟨rfl, .of rfl rfl⟩
      · exact TieS.exitOut rfl ⟨(fun h => by cases h), rfl, .of rfl rfl⟩
    rintro (i2 | r2) e σ' _ hq
    · obtain ⟨rfl, hs⟩ := hq
      refine TieX.exit rfl (TieX.sub hs ?_)
      refine TieS.seq ?_
      refine TieS.region ?_
      refine TieO.run 1 rfl ?_
      refine TieO.nil ?_
      exact TieS.ret ⟨.inl rfl, rfl⟩
    · obtain ⟨rfl, hs⟩ := hq
      exact TieX.ret ⟨.inl rfl, hs⟩
-- magneto/events.center
set_option maxRecDepth 100000 in
theorem tie_events_center (e2 : SEngine) (cylinder : Int) : TieF Try.prog 42 [A_SEngine e2, .t (tI cylinder)] (events_center e2 cylinder) (fun r => .tup [.t (tI r.1), .t (tB r.2)]) := by
  refine TieF.intro htab 24 [.tmp 4, .tmp 5] Try.call42 Try.func42 rfl rfl rfl (Nat.le_of_ble_eq_true rfl) fun w0 L => ?_
  refine TieS.seq ?_
  refine TieS.region ?_
  refine TieO.run 3 rfl ?_
  refine TieO.nil ?_
  refine TieS.seq ?_
  refine TieS.region ?_
  refine TieO.run 3 rfl ?_
  refine TieO.call _ rfl rfl rfl (tie_slices_Index_sint e2.Order cylinder) (fun _ => rfl) fun v => ?_
  refine TieO.run 1 rfl ?_
  refine TieO.nil ?_
  refine TieS.seq ?_
  refine TieX.pre fun q hq => ?_
  refine TieS.draw 15 [.ptr 2 1, .t (tI e2.First), .t (tI v), .t (tI (maxI v 0)), .t (tI (w64 ((maxI v 0) * 46080))), .ptr 2 0, .t (tS Pv.encI e2.Order), .t (tI (e2.Order.length : Int)), .t (tI q), .t (tI (w64 (e2.First + q))), .t (tI (Int.tmod (w64 (e2.First + q)) 46080)), .t (tI v), .t (tB (decide (v ≥ 0))), .t (tI (Int.tmod (w64 (e2.First + q)) 46080)), .t (tB (decide (v ≥ 0)))] [(2, .ptr 2 0), (6, .t (tI v))] [(2, .box [.t (tS Pv.encI e2.Order), .t (tI e2.First)])] mixed (.of rfl rfl) rfl rfl rfl rfl (.cons (.quiet rfl rfl rfl) (.cons (.quiet rfl rfl rfl) (.cons (.quiet rfl rfl rfl) (.cons (.quiet rfl rfl rfl) (.cons (.quiet rfl rfl rfl) (.cons (.quiet rfl rfl rfl) (.cons (.quiet rfl rfl rfl) (.cons (.quiet rfl rfl rfl) (.cons (.quo hq rfl rfl rfl rfl) (.cons (.quiet rfl rfl rfl) (.cons (.quiet rfl rfl rfl) (.cons (.quiet rfl rfl rfl) (.cons (.quiet rfl rfl rfl) (.cons (.quiet rfl rfl rfl) (.cons (.quiet rfl rfl rfl) (.nil)))))))))))))))) ?_
  refine TieO.nil ?_
  exact TieS.ret ⟨.inl rfl, rfl⟩
-- magneto/events.Center
set_option maxRecDepth 100000 in
theorem tie_events_Center (e2 : SEngine) (cylinder : Int) : TieF Try.prog 18 [A_SEngine e2, .t (tI cylinder)] (events_Center e2 cylinder) (fun r => .tup [.t (tI r.1), .t (tI r.2)]) := by
  refine TieF.intro htab 20 [.tmp 4, .tmp 5] Try.call18 Try.func18 rfl rfl rfl (Nat.le_of_ble_eq_true rfl) fun w0 L => ?_
  refine TieS.seq ?_
  refine TieS.region ?_
  refine TieO.run 3 rfl ?_
  refine TieO.nil ?_
  refine TieS.seq ?_
  refine TieS.seq ?_
  refine TieS.region ?_
  refine TieO.run 1 rfl ?_
  refine TieO.call _ rfl rfl rfl (tie_events_Valid e2) (fun _ => rfl) fun v => ?_
  refine TieO.run 1 rfl ?_
  refine TieO.nil ?_
  refine TieS.cond rfl ?_ ?_
  · refine TieS.seq ?_
    refine TieS.region ?_
    refine TieO.run 2 rfl ?_
    refine TieO.nil ?_
    exact TieS.ret ⟨.inl rfl, rfl⟩
  · refine TieS.skip ?_
    refine TieS.seq ?_
    refine TieS.region ?_
    refine TieO.run 2 rfl ?_
    refine TieO.call _ rfl rfl rfl (tie_events_center e2 cylinder) (fun _ => rfl) fun r2 => ?_
    refine TieO.run 5 rfl ?_
    refine TieO.nil ?_
    refine TieS.seq ?_
    refine TieS.seq ?_
    refine TieS.region ?_
    refine TieO.run 2 rfl ?_
    refine TieO.nil ?_
    refine TieS.cond rfl ?_ ?_
    · refine TieS.seq ?_
      refine TieS.region ?_
      refine TieO.run 2 rfl ?_
      refine TieO.nil ?_
      exact TieS.ret ⟨.inl rfl, rfl⟩
    · refine TieS.skip ?_
      refine TieS.seq ?_
      refine TieS.region ?_
      refine TieO.run 3 rfl ?_
      refine TieO.nil ?_
      exact TieS.ret ⟨.inl rfl, rfl⟩
-- magneto/events.Pulses
set_option maxRecDepth 100000 in
theorem tie_events_Pulses (f2 : SFire) : TieF Try.prog 16 [A_SFire f2] (events_Pulses f2) (fun r => .t (tI r)) := by
  refine TieF.intro htab 11 [.tmp 2] Try.call16 Try.func16 rfl rfl rfl (Nat.le_of_ble_eq_true rfl) fun w0 L => ?_
  refine TieS.seq ?_
  refine TieS.region ?_
  refine TieO.run 2 rfl ?_
  refine TieO.nil ?_
  refine TieS.seq ?_
  refine TieS.block ?_
  refine TieS.seq ?_
  refine TieS.region ?_
  refine TieO.run 4 rfl ?_
  refine TieO.nil ?_
  refine TieS.cond rfl ?_ ?_
  · refine TieS.seq ?_
    refine TieS.region ?_
    refine TieO.run 1 rfl ?_
    refine TieO.nil ?_
    exact TieS.ret ⟨.inl rfl, rfl⟩
  · refine TieS.seq ?_
    refine TieS.region ?_
    refine TieO.run 4 rfl ?_
    refine TieO.nil ?_
    refine TieS.cond rfl ?_ ?_
    · refine TieS.seq ?_
      refine TieS.region ?_
      refine TieO.run 1 rfl ?_
      refine TieO.nil ?_
      exact TieS.ret ⟨.inl rfl, rfl⟩
    · refine TieS.skip ?_
      refine TieS.endb ?_
      refine TieS.seq ?_
      refine TieS.region ?_
      refine TieO.run 1 rfl ?_
      refine TieO.nil ?_
      exact TieS.ret ⟨.inl rfl, rfl⟩
-- magneto/events.within
set_option maxRecDepth 100000 in
theorem tie_events_within (x : Int) (low : Int) (high : Int) : TieF Try.prog 40 [.t (tI x), .t (tI low), .t (tI high)] (events_within x low high) (fun r => .t (tB r)) := by
  refine TieF.intro htab 15 [.tmp 6] Try.call40 Try.func40 rfl rfl rfl (Nat.le_of_ble_eq_true rfl) fun w0 L => ?_
  refine TieS.seq ?_
  refine TieS.region ?_
  refine TieO.run 1 rfl ?_
  refine TieO.nil ?_
  refine TieS.seq ?_
  refine TieS.region ?_
  refine TieO.run 4 rfl ?_
  refine TieO.selAnd (v := decide (x ≤ high)) 4 10 (fun b => ⟨[(14, .t (tB b))], []⟩) rfl ?_ ?_ ?_
  · refine TieO.run 4 rfl ?_
    refine TieO.nil ?_
    exact TieS.leaf ⟨rfl, .of rfl rfl⟩
  · refine TieO.run 4 rfl ?_
    refine TieO.nil ?_
    exact TieS.leaf ⟨rfl, .of rfl rfl⟩
  refine TieO.run 1 rfl ?_
  refine TieO.nil ?_
  exact TieS.ret ⟨.inl rfl, rfl⟩
-- slices.IndexFunc[[]magneto/api.Fire,magneto/api.Fire]
set_option maxRecDepth 100000 in
theorem tie_slices_IndexFunc_sFire (s : List SFire) (n2 : Nat) (cs : List (List Tree)) (f2 : SFire → Option Bool) (h2 : ∀ x0, TieF Try.prog n2 ([A_SFire x0] ++ cs.map T.el) (f2 x0) (fun r => .t (tB r))) : TieF Try.prog 65 [.t (tS enc_SFire s), .fz n2 cs] (slices_IndexFunc_sFire s f2) (fun r => .t (tI r)) := by
  refine TieF.intro htab 19 [.tmp 4] Try.call65 Try.func65 rfl rfl rfl (Nat.le_of_ble_eq_true rfl) fun w0 L => ?_
  refine TieS.seq ?_
  refine TieS.region ?_
  refine TieO.run 1 rfl ?_
  refine TieO.nil ?_
  refine TieS.seq ?_
  refine TieS.seq ?_
  refine TieS.region ?_
  refine TieO.run 3 rfl ?_
  refine TieO.nil ?_
  refine TieS.block ?_
  refine TieS.loop (fun p => ⟨[(0, .t (tS enc_SFire s)), (1, .fz n2 cs), (7, .t (tI (s.length : Int))), (8, .t (tI p.1))], []⟩) (fun b e σ' => match b with | .inl t => e = .exit 0 ∧ Sub ⟨[], []⟩ σ' | .inr t => e = .ret ∧ retT tab σ' [.tmp 4] = some (((fun r => .t (tI r)) : Int → T) t)) (.of rfl rfl) ?_ ?_
  · rintro ⟨i, s2⟩
    refine TieS.seq ?_
    refine TieS.region ?_
    refine TieO.run 1 rfl ?_
    refine TieO.nil ?_
    refine TieS.seq ?_
    refine TieS.cond rfl ?_ ?_
    · refine TieS.skip ?_
      refine TieS.seq ?_
      refine TieX.sub (σ' := ⟨[(0, .t (tS enc_SFire s)), (1, .fz n2 cs), (7, .t (tI (s.length : Int))), (8, .t (tI i))], []⟩) (.of rfl rfl) ?_
      refine TieS.bind (Q₁ := fun f e σ' => match f with | .next t => e = .normal ∧ Sub ⟨[(0, .t (tS enc_SFire s)), (1, .fz n2 cs), (7, .t (tI (s.length : Int))), (8, .t (tI i))], []⟩ σ' | .brk t => e = .exit 0 ∧ Sub ⟨[], []⟩ σ' | .ret t => e = .ret ∧ retT tab σ' [.tmp 4] = some (((fun r => .t (tI r)) : Int → T) t)) ?_ ?_
      · refine TieS.block ?_
        refine TieS.seq ?_
        refine TieS.region ?_
        refine TieO.run 2 rfl ?_
        refine TieO.nil ?_
        refine TieS.seq ?_
        refine TieS.region ?_
        refine TieO.run 3 rfl ?_
        refine TieO.index rfl rfl rfl rfl rfl rfl rfl rfl (fun _ => rfl) fun x hx => ?_
        refine TieO.run 1 rfl ?_
        refine TieO.call _ rfl rfl rfl (h2 x) (fun _ => rfl) fun v => ?_
        refine TieO.nil ?_
        refine TieS.cond rfl ?_ ?_
        · refine TieS.seq ?_
          refine TieS.region ?_
          refine TieO.run 2 rfl ?_
          refine TieO.nil ?_
          exact TieS.ret ⟨rfl, rfl⟩
        · refine TieS.skip ?_
          refine TieS.endb ?_
          exact TieS.leaf ⟨rfl, .of rfl rfl⟩
      rintro (t | t | t) e σ' _ hq
      · obtain ⟨rfl, hs⟩ := hq
        refine TieX.sub hs ?_
        refine TieS.region ?_
        refine TieO.run 2 rfl ?_
        refine TieO.nil ?_
        exact TieS.leaf ⟨rfl, .of rfl rfl⟩
      · obtain ⟨rfl, hs⟩ := hq
        exact TieX.exitOut rfl ⟨(fun h => by cases h), rfl, hs⟩
      · obtain ⟨rfl, hs⟩ := hq
        exact TieX.ret ⟨(fun h => by cases h), rfl, hs⟩
    · exact TieS.exitOut rfl ⟨(fun h => by cases h), rfl, .of rfl rfl⟩
  rintro (s3 | r2) e σ' _ hq
  · obtain ⟨rfl, hs⟩ := hq
    refine TieX.exit rfl (TieX.sub hs ?_)
    refine TieS.seq ?_
    refine TieS.region ?_
    refine TieO.run 1 rfl ?_
    refine TieO.nil ?_
    exact TieS.ret ⟨.inl rfl, rfl⟩
  · obtain ⟨rfl, hs⟩ := hq
    exact TieX.ret ⟨.inl rfl, hs⟩
-- slices.ContainsFunc[[]magneto/api.Fire,magneto/api.Fire]
set_option maxRecDepth 100000 in
theorem tie_slices_ContainsFunc_sFire (s : List SFire) (n2 : Nat) (cs : List (List Tree)) (f2 : SFire → Option Bool) (h2 : ∀ x0, TieF Try.prog n2 ([A_SFire x0] ++ cs.map T.el) (f2 x0) (fun r => .t (tB r))) : TieF Try.prog 43 [.t (tS enc_SFire s), .fz n2 cs] (slices_ContainsFunc_sFire s f2) (fun r => .t (tB r)) := by
  refine TieF.intro htab 9 [.tmp 4] Try.call43 Try.func43 rfl rfl rfl (Nat.le_of_ble_eq_true rfl) fun w0 L => ?_
  refine TieS.seq ?_
  refine TieS.region ?_
  refine TieO.run 1 rfl ?_
  refine TieO.nil ?_
  refine TieS.seq ?_
  refine TieS.region ?_
  refine TieO.run 2 rfl ?_
  refine TieO.call _ rfl rfl rfl (tie_slices_IndexFunc_sFire s n2 cs f2 h2) (fun _ => rfl) fun v => ?_
  refine TieO.run 2 rfl ?_
  refine TieO.nil ?_
  exact TieS.ret ⟨.inl rfl, rfl⟩
-- magneto/events.ValidFire
set_option maxRecDepth 100000 in
theorem tie_events_ValidFire (e2 : SEngine) (f2 : SFire) : TieF Try.prog 14 [A_SEngine e2, A_SFire f2] (events_ValidFire e2 f2) (fun r => .t (tB r)) := by
  refine TieF.intro htab 66 [.tmp 4] Try.call14 Try.func14 rfl rfl rfl (Nat.le_of_ble_eq_true rfl) fun w0 L => ?_
  refine TieS.seq ?_
  refine TieS.region ?_
  refine TieO.run 3 rfl ?_
  refine TieO.nil ?_
  refine TieS.seq ?_
  refine TieS.seq ?_
  refine TieS.region ?_
  refine TieO.run 1 rfl ?_
  refine TieO.call _ rfl rfl rfl (tie_events_Valid e2) (fun _ => rfl) fun v => ?_
  refine TieO.run 2 rfl ?_
  refine TieO.bind 7 (fun b2 => ⟨[(3, .ptr 3 0), (15, .t (tB b2))], [(3, .box [.t (tI f2.Cylinder), .t (tI f2.Spark), .t (tI f2.Dwell), .t (tI f2.End), .t (tI f2.Inject), .t (tI f2.Gap), .t (tI f2.Extra)])]⟩) (TieO.split 8 rfl ?_ ?_) fun b2 _ => ?_
  · refine TieO.run 7 rfl ?_
    refine TieO.nil ?_
    exact TieS.leaf ⟨rfl, .of rfl rfl⟩
  · refine TieO.run 4 rfl ?_
    refine TieO.call _ rfl rfl rfl (tie_slices_Contains_sint e2.Order f2.Cylinder) (fun _ => rfl) fun v2 => ?_
    refine TieO.run 2 rfl ?_
    refine TieO.nil ?_
    exact TieS.leaf ⟨rfl, .of rfl rfl⟩
  refine TieO.run 1 rfl ?_
  refine TieO.bind 5 (fun b3 => ⟨[(3, .ptr 3 0), (21, .t (tB b3))], [(3, .box [.t (tI f2.Cylinder), .t (tI f2.Spark), .t (tI f2.Dwell), .t (tI f2.End), .t (tI f2.Inject), .t (tI f2.Gap), .t (tI f2.Extra)])]⟩) (TieO.split 16 rfl ?_ ?_) fun b3 _ => ?_
  · refine TieO.run 5 rfl ?_
    refine TieO.nil ?_
    exact TieS.leaf ⟨rfl, .of rfl rfl⟩
  · refine TieO.run 2 rfl ?_
    refine TieO.call _ rfl rfl rfl (tie_events_within f2.Spark (-1280) 3840) (fun _ => rfl) fun v3 => ?_
    refine TieO.run 2 rfl ?_
    refine TieO.nil ?_
    exact TieS.leaf ⟨rfl, .of rfl rfl⟩
  refine TieO.run 1 rfl ?_
  refine TieO.bind 5 (fun b4 => ⟨[(3, .ptr 3 0), (27, .t (tB b4))], [(3, .box [.t (tI f2.Cylinder), .t (tI f2.Spark), .t (tI f2.Dwell), .t (tI f2.End), .t (tI f2.Inject), .t (tI f2.Gap), .t (tI f2.Extra)])]⟩) (TieO.split 22 rfl ?_ ?_) fun b4 _ => ?_
  · refine TieO.run 5 rfl ?_
    refine TieO.nil ?_
    exact TieS.leaf ⟨rfl, .of rfl rfl⟩
  · refine TieO.run 2 rfl ?_
    refine TieO.call _ rfl rfl rfl (tie_events_within f2.Dwell 500 10000) (fun _ => rfl) fun v4 => ?_
    refine TieO.run 2 rfl ?_
    refine TieO.nil ?_
    exact TieS.leaf ⟨rfl, .of rfl rfl⟩
  refine TieO.run 1 rfl ?_
  refine TieO.bind 5 (fun b5 => ⟨[(3, .ptr 3 0), (33, .t (tB b5))], [(3, .box [.t (tI f2.Cylinder), .t (tI f2.Spark), .t (tI f2.Dwell), .t (tI f2.End), .t (tI f2.Inject), .t (tI f2.Gap), .t (tI f2.Extra)])]⟩) (TieO.split 28 rfl ?_ ?_) fun b5 _ => ?_
  · refine TieO.run 5 rfl ?_
    refine TieO.nil ?_
    exact TieS.leaf ⟨rfl, .of rfl rfl⟩
  · refine TieO.run 2 rfl ?_
    refine TieO.call _ rfl rfl rfl (tie_events_within f2.End 0 23040) (fun _ => rfl) fun v5 => ?_
    refine TieO.run 2 rfl ?_
    refine TieO.nil ?_
    exact TieS.leaf ⟨rfl, .of rfl rfl⟩
  refine TieO.nil ?_
  refine TieS.cond rfl ?_ ?_
  · refine TieS.seq ?_
    refine TieS.region ?_
    refine TieO.run 1 rfl ?_
    refine TieO.nil ?_
    exact TieS.ret ⟨.inl rfl, rfl⟩
  · refine TieS.skip ?_
    refine TieS.seq ?_
    refine TieS.seq ?_
    refine TieS.region ?_
    refine TieO.run 4 rfl ?_
    refine TieO.bind 5 (fun b6 => ⟨[(3, .ptr 3 0), (42, .t (tB b6))], [(3, .box [.t (tI f2.Cylinder), .t (tI f2.Spark), .t (tI f2.Dwell), .t (tI f2.End), .t (tI f2.Inject), .t (tI f2.Gap), .t (tI f2.Extra)])]⟩) (TieO.split 37 rfl ?_ ?_) fun b6 _ => ?_
    · refine TieO.run 2 rfl ?_
      refine TieO.call _ rfl rfl rfl (tie_events_within f2.Inject 200 20000) (fun _ => rfl) fun v6 => ?_
      refine TieO.run 2 rfl ?_
      refine TieO.nil ?_
      exact TieS.leaf ⟨rfl, .of rfl rfl⟩
    · refine TieO.run 5 rfl ?_
      refine TieO.nil ?_
      exact TieS.leaf ⟨rfl, .of rfl rfl⟩
    refine TieO.nil ?_
    refine TieS.cond rfl ?_ ?_
    · refine TieS.seq ?_
      refine TieS.region ?_
      refine TieO.run 1 rfl ?_
      refine TieO.nil ?_
      exact TieS.ret ⟨.inl rfl, rfl⟩
    · refine TieS.skip ?_
      refine TieS.seq ?_
      refine TieS.region ?_
      refine TieO.run 4 rfl ?_
      refine TieO.selAnd (v := (f2.Extra == 0)) 4 46 (fun b => ⟨[(3, .ptr 3 0), (50, .t (tB b))], [(3, .box [.t (tI f2.Cylinder), .t (tI f2.Spark), .t (tI f2.Dwell), .t (tI f2.End), .t (tI f2.Inject), .t (tI f2.Gap), .t (tI f2.Extra)])]⟩) rfl ?_ ?_ ?_
      · refine TieO.run 4 rfl ?_
        refine TieO.nil ?_
        exact TieS.leaf ⟨rfl, .of rfl rfl⟩
      · refine TieO.run 4 rfl ?_
        refine TieO.nil ?_
        exact TieS.leaf ⟨rfl, .of rfl rfl⟩
      refine TieO.run 1 rfl ?_
      refine TieO.frzBox 3 rfl rfl ?_
      refine TieO.bind 14 (fun b9 => ⟨[(65, .t (tB b9))], []⟩) (TieO.split 51 rfl ?_ ?_) fun b9 _ => ?_
      · refine TieO.run 14 rfl ?_
        refine TieO.nil ?_
        exact TieS.leaf ⟨rfl, .of rfl rfl⟩
      · refine TieO.run 4 rfl ?_
        refine TieO.bind 4 (fun b7 => ⟨[(3, .el (enc_SFire f2)), (51, .t (tB false)), (59, .t (tB b7))], []⟩) (TieO.split 55 rfl ?_ ?_) fun b7 _ => ?_
        · refine TieO.run 2 rfl ?_
          refine TieO.call _ rfl rfl rfl (tie_events_within f2.Gap 200 20000) (fun _ => rfl) fun v7 => ?_
          refine TieO.run 1 rfl ?_
          refine TieO.nil ?_
          exact TieS.leaf ⟨rfl, .of rfl rfl⟩
        · refine TieO.run 4 rfl ?_
          refine TieO.nil ?_
          exact TieS.leaf ⟨rfl, .of rfl rfl⟩
        refine TieO.run 1 rfl ?_
        refine TieO.bind 4 (fun b8 => ⟨[(51, .t (tB false)), (64, .t (tB b8))], []⟩) (TieO.split 60 rfl ?_ ?_) fun b8 _ => ?_
        · refine TieO.run 2 rfl ?_
          refine TieO.call _ rfl rfl rfl (tie_events_within f2.Extra 200 20000) (fun _ => rfl) fun v8 => ?_
          refine TieO.run 1 rfl ?_
          refine TieO.nil ?_
          exact TieS.leaf ⟨rfl, .of rfl rfl⟩
        · refine TieO.run 4 rfl ?_
          refine TieO.nil ?_
          exact TieS.leaf ⟨rfl, .of rfl rfl⟩
        refine TieO.run 1 rfl ?_
        refine TieO.nil ?_
        exact TieS.leaf ⟨rfl, .of rfl rfl⟩
      refine TieO.run 1 rfl ?_
      refine TieO.nil ?_
      exact TieS.ret ⟨.inl rfl, rfl⟩
-- magneto/events.Plan$1
set_option maxRecDepth 100000 in
theorem tie_events_Plan_1 (f2 : SFire) (c : SEngine) : TieF Try.prog 44 [A_SFire f2, .el (enc_SEngine c)] (events_Plan_1 f2 c) (fun r => .t (tB r)) := by
  refine TieF.intro htab 8 [.tmp 3] Try.call44 Try.func44 rfl rfl rfl (Nat.le_of_ble_eq_true rfl) fun w0 L => ?_
  refine TieS.seq ?_
  refine TieS.region ?_
  refine TieO.run 2 rfl ?_
  refine TieO.nil ?_
  refine TieS.seq ?_
  refine TieS.region ?_
  refine TieO.run 2 rfl ?_
  refine TieO.call _ rfl rfl rfl (tie_events_ValidFire c f2) (fun _ => rfl) fun v => ?_
  refine TieO.run 2 rfl ?_
  refine TieO.nil ?_
  exact TieS.ret ⟨.inl rfl, rfl⟩
-- magneto/events.Plan$2
set_option maxRecDepth 100000 in
theorem tie_events_Plan_2 (g : SFire) (c : SFire) : TieF Try.prog 45 [A_SFire g, .el (enc_SFire c)] (events_Plan_2 g c) (fun r => .t (tB r)) := by
  refine TieF.intro htab 9 [.tmp 3] Try.call45 Try.func45 rfl rfl rfl (Nat.le_of_ble_eq_true rfl) fun w0 L => ?_
  refine TieS.seq ?_
  refine TieS.region ?_
  refine TieO.run 2 rfl ?_
  refine TieO.nil ?_
  refine TieS.seq ?_
  refine TieS.region ?_
  refine TieO.run 6 rfl ?_
  refine TieO.nil ?_
  exact TieS.ret ⟨.inl rfl, rfl⟩
-- magneto/arith.Mod
set_option maxRecDepth 100000 in
theorem tie_arith_Mod (a : Int) (b2 : Int) : TieF Try.prog 47 [.t (tI a), .t (tI b2)] (arith_Mod a b2) (fun r => .t (tI r)) := by
  refine TieF.intro htab 28 [.tmp 4] Try.call47 Try.func47 rfl rfl rfl (Nat.le_of_ble_eq_true rfl) fun w0 L => ?_
  refine TieS.seq ?_
  refine TieS.region ?_
  refine TieO.run 1 rfl ?_
  refine TieO.nil ?_
  refine TieS.seq ?_
  refine TieS.seq ?_
  refine TieS.region ?_
  refine TieO.run 3 rfl ?_
  refine TieO.selOr (v := (b2 == (-1))) 3 8 (fun b => ⟨[(0, .t (tI a)), (1, .t (tI b2)), (11, .t (tB b))], []⟩) rfl ?_ ?_ ?_
  · refine TieO.run 3 rfl ?_
    refine TieO.nil ?_
    exact TieS.leaf ⟨rfl, .of rfl rfl⟩
  · refine TieO.run 3 rfl ?_
    refine TieO.nil ?_
    exact TieS.leaf ⟨rfl, .of rfl rfl⟩
  refine TieO.nil ?_
  refine TieS.cond rfl ?_ ?_
  · refine TieS.seq ?_
    refine TieS.region ?_
    refine TieO.run 1 rfl ?_
    refine TieO.nil ?_
    exact TieS.ret ⟨.inl rfl, rfl⟩
  · refine TieS.skip ?_
    refine TieS.seq ?_
    refine TieS.region ?_
    refine TieO.run 2 rfl ?_
    refine TieO.rem rfl rfl rfl rfl rfl rfl fun q => ?_
    refine TieO.run 1 rfl ?_
    refine TieO.nil ?_
    refine TieS.seq ?_
    refine TieS.seq ?_
    refine TieS.region ?_
    refine TieO.run 3 rfl ?_
    refine TieO.selAnd (v := (!((decide (q < 0)) == (decide (b2 < 0))))) 6 17 (fun b => ⟨[(1, .t (tI b2)), (5, .t (tI q)), (23, .t (tB b))], []⟩) rfl ?_ ?_ ?_
    · refine TieO.run 6 rfl ?_
      refine TieO.nil ?_
      exact TieS.leaf ⟨rfl, .of rfl rfl⟩
    · refine TieO.run 6 rfl ?_
      refine TieO.nil ?_
      exact TieS.leaf ⟨rfl, .of rfl rfl⟩
    refine TieO.nil ?_
    refine TieS.cond rfl ?_ ?_
    · refine TieS.region ?_
      refine TieO.run 4 rfl ?_
      refine TieO.nil ?_
      refine TieS.seq ?_
      refine TieS.region ?_
      refine TieO.run 2 rfl ?_
      refine TieO.nil ?_
      exact TieS.ret ⟨.inl rfl, rfl⟩
    · refine TieS.skip ?_
      refine TieS.seq ?_
      refine TieS.region ?_
      refine TieO.run 2 rfl ?_
      refine TieO.nil ?_
      exact TieS.ret ⟨.inl rfl, rfl⟩
-- magneto/events.Plan$3
set_option maxRecDepth 100000 in
theorem tie_events_Plan_3 (v_at : Int) (kind : Int) (pulse : Int) (c : List SEvent) (c2 : SFire) : TieG Try.prog 46 [.t (tI v_at), .t (tI kind), .t (tI pulse), .ptr 1000000 0, .el (enc_SFire c2)] [(1000000, .box [.own 1000001]), (1000001, .rows 44 4 c.length (c.map enc_SEvent))] (events_Plan_3 v_at kind pulse c c2) (fun _ => .tup []) (fun r => [(900000, .rows 44 4 r.length (r.map enc_SEvent)), (1000000, .box [.own 900000])]) := by
  refine TieG.intro htab 18 [] Try.call46 Try.func46 rfl rfl rfl (Nat.le_of_ble_eq_true rfl) fun w0 L => ?_
  refine TieS.bind (Q₁ := fun t e σ' => e = .normal ∧ Sub ⟨[], [(2136, .rows 44 4 t.length (t.map enc_SEvent)), (1000000, .box [.own 2136])]⟩ σ') ?_ ?_
  · refine TieX.pre fun v hv => ?_
    refine TieS.draws 9 [false, false, false, false, false, false, false, false, false, false, false] [true, true, true, true, true, true, true, true, true, false, false] ⟨[(0, .t (tI v_at)), (1, .t (tI kind)), (2, .t (tI pulse)), (3, .ptr 1000000 0), (4, .el (enc_SFire c2)), (8, .own 1000001), (9, .t (tI v_at)), (10, .t (tI v)), (11, .t (tI kind)), (12, .el (List.drop 0 (enc_SFire c2))), (13, .t (tI c2.Cylinder)), (14, .t (tI pulse)), (15, .agg [.t (tI v), .t (tI kind), .t (tI c2.Cylinder), .t (tI pulse)]), (16, .own 16)], [(16, .rows 44 4 ([(⟨v, kind, c2.Cylinder, pulse⟩ : SEvent)] : List SEvent).length (([(⟨v, kind, c2.Cylinder, pulse⟩ : SEvent)] : List SEvent).map enc_SEvent)), (1000000, .box [.own 1000001]), (1000001, .rows 44 4 c.length (c.map enc_SEvent))]⟩ mixed (fun _ _ _ h => by cases h.1) rfl rfl rfl rfl ?_ ?_
    · refine TieA.have_ (fuel₁ := 2) (l₁ := [true, true, true, true, true, true, true, true, true, false, false]) (σ₁ := ⟨[(0, .t (tI v_at)), (1, .t (tI kind)), (2, .t (tI pulse)), (3, .ptr 1000000 0), (4, .el (enc_SFire c2)), (8, .own 1000001), (9, .t (tI v_at)), (10, .t (tI v)), (11, .t (tI kind)), (12, .el (List.drop 0 (enc_SFire c2))), (13, .t (tI c2.Cylinder)), (14, .t (tI pulse)), (15, .agg [.t (tI v), .t (tI kind), .t (tI c2.Cylinder), .t (tI pulse)]), (16, .own 16)], [(16, .rows 44 4 ([(⟨v, kind, c2.Cylinder, pulse⟩ : SEvent)] : List SEvent).length (([(⟨v, kind, c2.Cylinder, pulse⟩ : SEvent)] : List SEvent).map enc_SEvent)), (1000000, .box [.own 1000001]), (1000001, .rows 44 4 c.length (c.map enc_SEvent))]⟩) ?_ fun A_5 => ?_
      · exact TieA.done (.of rfl rfl)
      refine TieA.have_ (fuel₁ := 3) (l₁ := [true, true, true, true, true, true, true, true, false, false, false]) (σ₁ := ⟨[(0, .t (tI v_at)), (1, .t (tI kind)), (2, .t (tI pulse)), (3, .ptr 1000000 0), (4, .el (enc_SFire c2)), (8, .own 1000001), (9, .t (tI v_at)), (10, .t (tI v)), (11, .t (tI kind)), (12, .el (List.drop 0 (enc_SFire c2))), (13, .t (tI c2.Cylinder)), (14, .t (tI pulse)), (15, .agg [.t (tI v), .t (tI kind), .t (tI c2.Cylinder), .t (tI pulse)])], [(1000000, .box [.own 1000001]), (1000001, .rows 44 4 c.length (c.map enc_SEvent))]⟩) ?_ fun A_4 => ?_
      · refine TieA.all [8] (by kernel_rfl) rfl ?_
        refine AllA.cons (σ₁ := ⟨[(0, .t (tI v_at)), (1, .t (tI kind)), (2, .t (tI pulse)), (3, .ptr 1000000 0), (4, .el (enc_SFire c2)), (8, .own 1000001), (9, .t (tI v_at)), (10, .t (tI v)), (11, .t (tI kind)), (12, .el (List.drop 0 (enc_SFire c2))), (13, .t (tI c2.Cylinder)), (14, .t (tI pulse)), (15, .agg [.t (tI v), .t (tI kind), .t (tI c2.Cylinder), .t (tI pulse)]), (16, .own 16)], [(16, .rows 44 4 ([(⟨v, kind, c2.Cylinder, pulse⟩ : SEvent)] : List SEvent).length (([(⟨v, kind, c2.Cylinder, pulse⟩ : SEvent)] : List SEvent).map enc_SEvent)), (1000000, .box [.own 1000001]), (1000001, .rows 44 4 c.length (c.map enc_SEvent))]⟩) [true, true, true, true, true, true, true, true, true, false, false] rfl rfl ?_ A_5 ?_
        · refine TieO.run 1 rfl ?_
          exact TieO.nil (TieS.leaf ⟨rfl, .of rfl rfl⟩)
        exact AllA.nil
      refine TieA.have_ (fuel₁ := 4) (l₁ := [true, true, true, true, true, true, true, false, false, false, false]) (σ₁ := ⟨[(0, .t (tI v_at)), (1, .t (tI kind)), (2, .t (tI pulse)), (3, .ptr 1000000 0), (4, .el (enc_SFire c2)), (8, .own 1000001), (9, .t (tI v_at)), (10, .t (tI v)), (11, .t (tI kind)), (12, .el (List.drop 0 (enc_SFire c2))), (13, .t (tI c2.Cylinder)), (14, .t (tI pulse))], [(1000000, .box [.own 1000001]), (1000001, .rows 44 4 c.length (c.map enc_SEvent))]⟩) ?_ fun A_3 => ?_
      · refine TieA.all [7] (by kernel_rfl) rfl ?_
        refine AllA.cons (σ₁ := ⟨[(0, .t (tI v_at)), (1, .t (tI kind)), (2, .t (tI pulse)), (3, .ptr 1000000 0), (4, .el (enc_SFire c2)), (8, .own 1000001), (9, .t (tI v_at)), (10, .t (tI v)), (11, .t (tI kind)), (12, .el (List.drop 0 (enc_SFire c2))), (13, .t (tI c2.Cylinder)), (14, .t (tI pulse)), (15, .agg [.t (tI v), .t (tI kind), .t (tI c2.Cylinder), .t (tI pulse)])], [(1000000, .box [.own 1000001]), (1000001, .rows 44 4 c.length (c.map enc_SEvent))]⟩) [true, true, true, true, true, true, true, true, false, false, false] rfl rfl ?_ A_4 ?_
        · refine TieO.run 1 rfl ?_
          exact TieO.nil (TieS.leaf ⟨rfl, .of rfl rfl⟩)
        exact AllA.nil
      refine TieA.have_ (fuel₁ := 5) (l₁ := [true, true, true, true, true, false, true, false, false, false, false]) (σ₁ := ⟨[(0, .t (tI v_at)), (1, .t (tI kind)), (2, .t (tI pulse)), (3, .ptr 1000000 0), (4, .el (enc_SFire c2)), (8, .own 1000001), (9, .t (tI v_at)), (10, .t (tI v)), (11, .t (tI kind)), (12, .el (List.drop 0 (enc_SFire c2))), (14, .t (tI pulse))], [(1000000, .box [.own 1000001]), (1000001, .rows 44 4 c.length (c.map enc_SEvent))]⟩) ?_ fun A_2 => ?_
      · refine TieA.all [5] (by kernel_rfl) rfl ?_
        refine AllA.cons (σ₁ := ⟨[(0, .t (tI v_at)), (1, .t (tI kind)), (2, .t (tI pulse)), (3, .ptr 1000000 0), (4, .el (enc_SFire c2)), (8, .own 1000001), (9, .t (tI v_at)), (10, .t (tI v)), (11, .t (tI kind)), (12, .el (List.drop 0 (enc_SFire c2))), (13, .t (tI c2.Cylinder)), (14, .t (tI pulse))], [(1000000, .box [.own 1000001]), (1000001, .rows 44 4 c.length (c.map enc_SEvent))]⟩) [true, true, true, true, true, true, true, false, false, false, false] rfl rfl ?_ A_3 ?_
        · refine TieO.run 1 rfl ?_
          exact TieO.nil (TieS.leaf ⟨rfl, .of rfl rfl⟩)
        exact AllA.nil
      refine TieA.have_ (fuel₁ := 5) (l₁ := [true, true, false, true, true, true, true, false, false, false, false]) (σ₁ := ⟨[(0, .t (tI v_at)), (1, .t (tI kind)), (2, .t (tI pulse)), (3, .ptr 1000000 0), (4, .el (enc_SFire c2)), (8, .own 1000001), (9, .t (tI v_at)), (11, .t (tI kind)), (12, .el (List.drop 0 (enc_SFire c2))), (13, .t (tI c2.Cylinder)), (14, .t (tI pulse))], [(1000000, .box [.own 1000001]), (1000001, .rows 44 4 c.length (c.map enc_SEvent))]⟩) ?_ fun A_6 => ?_
      · refine TieA.all [2] (by kernel_rfl) rfl ?_
        refine AllA.cons (σ₁ := ⟨[(0, .t (tI v_at)), (1, .t (tI kind)), (2, .t (tI pulse)), (3, .ptr 1000000 0), (4, .el (enc_SFire c2)), (8, .own 1000001), (9, .t (tI v_at)), (10, .t (tI v)), (11, .t (tI kind)), (12, .el (List.drop 0 (enc_SFire c2))), (13, .t (tI c2.Cylinder)), (14, .t (tI pulse))], [(1000000, .box [.own 1000001]), (1000001, .rows 44 4 c.length (c.map enc_SEvent))]⟩) [true, true, true, true, true, true, true, false, false, false, false] rfl rfl ?_ A_3 ?_
        · refine TieO.withH hv (TieO.call _ rfl rfl rfl (tie_arith_Mod v_at 46080) (fun _ => rfl) (TieO.ifH ?_))
          exact TieO.nil (TieS.leaf ⟨rfl, .of rfl rfl⟩)
        exact AllA.nil
      refine TieA.have_ (fuel₁ := 6) (l₁ := [true, true, false, true, true, false, true, false, false, false, false]) (σ₁ := ⟨[(0, .t (tI v_at)), (1, .t (tI kind)), (2, .t (tI pulse)), (3, .ptr 1000000 0), (4, .el (enc_SFire c2)), (8, .own 1000001), (9, .t (tI v_at)), (11, .t (tI kind)), (12, .el (List.drop 0 (enc_SFire c2))), (14, .t (tI pulse))], [(1000000, .box [.own 1000001]), (1000001, .rows 44 4 c.length (c.map enc_SEvent))]⟩) ?_ fun A_1 => ?_
      · refine TieA.all [2, 5] (by kernel_rfl) rfl ?_
        refine AllA.cons (σ₁ := ⟨[(0, .t (tI v_at)), (1, .t (tI kind)), (2, .t (tI pulse)), (3, .ptr 1000000 0), (4, .el (enc_SFire c2)), (8, .own 1000001), (9, .t (tI v_at)), (10, .t (tI v)), (11, .t (tI kind)), (12, .el (List.drop 0 (enc_SFire c2))), (14, .t (tI pulse))], [(1000000, .box [.own 1000001]), (1000001, .rows 44 4 c.length (c.map enc_SEvent))]⟩) [true, true, true, true, true, false, true, false, false, false, false] rfl rfl ?_ A_2 ?_
        · refine TieO.withH hv (TieO.call _ rfl rfl rfl (tie_arith_Mod v_at 46080) (fun _ => rfl) (TieO.ifH ?_))
          exact TieO.nil (TieS.leaf ⟨rfl, .of rfl rfl⟩)
        refine AllA.cons (σ₁ := ⟨[(0, .t (tI v_at)), (1, .t (tI kind)), (2, .t (tI pulse)), (3, .ptr 1000000 0), (4, .el (enc_SFire c2)), (8, .own 1000001), (9, .t (tI v_at)), (11, .t (tI kind)), (12, .el (List.drop 0 (enc_SFire c2))), (13, .t (tI c2.Cylinder)), (14, .t (tI pulse))], [(1000000, .box [.own 1000001]), (1000001, .rows 44 4 c.length (c.map enc_SEvent))]⟩) [true, true, false, true, true, true, true, false, false, false, false] rfl rfl ?_ A_6 ?_
        · refine TieO.run 1 rfl ?_
          exact TieO.nil (TieS.leaf ⟨rfl, .of rfl rfl⟩)
        exact AllA.nil
      refine TieA.have_ (fuel₁ := 3) (l₁ := [false, true, true, true, true, true, true, true, true, false, false]) (σ₁ := ⟨[(0, .t (tI v_at)), (1, .t (tI kind)), (2, .t (tI pulse)), (3, .ptr 1000000 0), (4, .el (enc_SFire c2)), (9, .t (tI v_at)), (10, .t (tI v)), (11, .t (tI kind)), (12, .el (List.drop 0 (enc_SFire c2))), (13, .t (tI c2.Cylinder)), (14, .t (tI pulse)), (15, .agg [.t (tI v), .t (tI kind), .t (tI c2.Cylinder), .t (tI pulse)]), (16, .own 16)], [(16, .rows 44 4 ([(⟨v, kind, c2.Cylinder, pulse⟩ : SEvent)] : List SEvent).length (([(⟨v, kind, c2.Cylinder, pulse⟩ : SEvent)] : List SEvent).map enc_SEvent)), (1000000, .box [.own 1000001]), (1000001, .rows 44 4 c.length (c.map enc_SEvent))]⟩) ?_ fun A_10 => ?_
      · refine TieA.all [0] (by kernel_rfl) rfl ?_
        refine AllA.cons (σ₁ := ⟨[(0, .t (tI v_at)), (1, .t (tI kind)), (2, .t (tI pulse)), (3, .ptr 1000000 0), (4, .el (enc_SFire c2)), (8, .own 1000001), (9, .t (tI v_at)), (10, .t (tI v)), (11, .t (tI kind)), (12, .el (List.drop 0 (enc_SFire c2))), (13, .t (tI c2.Cylinder)), (14, .t (tI pulse)), (15, .agg [.t (tI v), .t (tI kind), .t (tI c2.Cylinder), .t (tI pulse)]), (16, .own 16)], [(16, .rows 44 4 ([(⟨v, kind, c2.Cylinder, pulse⟩ : SEvent)] : List SEvent).length (([(⟨v, kind, c2.Cylinder, pulse⟩ : SEvent)] : List SEvent).map enc_SEvent)), (1000000, .box [.own 1000001]), (1000001, .rows 44 4 c.length (c.map enc_SEvent))]⟩) [true, true, true, true, true, true, true, true, true, false, false] rfl rfl ?_ A_5 ?_
        · refine TieO.run 1 rfl ?_
          exact TieO.nil (TieS.leaf ⟨rfl, .of rfl rfl⟩)
        exact AllA.nil
      refine TieA.have_ (fuel₁ := 4) (l₁ := [false, true, true, true, true, true, true, true, false, false, false]) (σ₁ := ⟨[(0, .t (tI v_at)), (1, .t (tI kind)), (2, .t (tI pulse)), (3, .ptr 1000000 0), (4, .el (enc_SFire c2)), (9, .t (tI v_at)), (10, .t (tI v)), (11, .t (tI kind)), (12, .el (List.drop 0 (enc_SFire c2))), (13, .t (tI c2.Cylinder)), (14, .t (tI pulse)), (15, .agg [.t (tI v), .t (tI kind), .t (tI c2.Cylinder), .t (tI pulse)])], [(1000000, .box [.own 1000001]), (1000001, .rows 44 4 c.length (c.map enc_SEvent))]⟩) ?_ fun A_9 => ?_
      · refine TieA.all [0, 8] (by kernel_rfl) rfl ?_
        refine AllA.cons (σ₁ := ⟨[(0, .t (tI v_at)), (1, .t (tI kind)), (2, .t (tI pulse)), (3, .ptr 1000000 0), (4, .el (enc_SFire c2)), (8, .own 1000001), (9, .t (tI v_at)), (10, .t (tI v)), (11, .t (tI kind)), (12, .el (List.drop 0 (enc_SFire c2))), (13, .t (tI c2.Cylinder)), (14, .t (tI pulse)), (15, .agg [.t (tI v), .t (tI kind), .t (tI c2.Cylinder), .t (tI pulse)])], [(1000000, .box [.own 1000001]), (1000001, .rows 44 4 c.length (c.map enc_SEvent))]⟩) [true, true, true, true, true, true, true, true, false, false, false] rfl rfl ?_ A_4 ?_
        · refine TieO.run 1 rfl ?_
          exact TieO.nil (TieS.leaf ⟨rfl, .of rfl rfl⟩)
        refine AllA.cons (σ₁ := ⟨[(0, .t (tI v_at)), (1, .t (tI kind)), (2, .t (tI pulse)), (3, .ptr 1000000 0), (4, .el (enc_SFire c2)), (9, .t (tI v_at)), (10, .t (tI v)), (11, .t (tI kind)), (12, .el (List.drop 0 (enc_SFire c2))), (13, .t (tI c2.Cylinder)), (14, .t (tI pulse)), (15, .agg [.t (tI v), .t (tI kind), .t (tI c2.Cylinder), .t (tI pulse)]), (16, .own 16)], [(16, .rows 44 4 ([(⟨v, kind, c2.Cylinder, pulse⟩ : SEvent)] : List SEvent).length (([(⟨v, kind, c2.Cylinder, pulse⟩ : SEvent)] : List SEvent).map enc_SEvent)), (1000000, .box [.own 1000001]), (1000001, .rows 44 4 c.length (c.map enc_SEvent))]⟩) [false, true, true, true, true, true, true, true, true, false, false] rfl rfl ?_ A_10 ?_
        · refine TieO.run 1 rfl ?_
          exact TieO.nil (TieS.leaf ⟨rfl, .of rfl rfl⟩)
        exact AllA.nil
      refine TieA.have_ (fuel₁ := 5) (l₁ := [false, true, true, true, true, true, true, false, false, false, false]) (σ₁ := ⟨[(0, .t (tI v_at)), (1, .t (tI kind)), (2, .t (tI pulse)), (3, .ptr 1000000 0), (4, .el (enc_SFire c2)), (9, .t (tI v_at)), (10, .t (tI v)), (11, .t (tI kind)), (12, .el (List.drop 0 (enc_SFire c2))), (13, .t (tI c2.Cylinder)), (14, .t (tI pulse))], [(1000000, .box [.own 1000001]), (1000001, .rows 44 4 c.length (c.map enc_SEvent))]⟩) ?_ fun A_8 => ?_
      · refine TieA.all [0, 7] (by kernel_rfl) rfl ?_
        refine AllA.cons (σ₁ := ⟨[(0, .t (tI v_at)), (1, .t (tI kind)), (2, .t (tI pulse)), (3, .ptr 1000000 0), (4, .el (enc_SFire c2)), (8, .own 1000001), (9, .t (tI v_at)), (10, .t (tI v)), (11, .t (tI kind)), (12, .el (List.drop 0 (enc_SFire c2))), (13, .t (tI c2.Cylinder)), (14, .t (tI pulse))], [(1000000, .box [.own 1000001]), (1000001, .rows 44 4 c.length (c.map enc_SEvent))]⟩) [true, true, true, true, true, true, true, false, false, false, false] rfl rfl ?_ A_3 ?_
        · refine TieO.run 1 rfl ?_
          exact TieO.nil (TieS.leaf ⟨rfl, .of rfl rfl⟩)
        refine AllA.cons (σ₁ := ⟨[(0, .t (tI v_at)), (1, .t (tI kind)), (2, .t (tI pulse)), (3, .ptr 1000000 0), (4, .el (enc_SFire c2)), (9, .t (tI v_at)), (10, .t (tI v)), (11, .t (tI kind)), (12, .el (List.drop 0 (enc_SFire c2))), (13, .t (tI c2.Cylinder)), (14, .t (tI pulse)), (15, .agg [.t (tI v), .t (tI kind), .t (tI c2.Cylinder), .t (tI pulse)])], [(1000000, .box [.own 1000001]), (1000001, .rows 44 4 c.length (c.map enc_SEvent))]⟩) [false, true, true, true, true, true, true, true, false, false, false] rfl rfl ?_ A_9 ?_
        · refine TieO.run 1 rfl ?_
          exact TieO.nil (TieS.leaf ⟨rfl, .of rfl rfl⟩)
        exact AllA.nil
      refine TieA.have_ (fuel₁ := 6) (l₁ := [false, true, true, true, true, false, true, false, false, false, false]) (σ₁ := ⟨[(0, .t (tI v_at)), (1, .t (tI kind)), (2, .t (tI pulse)), (3, .ptr 1000000 0), (4, .el (enc_SFire c2)), (9, .t (tI v_at)), (10, .t (tI v)), (11, .t (tI kind)), (12, .el (List.drop 0 (enc_SFire c2))), (14, .t (tI pulse))], [(1000000, .box [.own 1000001]), (1000001, .rows 44 4 c.length (c.map enc_SEvent))]⟩) ?_ fun A_7 => ?_
      · refine TieA.all [0, 5] (by kernel_rfl) rfl ?_
        refine AllA.cons (σ₁ := ⟨[(0, .t (tI v_at)), (1, .t (tI kind)), (2, .t (tI pulse)), (3, .ptr 1000000 0), (4, .el (enc_SFire c2)), (8, .own 1000001), (9, .t (tI v_at)), (10, .t (tI v)), (11, .t (tI kind)), (12, .el (List.drop 0 (enc_SFire c2))), (14, .t (tI pulse))], [(1000000, .box [.own 1000001]), (1000001, .rows 44 4 c.length (c.map enc_SEvent))]⟩) [true, true, true, true, true, false, true, false, false, false, false] rfl rfl ?_ A_2 ?_
        · refine TieO.run 1 rfl ?_
          exact TieO.nil (TieS.leaf ⟨rfl, .of rfl rfl⟩)
        refine AllA.cons (σ₁ := ⟨[(0, .t (tI v_at)), (1, .t (tI kind)), (2, .t (tI pulse)), (3, .ptr 1000000 0), (4, .el (enc_SFire c2)), (9, .t (tI v_at)), (10, .t (tI v)), (11, .t (tI kind)), (12, .el (List.drop 0 (enc_SFire c2))), (13, .t (tI c2.Cylinder)), (14, .t (tI pulse))], [(1000000, .box [.own 1000001]), (1000001, .rows 44 4 c.length (c.map enc_SEvent))]⟩) [false, true, true, true, true, true, true, false, false, false, false] rfl rfl ?_ A_8 ?_
        · refine TieO.run 1 rfl ?_
          exact TieO.nil (TieS.leaf ⟨rfl, .of rfl rfl⟩)
        exact AllA.nil
      refine TieA.have_ (fuel₁ := 6) (l₁ := [false, true, false, true, true, true, true, false, false, false, false]) (σ₁ := ⟨[(0, .t (tI v_at)), (1, .t (tI kind)), (2, .t (tI pulse)), (3, .ptr 1000000 0), (4, .el (enc_SFire c2)), (9, .t (tI v_at)), (11, .t (tI kind)), (12, .el (List.drop 0 (enc_SFire c2))), (13, .t (tI c2.Cylinder)), (14, .t (tI pulse))], [(1000000, .box [.own 1000001]), (1000001, .rows 44 4 c.length (c.map enc_SEvent))]⟩) ?_ fun A_11 => ?_
      · refine TieA.all [0, 2] (by kernel_rfl) rfl ?_
        refine AllA.cons (σ₁ := ⟨[(0, .t (tI v_at)), (1, .t (tI kind)), (2, .t (tI pulse)), (3, .ptr 1000000 0), (4, .el (enc_SFire c2)), (8, .own 1000001), (9, .t (tI v_at)), (11, .t (tI kind)), (12, .el (List.drop 0 (enc_SFire c2))), (13, .t (tI c2.Cylinder)), (14, .t (tI pulse))], [(1000000, .box [.own 1000001]), (1000001, .rows 44 4 c.length (c.map enc_SEvent))]⟩) [true, true, false, true, true, true, true, false, false, false, false] rfl rfl ?_ A_6 ?_
        · refine TieO.run 1 rfl ?_
          exact TieO.nil (TieS.leaf ⟨rfl, .of rfl rfl⟩)
        refine AllA.cons (σ₁ := ⟨[(0, .t (tI v_at)), (1, .t (tI kind)), (2, .t (tI pulse)), (3, .ptr 1000000 0), (4, .el (enc_SFire c2)), (9, .t (tI v_at)), (10, .t (tI v)), (11, .t (tI kind)), (12, .el (List.drop 0 (enc_SFire c2))), (13, .t (tI c2.Cylinder)), (14, .t (tI pulse))], [(1000000, .box [.own 1000001]), (1000001, .rows 44 4 c.length (c.map enc_SEvent))]⟩) [false, true, true, true, true, true, true, false, false, false, false] rfl rfl ?_ A_8 ?_
        · refine TieO.withH hv (TieO.call _ rfl rfl rfl (tie_arith_Mod v_at 46080) (fun _ => rfl) (TieO.ifH ?_))
          exact TieO.nil (TieS.leaf ⟨rfl, .of rfl rfl⟩)
        exact AllA.nil
      refine TieA.move 1 [false, true, false, false, false, false, false, false, false, false, false] rfl rfl (by first | exact .inl rfl | exact .inr rfl) rfl rfl rfl (by kernel_rfl) (by kernel_rfl) (by kernel_rfl) rfl ?_
      refine TieA.move 3 [false, true, false, true, false, false, false, false, false, false, false] rfl rfl (by first | exact .inl rfl | exact .inr rfl) rfl rfl rfl (by kernel_rfl) (by kernel_rfl) (by kernel_rfl) rfl ?_
      refine TieA.fieldE 4 [false, true, false, true, true, false, false, false, false, false, false] rfl rfl rfl rfl rfl rfl (by kernel_rfl) (by kernel_rfl) (by kernel_rfl) rfl rfl rfl ?_
      refine TieA.move 6 [false, true, false, true, true, false, true, false, false, false, false] rfl rfl (by first | exact .inl rfl | exact .inr rfl) rfl rfl rfl (by kernel_rfl) (by kernel_rfl) (by kernel_rfl) rfl ?_
      refine TieA.all [0, 2, 5] (by kernel_rfl) rfl ?_
      refine AllA.cons (σ₁ := ⟨[(0, .t (tI v_at)), (1, .t (tI kind)), (2, .t (tI pulse)), (3, .ptr 1000000 0), (4, .el (enc_SFire c2)), (8, .own 1000001), (9, .t (tI v_at)), (11, .t (tI kind)), (12, .el (List.drop 0 (enc_SFire c2))), (14, .t (tI pulse))], [(1000000, .box [.own 1000001]), (1000001, .rows 44 4 c.length (c.map enc_SEvent))]⟩) [true, true, false, true, true, false, true, false, false, false, false] rfl rfl ?_ A_1 ?_
      · refine TieO.run 1 rfl ?_
        exact TieO.nil (TieS.leaf ⟨rfl, .of rfl rfl⟩)
      refine AllA.cons (σ₁ := ⟨[(0, .t (tI v_at)), (1, .t (tI kind)), (2, .t (tI pulse)), (3, .ptr 1000000 0), (4, .el (enc_SFire c2)), (9, .t (tI v_at)), (10, .t (tI v)), (11, .t (tI kind)), (12, .el (List.drop 0 (enc_SFire c2))), (14, .t (tI pulse))], [(1000000, .box [.own 1000001]), (1000001, .rows 44 4 c.length (c.map enc_SEvent))]⟩) [false, true, true, true, true, false, true, false, false, false, false] rfl rfl ?_ A_7 ?_
      · refine TieO.withH hv (TieO.call _ rfl rfl rfl (tie_arith_Mod v_at 46080) (fun _ => rfl) (TieO.ifH ?_))
        exact TieO.nil (TieS.leaf ⟨rfl, .of rfl rfl⟩)
      refine AllA.cons (σ₁ := ⟨[(0, .t (tI v_at)), (1, .t (tI kind)), (2, .t (tI pulse)), (3, .ptr 1000000 0), (4, .el (enc_SFire c2)), (9, .t (tI v_at)), (11, .t (tI kind)), (12, .el (List.drop 0 (enc_SFire c2))), (13, .t (tI c2.Cylinder)), (14, .t (tI pulse))], [(1000000, .box [.own 1000001]), (1000001, .rows 44 4 c.length (c.map enc_SEvent))]⟩) [false, true, false, true, true, true, true, false, false, false, false] rfl rfl ?_ A_11 ?_
      · refine TieO.run 1 rfl ?_
        exact TieO.nil (TieS.leaf ⟨rfl, .of rfl rfl⟩)
      exact AllA.nil
    refine TieO.sub (σ' := ⟨[(0, .t (tI v_at)), (1, .t (tI kind)), (2, .t (tI pulse)), (3, .ptr 1000000 0), (4, .el (enc_SFire c2)), (8, .own 1000001), (9, .t (tI v_at)), (10, .t (tI v)), (11, .t (tI kind)), (12, .el (List.drop 0 (enc_SFire c2))), (13, .t (tI c2.Cylinder)), (14, .t (tI pulse)), (15, .agg [.t (tI v), .t (tI kind), .t (tI c2.Cylinder), .t (tI pulse)]), (16, .own 16)], [(16, .rows 44 4 ([(⟨v, kind, c2.Cylinder, pulse⟩ : SEvent)] : List SEvent).length (([(⟨v, kind, c2.Cylinder, pulse⟩ : SEvent)] : List SEvent).map enc_SEvent)), (1000000, .box [.own 1000001]), (1000001, .rows 44 4 c.length (c.map enc_SEvent))]⟩) (.of rfl rfl) ?_
    refine TieO.ren [(16, 16), (1000000, 1000000), (1000001, 2136)] rfl rfl rfl ?_
    refine TieO.appendY (id := 2136) (l := c) (r := ([(⟨v, kind, c2.Cylinder, pulse⟩ : SEvent)] : List SEvent)) (tm' := [(0, .t (tI v_at)), (1, .t (tI kind)), (2, .t (tI pulse)), (3, .ptr 1000000 0), (4, .el (enc_SFire c2)), (9, .t (tI v_at)), (10, .t (tI v)), (11, .t (tI kind)), (12, .el (List.drop 0 (enc_SFire c2))), (13, .t (tI c2.Cylinder)), (14, .t (tI pulse)), (15, .agg [.t (tI v), .t (tI kind), .t (tI c2.Cylinder), .t (tI pulse)]), (16, .own 16)]) (hp' := [(16, .rows 44 4 ([(⟨v, kind, c2.Cylinder, pulse⟩ : SEvent)] : List SEvent).length (([(⟨v, kind, c2.Cylinder, pulse⟩ : SEvent)] : List SEvent).map enc_SEvent)), (1000000, .box [.any])]) rfl rfl rfl rfl rfl rfl rfl (fun _ => rfl) (fun _ => rfl) (.inl ⟨rfl, rfl⟩) (.inr ⟨_, rfl, rfl⟩) (.of rfl rfl) rfl rfl rfl fun l => ?_
    refine TieO.run 1 rfl ?_
    refine TieO.nil ?_
    exact TieS.leaf ⟨rfl, .of rfl rfl⟩
  rintro f2 e σ' _ ⟨rfl, hs⟩
  refine TieX.sub hs ?_
  exact TieS.leaf ⟨.inr rfl, ⟨[(2136, 900000), (1000000, 1000000)], _, _, rfl, rfl, rfl, rfl, rfl⟩⟩
-- magneto/events.Plan$4
set_option maxRecDepth 100000 in
theorem tie_events_Plan_4 (d : Int) (c : Int) : TieF Try.prog 48 [.t (tI d), .el (Pv.encI c)] (events_Plan_4 d c) (fun r => .t (tI r)) := by
  refine TieF.intro htab 8 [.tmp 3] Try.call48 Try.func48 rfl rfl rfl (Nat.le_of_ble_eq_true rfl) fun w0 L => ?_
  refine TieS.seq ?_
  refine TieS.region ?_
  refine TieO.run 1 rfl ?_
  refine TieO.nil ?_
  refine TieS.seq ?_
  refine TieS.region ?_
  refine TieO.run 3 rfl ?_
  refine TieO.quo rfl rfl rfl rfl rfl rfl fun q => ?_
  refine TieO.run 1 rfl ?_
  refine TieO.nil ?_
  exact TieS.ret ⟨.inl rfl, rfl⟩
-- slices.SortFunc[[]magneto/api.Event,magneto/api.Event]
set_option maxRecDepth 100000 in
def sortL49_ren : Go.Shelf.Ren := ⟨fun | 6 => 49 | 14 => 66 | 15 => 63 | 20 => 83 | 21 => 84 | 22 => 85 | 23 => 86 | 24 => 87 | 25 => 88 | 26 => 89 | 27 => 90 | 28 => 81 | 29 => 82 | 46 => 98 | 47 => 94 | 48 => 95 | 49 => 99 | 50 => 100 | 57 => 103 | n => n, fun | 0 => 0 | 3 => 3 | 4 => 4 | 5 => 5 | 9 => 9 | 22 => 37 | 24 => 44 | 25 => 50 | 39 => 82 | 45 => 91 | 46 => 92 | 50 => 52 | 53 => 99 | 55 => 101 | 66 => 109 | 70 => 113 | 76 => 117 | 77 => 118 | n => n, fun  | n => n⟩
open Go.Shelf in
theorem sortL49 : SlLaysF0.n6 Try.prog sortL49_ren := {
  mixed := by kernel_rfl,
  f6 := ⟨Try.f49.name, by decide, Try.func49.trans (congrArg some (by kernel_rfl))⟩,
  f14 := ⟨Try.f66.name, by decide, Try.func66.trans (congrArg some (by kernel_rfl))⟩,
  f15 := Try.func63.trans (congrArg some (by kernel_rfl)),
  f20 := ⟨Try.f83.name, by decide, Try.func83.trans (congrArg some (by kernel_rfl))⟩,
  f21 := ⟨Try.f84.name, by decide, Try.func84.trans (congrArg some (by kernel_rfl))⟩,
  f22 := ⟨Try.f85.name, by decide, Try.func85.trans (congrArg some (by kernel_rfl))⟩,
  f23 := ⟨Try.f86.name, by decide, Try.func86.trans (congrArg some (by kernel_rfl))⟩,
  f24 := ⟨Try.f87.name, by decide, Try.func87.trans (congrArg some (by kernel_rfl))⟩,
  f25 := ⟨Try.f88.name, by decide, Try.func88.trans (congrArg some (by kernel_rfl))⟩,
  f26 := ⟨Try.f89.name, by decide, Try.func89.trans (congrArg some (by kernel_rfl))⟩,
  f27 := ⟨Try.f90.name, by decide, Try.func90.trans (congrArg some (by kernel_rfl))⟩,
  f28 := Try.func81.trans (congrArg some (by kernel_rfl)),
  f29 := Try.func82.trans (congrArg some (by kernel_rfl)),
  f46 := ⟨Try.f98.name, by decide, Try.func98.trans (congrArg some (by kernel_rfl))⟩,
  f47 := Try.func94.trans (congrArg some (by kernel_rfl)),
  f48 := Try.func95.trans (congrArg some (by kernel_rfl)),
  f49 := ⟨Try.f99.name, by decide, Try.func99.trans (congrArg some (by kernel_rfl))⟩,
  f50 := ⟨Try.f100.name, by decide, Try.func100.trans (congrArg some (by kernel_rfl))⟩,
  f57 := ⟨Try.f103.name, by decide, Try.func103.trans (congrArg some (by kernel_rfl))⟩,
  t0 := Try.underlying0,
  a0 := Try.isAgg0,
  z0 := Try.sizeOf0,
  v0 := Try.zeroValue0,
  t3 := Try.underlying3,
  a3 := Try.isAgg3,
  z3 := Try.sizeOf3,
  v3 := Try.zeroValue3,
  t4 := Try.underlying4,
  a4 := Try.isAgg4,
  z4 := Try.sizeOf4,
  v4 := Try.zeroValue4,
  t5 := Try.underlying5,
  a5 := Try.isAgg5,
  z5 := Try.sizeOf5,
  v5 := Try.zeroValue5,
  t9 := Try.underlying9,
  a9 := Try.isAgg9,
  z9 := Try.sizeOf9,
  v9 := Try.zeroValue9,
  t22 := Try.underlying37,
  a22 := Try.isAgg37,
  z22 := Try.sizeOf37,
  v22 := Try.zeroValue37,
  t25 := Try.underlying50,
  a25 := Try.isAgg50,
  z25 := Try.sizeOf50,
  v25 := Try.zeroValue50,
  t39 := Try.underlying82,
  a39 := Try.isAgg82,
  z39 := Try.sizeOf82,
  v39 := Try.zeroValue82,
  t45 := Try.underlying91,
  a45 := Try.isAgg91,
  z45 := Try.sizeOf91,
  v45 := Try.zeroValue91,
  t46 := Try.underlying92,
  a46 := Try.isAgg92,
  z46 := Try.sizeOf92,
  v46 := Try.zeroValue92,
  t50 := Try.underlying52,
  a50 := Try.isAgg52,
  z50 := Try.sizeOf52,
  v50 := Try.zeroValue52,
  t53 := Try.underlying99,
  a53 := Try.isAgg99,
  z53 := Try.sizeOf99,
  v53 := Try.zeroValue99,
  t55 := Try.underlying101,
  a55 := Try.isAgg101,
  z55 := Try.sizeOf101,
  v55 := Try.zeroValue101,
  t66 := Try.underlying109,
  a66 := Try.isAgg109,
  z66 := Try.sizeOf109,
  v66 := Try.zeroValue109,
  t70 := Try.underlying113,
  a70 := Try.isAgg113,
  z70 := Try.sizeOf113,
  v70 := Try.zeroValue113,
  t76 := Try.underlying117,
  a76 := Try.isAgg117,
  z76 := Try.sizeOf117,
  v76 := Try.zeroValue117,
  t77 := Try.underlying118,
  a77 := Try.isAgg118,
  z77 := Try.sizeOf118,
  v77 := Try.zeroValue118 }
theorem tie_slices_SortFunc_sEvent (s : List SEvent) (n : Nat) (cs : List (List Tree)) (f : SEvent → SEvent → Option Int) (h : ∀ x0 x1, TieF Try.prog n ([A_SEvent x0, A_SEvent x1] ++ cs.map T.el) (f x0 x1) (fun r => .t (tI r))) :
    TieG Try.prog 49 [.own 1000000, .fz n cs] [(1000000, .rows 44 4 s.length (s.map enc_SEvent))] (slices_SortFunc_sEvent s f) (fun _ => .tup []) (fun r => [(1000000, .rows 44 4 r.length (r.map enc_SEvent))]) :=
  sortFunc_tie (E := SEvent) (enc := enc_SEvent) (ρ := sortL49_ren) sortL49 (k := 4) (fun x => [.int .i64 x.Angle, .int .i64 x.Kind, .int .i64 x.Cylinder, .int .i64 x.Pulse]) (fun _ => rfl) (fun _ => rfl) (fun x v hv => by simp only [List.mem_cons, List.not_mem_nil, or_false] at hv; rcases hv with rfl | rfl | rfl | rfl <;> rfl) (fun w => Try.isAgg44 w) (fun w => Try.sizeOf44 w) (A := A_SEvent) (fun _ => rfl) f h s
-- cmp.isNaN[int]
set_option maxRecDepth 100000 in
theorem tie_cmp_isNaN_int (x : Int) : TieF Try.prog 71 [.t (tI x)] (cmp_isNaN_int x) (fun r => .t (tB r)) := by
  refine TieF.intro htab 6 [.tmp 2] Try.call71 Try.func71 rfl rfl rfl (Nat.le_of_ble_eq_true rfl) fun w0 L => ?_
  refine TieS.seq ?_
  refine TieS.region ?_
  refine TieO.run 1 rfl ?_
  refine TieO.nil ?_
  refine TieS.seq ?_
  refine TieS.region ?_
  refine TieO.run 4 rfl ?_
  refine TieO.nil ?_
  exact TieS.ret ⟨.inl rfl, rfl⟩
-- cmp.Compare[int]
set_option maxRecDepth 100000 in
theorem tie_cmp_Compare_int (x : Int) (y : Int) : TieF Try.prog 59 [.t (tI x), .t (tI y)] (cmp_Compare_int x y) (fun r => .t (tI r)) := by
  refine TieF.intro htab 20 [.tmp 4] Try.call59 Try.func59 rfl rfl rfl (Nat.le_of_ble_eq_true rfl) fun w0 L => ?_
  refine TieS.seq ?_
  refine TieS.region ?_
  refine TieO.run 1 rfl ?_
  refine TieO.nil ?_
  refine TieS.seq ?_
  refine TieS.region ?_
  refine TieO.run 1 rfl ?_
  refine TieO.call _ rfl rfl rfl (tie_cmp_isNaN_int x) (fun _ => rfl) fun v => ?_
  refine TieO.run 1 rfl ?_
  refine TieO.nil ?_
  refine TieS.seq ?_
  refine TieS.region ?_
  refine TieO.run 1 rfl ?_
  refine TieO.call _ rfl rfl rfl (tie_cmp_isNaN_int y) (fun _ => rfl) fun v2 => ?_
  refine TieO.run 1 rfl ?_
  refine TieO.nil ?_
  refine TieS.seq ?_
  refine TieS.seq ?_
  refine TieS.region ?_
  refine TieO.run 1 rfl ?_
  refine TieO.nil ?_
  refine TieS.cond rfl ?_ ?_
  · refine TieS.seq ?_
    refine TieS.seq ?_
    refine TieS.region ?_
    refine TieO.run 1 rfl ?_
    refine TieO.nil ?_
    refine TieS.cond rfl ?_ ?_
    · refine TieS.seq ?_
      refine TieS.region ?_
      refine TieO.run 1 rfl ?_
      refine TieO.nil ?_
      exact TieS.ret ⟨.inl rfl, rfl⟩
    · refine TieS.skip ?_
      refine TieS.seq ?_
      refine TieS.region ?_
      refine TieO.run 1 rfl ?_
      refine TieO.nil ?_
      exact TieS.ret ⟨.inl rfl, rfl⟩
  · refine TieS.skip ?_
    refine TieS.seq ?_
    refine TieS.seq ?_
    refine TieS.region ?_
    refine TieO.run 1 rfl ?_
    refine TieO.nil ?_
    refine TieS.cond rfl ?_ ?_
    · refine TieS.seq ?_
      refine TieS.region ?_
      refine TieO.run 1 rfl ?_
      refine TieO.nil ?_
      exact TieS.ret ⟨.inl rfl, rfl⟩
    · refine TieS.skip ?_
      refine TieS.seq ?_
      refine TieS.seq ?_
      refine TieS.region ?_
      refine TieO.run 3 rfl ?_
      refine TieO.nil ?_
      refine TieS.cond rfl ?_ ?_
      · refine TieS.seq ?_
        refine TieS.region ?_
        refine TieO.run 1 rfl ?_
        refine TieO.nil ?_
        exact TieS.ret ⟨.inl rfl, rfl⟩
      · refine TieS.skip ?_
        refine TieS.seq ?_
        refine TieS.seq ?_
        refine TieS.region ?_
        refine TieO.run 3 rfl ?_
        refine TieO.nil ?_
        refine TieS.cond rfl ?_ ?_
        · refine TieS.seq ?_
          refine TieS.region ?_
          refine TieO.run 1 rfl ?_
          refine TieO.nil ?_
          exact TieS.ret ⟨.inl rfl, rfl⟩
        · refine TieS.skip ?_
          refine TieS.seq ?_
          refine TieS.region ?_
          refine TieO.run 1 rfl ?_
          refine TieO.nil ?_
          exact TieS.ret ⟨.inl rfl, rfl⟩
-- cmp.Or[int]
set_option maxRecDepth 100000 in
theorem tie_cmp_Or_int (vals : List Int) : TieF Try.prog 67 [.t (tS Pv.encI vals)] (cmp_Or_int vals) (fun r => .t (tI r)) := by
  refine TieF.intro htab 18 [.tmp 2] Try.call67 Try.func67 rfl rfl rfl (Nat.le_of_ble_eq_true rfl) fun w0 L => ?_
  refine TieS.seq ?_
  refine TieS.region ?_
  refine TieO.run 1 rfl ?_
  refine TieO.nil ?_
  refine TieS.seq ?_
  refine TieS.region ?_
  refine TieO.run 1 rfl ?_
  refine TieO.nil ?_
  refine TieS.seq ?_
  refine TieS.seq ?_
  refine TieS.region ?_
  refine TieO.run 3 rfl ?_
  refine TieO.nil ?_
  refine TieS.block ?_
  refine TieS.loop (fun p => ⟨[(3, .t (tI 0)), (6, .t (tS Pv.encI vals)), (7, .t (tI (vals.length : Int))), (8, .t (tI p.1))], []⟩) (fun b e σ' => match b with | .inl t => e = .exit 0 ∧ Sub ⟨[(3, .t (tI 0))], []⟩ σ' | .inr t => e = .ret ∧ retT tab σ' [.tmp 2] = some (((fun r => .t (tI r)) : Int → T) t)) (.of rfl rfl) ?_ ?_
  · rintro ⟨i, s⟩
    refine TieS.seq ?_
    refine TieS.region ?_
    refine TieO.run 1 rfl ?_
    refine TieO.nil ?_
    refine TieS.seq ?_
    refine TieS.cond rfl ?_ ?_
    · refine TieS.skip ?_
      refine TieS.seq ?_
      refine TieX.pre fun x hx => ?_
      refine TieX.sub (σ' := ⟨[(3, .t (tI 0)), (6, .t (tS Pv.encI vals)), (7, .t (tI (vals.length : Int))), (8, .t (tI i))], []⟩) (.of rfl rfl) ?_
      refine TieS.bind (Q₁ := fun f e σ' => match f with | .next t => e = .normal ∧ Sub ⟨[(3, .t (tI 0)), (6, .t (tS Pv.encI vals)), (7, .t (tI (vals.length : Int))), (8, .t (tI i))], []⟩ σ' | .brk t => e = .exit 0 ∧ Sub ⟨[(3, .t (tI 0))], []⟩ σ' | .ret t => e = .ret ∧ retT tab σ' [.tmp 2] = some (((fun r => .t (tI r)) : Int → T) t)) ?_ ?_
      · refine TieS.block ?_
        refine TieS.seq ?_
        refine TieS.region ?_
        refine TieO.indexH hx rfl rfl rfl rfl rfl rfl rfl rfl (fun _ => rfl) ?_
        refine TieO.run 2 rfl ?_
        refine TieO.nil ?_
        refine TieS.seq ?_
        refine TieS.region ?_
        refine TieO.run 3 rfl ?_
        refine TieO.nil ?_
        refine TieS.cond rfl ?_ ?_
        · refine TieS.seq ?_
          refine TieS.region ?_
          refine TieO.run 2 rfl ?_
          refine TieO.nil ?_
          exact TieS.ret ⟨rfl, rfl⟩
        · refine TieS.skip ?_
          refine TieS.endb ?_
          exact TieS.leaf ⟨rfl, .of rfl rfl⟩
      rintro (t | t | t) e σ' _ hq
      · obtain ⟨rfl, hs⟩ := hq
        refine TieX.sub hs ?_
        refine TieS.region ?_
        refine TieO.run 2 rfl ?_
        refine TieO.nil ?_
        exact TieS.leaf ⟨rfl, .of rfl rfl⟩
      · obtain ⟨rfl, hs⟩ := hq
        exact TieX.exitOut rfl ⟨(fun h => by cases h), rfl, hs⟩
      · obtain ⟨rfl, hs⟩ := hq
        exact TieX.ret ⟨(fun h => by cases h), rfl, hs⟩
    · exact TieS.exitOut rfl ⟨(fun h => by cases h), rfl, .of rfl rfl⟩
  rintro (s2 | r2) e σ' _ hq
  · obtain ⟨rfl, hs⟩ := hq
    refine TieX.exit rfl (TieX.sub hs ?_)
    refine TieS.seq ?_
    refine TieS.region ?_
    refine TieO.run 2 rfl ?_
    refine TieO.nil ?_
    exact TieS.ret ⟨.inl rfl, rfl⟩
  · obtain ⟨rfl, hs⟩ := hq
    exact TieX.ret ⟨.inl rfl, hs⟩
-- magneto/events.order
set_option maxRecDepth 100000 in
theorem tie_events_order (a : SEvent) (b2 : SEvent) : TieF Try.prog 50 [A_SEvent a, A_SEvent b2] (events_order a b2) (fun r => .t (tI r)) := by
  refine TieF.intro htab 27 [.tmp 4] Try.call50 Try.func50 rfl rfl rfl (Nat.le_of_ble_eq_true rfl) fun w0 L => ?_
  refine TieS.seq ?_
  refine TieS.region ?_
  refine TieO.run 3 rfl ?_
  refine TieO.nil ?_
  refine TieS.seq ?_
  refine TieX.pre fun v hv => ?_
  refine TieX.pre fun v2 hv2 => ?_
  refine TieX.pre fun v3 hv3 => ?_
  refine TieX.pre fun v4 hv4 => ?_
  refine TieS.draw 20 [.ptr 2 0, .t (tI a.Angle), .ptr 3 0, .t (tI b2.Angle), .t (tI v), .ptr 2 2, .t (tI a.Cylinder), .ptr 3 2, .t (tI b2.Cylinder), .t (tI v2), .ptr 2 1, .t (tI a.Kind), .ptr 3 1, .t (tI b2.Kind), .t (tI v3), .ptr 2 3, .t (tI a.Pulse), .ptr 3 3, .t (tI b2.Pulse), .t (tI v4)] [(2, .ptr 2 0), (3, .ptr 3 0), (4, .t (tI 0))] [(2, .box [.t (tI a.Angle), .t (tI a.Kind), .t (tI a.Cylinder), .t (tI a.Pulse)]), (3, .box [.t (tI b2.Angle), .t (tI b2.Kind), .t (tI b2.Cylinder), .t (tI b2.Pulse)])] mixed (.of rfl rfl) rfl rfl rfl rfl (.cons (.quiet rfl rfl rfl) (.cons (.quiet rfl rfl rfl) (.cons (.quiet rfl rfl rfl) (.cons (.quiet rfl rfl rfl) (.cons (.callV (tie_cmp_Compare_int a.Angle b2.Angle) hv rfl rfl rfl rfl) (.cons (.quiet rfl rfl rfl) (.cons (.quiet rfl rfl rfl) (.cons (.quiet rfl rfl rfl) (.cons (.quiet rfl rfl rfl) (.cons (.callV (tie_cmp_Compare_int a.Cylinder b2.Cylinder) hv2 rfl rfl rfl rfl) (.cons (.quiet rfl rfl rfl) (.cons (.quiet rfl rfl rfl) (.cons (.quiet rfl rfl rfl) (.cons (.quiet rfl rfl rfl) (.cons (.callV (tie_cmp_Compare_int a.Kind b2.Kind) hv3 rfl rfl rfl rfl) (.cons (.quiet rfl rfl rfl) (.cons (.quiet rfl rfl rfl) (.cons (.quiet rfl rfl rfl) (.cons (.quiet rfl rfl rfl) (.cons (.callV (tie_cmp_Compare_int a.Pulse b2.Pulse) hv4 rfl rfl rfl rfl) (.nil))))))))))))))))))))) ?_
  refine TieO.run 1 rfl ?_
  refine TieO.callS _ rfl rfl rfl (tie_cmp_Or_int ([v, v2, v3, v4] : List Int)) (fun _ => rfl) (fun _ => rfl) fun v5 => ?_
  refine TieO.run 1 rfl ?_
  refine TieO.nil ?_
  exact TieS.ret ⟨.inl rfl, rfl⟩
-- magneto/events.Plan
set_option maxRecDepth 100000 in
set_option maxHeartbeats 4000000 in
theorem tie_events_Plan (e2 : SEngine) (l : List SFire) (ticks : Int) : TieF Try.prog 21 [A_SEngine e2, .t (tS enc_SFire l), .t (tI ticks)] (events_Plan e2 l ticks) (fun r => .tup [.t (tS enc_SEvent r.1), .t (tI r.2)]) := by
  refine TieF.intro htab 134 [.tmp 6, .tmp 7] Try.call21 Try.func21 rfl rfl rfl (Nat.le_of_ble_eq_true rfl) fun w0 L => ?_
  refine TieS.seq ?_
  refine TieS.region ?_
  refine TieO.run 4 rfl ?_
  refine TieO.nil ?_
  refine TieS.seq ?_
  refine TieS.seq ?_
  refine TieS.region ?_
  refine TieO.run 1 rfl ?_
  refine TieO.call _ rfl rfl rfl (tie_events_Valid e2) (fun _ => rfl) fun v => ?_
  refine TieO.run 2 rfl ?_
  refine TieO.frzBox 3 rfl rfl ?_
  refine TieO.bind 4 (fun b2 => ⟨[(1, .t (tS enc_SFire l)), (3, .el (enc_SEngine e2)), (5, .ptr 5 0), (26, .t (tB b2))], [(5, .box [.t (tI ticks)])]⟩) (TieO.split 22 rfl ?_ ?_) fun b2 _ => ?_
  · refine TieO.run 4 rfl ?_
    refine TieO.nil ?_
    exact TieS.leaf ⟨rfl, .of rfl rfl⟩
  · refine TieO.run 1 rfl ?_
    refine TieO.run 1 rfl ?_
    refine TieO.sub (σ' := ⟨[(0, .agg [.t (tS Pv.encI e2.Order), .t (tI e2.First)]), (1, .t (tS enc_SFire l)), (2, .t (tI ticks)), (3, .el (enc_SEngine e2)), (5, .ptr 5 0), (6, .t (.v (.slice none 0 0))), (7, .t (tI 0)), (19, .agg [.t (tS Pv.encI e2.Order), .t (tI e2.First)]), (20, .t (tB v)), (21, .t (tB (!v))), (22, .t (tB false)), (23, .t (tS enc_SFire l)), (24, .fz 44 [enc_SEngine e2])], [(5, .box [.t (tI ticks)])]⟩) (.of rfl rfl) ?_
    refine TieO.call _ rfl rfl rfl (tie_slices_ContainsFunc_sFire l 44 [enc_SEngine e2] (fun x0 => events_Plan_1 x0 e2) (fun x0 => tie_events_Plan_1 x0 e2)) (fun _ => rfl) fun v2 => ?_
    refine TieO.run 1 rfl ?_
    refine TieO.nil ?_
    exact TieS.leaf ⟨rfl, .of rfl rfl⟩
  refine TieO.nil ?_
  refine TieS.cond rfl ?_ ?_
  · refine TieS.seq ?_
    refine TieS.region ?_
    refine TieO.run 2 rfl ?_
    refine TieO.nil ?_
    exact TieS.ret ⟨.inl rfl, rfl⟩
  · refine TieS.skip ?_
    refine TieS.seq ?_
    refine TieS.seq ?_
    refine TieS.region ?_
    refine TieO.run 1 rfl ?_
    refine TieO.call _ rfl rfl rfl (tie_events_within ticks 4000 1000000) (fun _ => rfl) fun v3 => ?_
    refine TieO.run 1 rfl ?_
    refine TieO.nil ?_
    refine TieS.cond rfl ?_ ?_
    · refine TieS.seq ?_
      refine TieS.region ?_
      refine TieO.run 2 rfl ?_
      refine TieO.nil ?_
      exact TieS.ret ⟨.inl rfl, rfl⟩
    · refine TieS.skip ?_
      refine TieS.seq ?_
      refine TieS.seq ?_
      refine TieS.region ?_
      refine TieO.run 3 rfl ?_
      refine TieO.nil ?_
      refine TieS.block ?_
      refine TieS.loop (fun p => ⟨[(1, .t (tS enc_SFire l)), (3, .el (enc_SEngine e2)), (5, .ptr 5 0), (30, .t (tS enc_SFire l)), (31, .t (tI (l.length : Int))), (32, .t (tI p.1))], [(5, .box [.t (tI ticks)])]⟩) (fun b e σ' => match b with | .inl t => e = .exit 0 ∧ Sub ⟨[(1, .t (tS enc_SFire l)), (3, .el (enc_SEngine e2)), (5, .ptr 5 0)], [(5, .box [.t (tI ticks)])]⟩ σ' | .inr t => e = .ret ∧ retT tab σ' [.tmp 6, .tmp 7] = some (((fun r => .tup [.t (tS enc_SEvent r.1), .t (tI r.2)]) : (List SEvent × Int) → T) t)) (.of rfl rfl) ?_ ?_
      · rintro ⟨i, s⟩
        refine TieS.seq ?_
        refine TieS.region ?_
        refine TieO.run 1 rfl ?_
        refine TieO.nil ?_
        refine TieS.seq ?_
        refine TieS.cond rfl ?_ ?_
        · refine TieS.skip ?_
          refine TieS.seq ?_
          refine TieX.sub (σ' := ⟨[(1, .t (tS enc_SFire l)), (3, .el (enc_SEngine e2)), (5, .ptr 5 0), (30, .t (tS enc_SFire l)), (31, .t (tI (l.length : Int))), (32, .t (tI i))], [(5, .box [.t (tI ticks)])]⟩) (.of rfl rfl) ?_
          refine TieS.bind (Q₁ := fun f e σ' => match f with | .next t => e = .normal ∧ Sub ⟨[(1, .t (tS enc_SFire l)), (3, .el (enc_SEngine e2)), (5, .ptr 5 0), (30, .t (tS enc_SFire l)), (31, .t (tI (l.length : Int))), (32, .t (tI i))], [(5, .box [.t (tI ticks)])]⟩ σ' | .brk t => e = .exit 0 ∧ Sub ⟨[(1, .t (tS enc_SFire l)), (3, .el (enc_SEngine e2)), (5, .ptr 5 0)], [(5, .box [.t (tI ticks)])]⟩ σ' | .ret t => e = .ret ∧ retT tab σ' [.tmp 6, .tmp 7] = some (((fun r => .tup [.t (tS enc_SEvent r.1), .t (tI r.2)]) : (List SEvent × Int) → T) t)) ?_ ?_
          · refine TieS.block ?_
            refine TieS.seq ?_
            refine TieS.region ?_
            refine TieO.run 1 rfl ?_
            refine TieO.index rfl rfl rfl rfl rfl rfl rfl rfl (fun _ => rfl) fun x hx => ?_
            refine TieO.run 4 rfl ?_
            refine TieO.nil ?_
            refine TieS.seq ?_
            refine TieS.region ?_
            refine TieO.run 2 rfl ?_
            refine TieO.sliceF rfl rfl rfl rfl rfl rfl rfl (fun _ => rfl) rfl rfl fun l2 hl2 => ?_
            refine TieO.frzBox 9 rfl rfl ?_
            refine TieO.run 1 rfl ?_
            refine TieO.sub (σ' := ⟨[(1, .t (tS enc_SFire l)), (3, .el (enc_SEngine e2)), (5, .ptr 5 0), (8, .t (tI i)), (9, .el (enc_SFire x)), (30, .t (tS enc_SFire l)), (31, .t (tI (l.length : Int))), (32, .t (tI i)), (34, .t (tI i)), (35, .el (enc_SFire x)), (36, .agg [.t (tI x.Cylinder), .t (tI x.Spark), .t (tI x.Dwell), .t (tI x.End), .t (tI x.Inject), .t (tI x.Gap), .t (tI x.Extra)]), (37, .t (tS enc_SFire l)), (38, .t (tI i)), (39, .t (tS enc_SFire l2)), (40, .fz 45 [enc_SFire x])], [(5, .box [.t (tI ticks)])]⟩) (.of rfl rfl) ?_
            refine TieO.call _ rfl rfl rfl (tie_slices_ContainsFunc_sFire l2 45 [enc_SFire x] (fun x0 => events_Plan_2 x0 x) (fun x0 => tie_events_Plan_2 x0 x)) (fun _ => rfl) fun v4 => ?_
            refine TieO.nil ?_
            refine TieS.cond rfl ?_ ?_
            · refine TieS.seq ?_
              refine TieS.region ?_
              refine TieO.run 2 rfl ?_
              refine TieO.nil ?_
              exact TieS.ret ⟨rfl, rfl⟩
            · refine TieS.skip ?_
              refine TieS.endb ?_
              exact TieS.leaf ⟨rfl, .of rfl rfl⟩
          rintro (t | t | t) e σ' _ hq
          · obtain ⟨rfl, hs⟩ := hq
            refine TieX.sub hs ?_
            refine TieS.region ?_
            refine TieO.run 2 rfl ?_
            refine TieO.nil ?_
            exact TieS.leaf ⟨rfl, .of rfl rfl⟩
          · obtain ⟨rfl, hs⟩ := hq
            exact TieX.exitOut rfl ⟨(fun h => by cases h), rfl, hs⟩
          · obtain ⟨rfl, hs⟩ := hq
            exact TieX.ret ⟨(fun h => by cases h), rfl, hs⟩
        · exact TieS.exitOut rfl ⟨(fun h => by cases h), rfl, .of rfl rfl⟩
      rintro (s2 | r4) e σ' _ hq
      · obtain ⟨rfl, hs⟩ := hq
        refine TieX.exit rfl (TieX.sub hs ?_)
        refine TieS.seq ?_
        refine TieS.region ?_
        refine TieO.run 1 rfl ?_
        refine TieO.nil ?_
        refine TieS.seq ?_
        refine TieS.seq ?_
        refine TieS.region ?_
        refine TieO.run 3 rfl ?_
        refine TieO.nil ?_
        refine TieS.block ?_
        refine TieX.frzBox 5 rfl rfl ?_
        refine TieX.nilB 10 3032 44 4 [0] rfl rfl rfl rfl rfl ?_
        refine TieS.loop (fun p => ⟨[(3, .el (enc_SEngine e2)), (5, .el (Pv.encI ticks)), (10, .ptr 10 0), (43, .t (tS enc_SFire l)), (44, .t (tI (l.length : Int))), (45, .t (tI p.1))], [(10, .box [.own 3032]), (3032, .rows 44 4 p.2.length (p.2.map enc_SEvent))]⟩) (fun b e σ' => match b with | .inl t => e = .exit 2 ∧ Sub ⟨[(10, .ptr 10 0)], [(10, .box [.own 3032]), (3032, .rows 44 4 t.length (t.map enc_SEvent))]⟩ σ' | .inr t => e = .ret ∧ retT tab σ' [.tmp 6, .tmp 7] = some (((fun r => .tup [.t (tS enc_SEvent r.1), .t (tI r.2)]) : (List SEvent × Int) → T) t)) (.of rfl rfl) ?_ ?_
        · rintro ⟨i2, f2⟩
          refine TieS.seq ?_
          refine TieS.region ?_
          refine TieO.run 1 rfl ?_
          refine TieO.nil ?_
          refine TieS.seq ?_
          refine TieS.cond rfl ?_ ?_
          · refine TieS.skip ?_
            refine TieS.seq ?_
            refine TieX.pre fun x2 hx2 => ?_
            refine TieX.sub (σ' := ⟨[(3, .el (enc_SEngine e2)), (5, .el (Pv.encI ticks)), (10, .ptr 10 0), (43, .t (tS enc_SFire l)), (44, .t (tI (l.length : Int))), (45, .t (tI i2))], [(10, .box [.own 3032]), (3032, .rows 44 4 f2.length (f2.map enc_SEvent))]⟩) (.of rfl rfl) ?_
            refine TieS.bind (Q₁ := fun f e σ' => match f with | .next t => e = .normal ∧ Sub ⟨[(3, .el (enc_SEngine e2)), (5, .el (Pv.encI ticks)), (10, .ptr 10 0), (43, .t (tS enc_SFire l)), (44, .t (tI (l.length : Int))), (45, .t (tI i2))], [(10, .box [.own 3032]), (3032, .rows 44 4 t.length (t.map enc_SEvent))]⟩ σ' | .brk t => e = .exit 2 ∧ Sub ⟨[(10, .ptr 10 0)], [(10, .box [.own 3032]), (3032, .rows 44 4 t.length (t.map enc_SEvent))]⟩ σ' | .ret t => e = .ret ∧ retT tab σ' [.tmp 6, .tmp 7] = some (((fun r => .tup [.t (tS enc_SEvent r.1), .t (tI r.2)]) : (List SEvent × Int) → T) t)) ?_ ?_
            · refine TieS.block ?_
              refine TieS.seq ?_
              refine TieS.region ?_
              refine TieO.indexH hx2 rfl rfl rfl rfl rfl rfl rfl rfl (fun _ => rfl) ?_
              refine TieO.run 3 rfl ?_
              refine TieO.nil ?_
              refine TieS.seq ?_
              refine TieS.region ?_
              refine TieO.run 3 rfl ?_
              refine TieO.call _ rfl rfl rfl (tie_events_center e2 x2.Cylinder) (fun _ => rfl) fun r2 => ?_
              refine TieO.run 5 rfl ?_
              refine TieO.nil ?_
              refine TieS.seq ?_
              refine TieS.region ?_
              refine TieO.frzBox 12 rfl rfl ?_
              refine TieO.run 1 rfl ?_
              refine TieO.run 1 rfl ?_
              refine TieO.nil ?_
              refine TieS.seq ?_
              refine TieS.region ?_
              refine TieO.run 1 rfl ?_
              refine TieO.sub (σ' := ⟨[(3, .el (enc_SEngine e2)), (5, .el (Pv.encI ticks)), (10, .ptr 10 0), (12, .el (enc_SFire x2)), (13, .t (tI r2.1)), (14, .t (tB r2.2)), (15, .clo 46 [.ptr 10 0, .el (enc_SFire x2)]), (43, .t (tS enc_SFire l)), (44, .t (tI (l.length : Int))), (45, .t (tI i2)), (47, .el (enc_SFire x2)), (48, .agg [.t (tI x2.Cylinder), .t (tI x2.Spark), .t (tI x2.Dwell), .t (tI x2.End), .t (tI x2.Inject), .t (tI x2.Gap), .t (tI x2.Extra)]), (49, .tup [.t (tI r2.1), .t (tB r2.2)]), (50, .agg [.t (tS Pv.encI e2.Order), .t (tI e2.First)]), (51, .el (enc_SFire x2)), (52, .t (tI x2.Cylinder)), (53, .tup [.t (tI r2.1), .t (tB r2.2)]), (54, .t (tI r2.1)), (55, .t (tB r2.2)), (56, .clo 46 [.ptr 10 0, .el (enc_SFire x2)]), (57, .fz 48 [Pv.encI ticks])], [(10, .box [.own 3032]), (3032, .rows 44 4 f2.length (f2.map enc_SEvent))]⟩) (.of rfl rfl) ?_
              refine TieO.run 1 rfl ?_
              refine TieO.nil ?_
              refine TieS.seq ?_
              refine TieS.region ?_
              refine TieO.run 5 rfl ?_
              refine TieO.nil ?_
              refine TieS.seq ?_
              refine TieS.region ?_
              refine TieO.run 2 rfl ?_
              refine TieO.callG [(1000000, 10), (1000001, 3032)] [(900000, 2512)] (fun v5 => ⟨[(3, .el (enc_SEngine e2)), (5, .el (Pv.encI ticks)), (10, .ptr 10 0), (12, .el (enc_SFire x2)), (13, .t (tI r2.1)), (14, .t (tB r2.2)), (15, .clo 46 [.ptr 10 0, .el (enc_SFire x2)]), (16, .fz 48 [Pv.encI ticks]), (17, .t (tI (w64 (r2.1 - x2.Spark)))), (43, .t (tS enc_SFire l)), (44, .t (tI (l.length : Int))), (45, .t (tI i2)), (47, .el (enc_SFire x2)), (48, .agg [.t (tI x2.Cylinder), .t (tI x2.Spark), .t (tI x2.Dwell), .t (tI x2.End), .t (tI x2.Inject), .t (tI x2.Gap), .t (tI x2.Extra)]), (49, .tup [.t (tI r2.1), .t (tB r2.2)]), (50, .agg [.t (tS Pv.encI e2.Order), .t (tI e2.First)]), (51, .el (enc_SFire x2)), (52, .t (tI x2.Cylinder)), (53, .tup [.t (tI r2.1), .t (tB r2.2)]), (54, .t (tI r2.1)), (55, .t (tB r2.2)), (56, .clo 46 [.ptr 10 0, .el (enc_SFire x2)]), (57, .fz 48 [Pv.encI ticks]), (58, .t (tI r2.1)), (59, .el (List.drop 1 (enc_SFire x2))), (60, .t (tI x2.Spark)), (61, .t (tI (w64 (r2.1 - x2.Spark)))), (62, .clo 46 [.ptr 10 0, .el (enc_SFire x2)]), (63, .t (tI (w64 (r2.1 - x2.Spark)))), (64, .tup [])], [(10, .box [.own 2512]), (2512, .rows 44 4 v5.length (v5.map enc_SEvent))]⟩) (tie_events_Plan_3 (w64 (r2.1 - x2.Spark)) 2 0 f2 x2) rfl rfl rfl rfl rfl rfl rfl (fun _ => rfl) (fun _ => rfl) (fun _ => rfl) (fun _ => .of rfl rfl) fun v5 hv5 => ?_
              refine TieO.nil ?_
              refine TieS.seq ?_
              refine TieS.region ?_
              refine TieO.run 5 rfl ?_
              refine TieO.call _ rfl rfl rfl (tie_events_Plan_4 x2.Dwell ticks) (fun _ => rfl) fun v6 => ?_
              refine TieO.run 2 rfl ?_
              refine TieO.callG [(1000000, 10), (1000001, 2512)] [(900000, 2584)] (fun v7 => ⟨[(3, .el (enc_SEngine e2)), (5, .el (Pv.encI ticks)), (10, .ptr 10 0), (12, .el (enc_SFire x2)), (13, .t (tI r2.1)), (14, .t (tB r2.2)), (15, .clo 46 [.ptr 10 0, .el (enc_SFire x2)]), (16, .fz 48 [Pv.encI ticks]), (17, .t (tI (w64 (r2.1 - x2.Spark)))), (43, .t (tS enc_SFire l)), (44, .t (tI (l.length : Int))), (45, .t (tI i2)), (47, .el (enc_SFire x2)), (48, .agg [.t (tI x2.Cylinder), .t (tI x2.Spark), .t (tI x2.Dwell), .t (tI x2.End), .t (tI x2.Inject), .t (tI x2.Gap), .t (tI x2.Extra)]), (49, .tup [.t (tI r2.1), .t (tB r2.2)]), (50, .agg [.t (tS Pv.encI e2.Order), .t (tI e2.First)]), (51, .el (enc_SFire x2)), (52, .t (tI x2.Cylinder)), (53, .tup [.t (tI r2.1), .t (tB r2.2)]), (54, .t (tI r2.1)), (55, .t (tB r2.2)), (56, .clo 46 [.ptr 10 0, .el (enc_SFire x2)]), (57, .fz 48 [Pv.encI ticks]), (58, .t (tI r2.1)), (59, .el (List.drop 1 (enc_SFire x2))), (60, .t (tI x2.Spark)), (61, .t (tI (w64 (r2.1 - x2.Spark)))), (62, .clo 46 [.ptr 10 0, .el (enc_SFire x2)]), (63, .t (tI (w64 (r2.1 - x2.Spark)))), (64, .tup []), (65, .clo 46 [.ptr 10 0, .el (enc_SFire x2)]), (66, .t (tI (w64 (r2.1 - x2.Spark)))), (67, .fz 48 [Pv.encI ticks]), (68, .el (List.drop 2 (enc_SFire x2))), (69, .t (tI x2.Dwell)), (70, .t (tI v6)), (71, .t (tI (minI v6 23040))), (72, .t (tI (w64 ((w64 (r2.1 - x2.Spark)) - (minI v6 23040))))), (73, .tup [])], [(10, .box [.own 2584]), (2584, .rows 44 4 v7.length (v7.map enc_SEvent))]⟩) (tie_events_Plan_3 (w64 ((w64 (r2.1 - x2.Spark)) - (minI v6 23040))) 1 0 v5 x2) rfl rfl rfl rfl rfl rfl rfl (fun _ => rfl) (fun _ => rfl) (fun _ => rfl) (fun _ => .of rfl rfl) fun v7 hv7 => ?_
              refine TieO.nil ?_
              refine TieS.seq ?_
              refine TieS.seq ?_
              refine TieX.pre fun v8 hv8 => ?_
              refine TieX.pre fun v9 hv9 => ?_
              refine TieX.pre fun v10 hv10 => ?_
              refine TieS.draw 14 [.fz 48 [Pv.encI ticks], .el (List.drop 4 (enc_SFire x2)), .t (tI x2.Inject), .t (tI v8), .fz 48 [Pv.encI ticks], .el (List.drop 5 (enc_SFire x2)), .t (tI x2.Gap), .t (tI v9), .fz 48 [Pv.encI ticks], .el (List.drop 6 (enc_SFire x2)), .t (tI x2.Extra), .t (tI v10), .t (tI (maxI (maxI v8 v9) v10)), .t (tB (decide ((maxI (maxI v8 v9) v10) > 23040)))] [(3, .el (enc_SEngine e2)), (5, .el (Pv.encI ticks)), (10, .ptr 10 0), (12, .el (enc_SFire x2)), (13, .t (tI r2.1)), (15, .clo 46 [.ptr 10 0, .el (enc_SFire x2)]), (16, .fz 48 [Pv.encI ticks]), (43, .t (tS enc_SFire l)), (44, .t (tI (l.length : Int))), (45, .t (tI i2))] [(10, .box [.own 2584]), (2584, .rows 44 4 v7.length (v7.map enc_SEvent))] mixed (.of rfl rfl) rfl rfl rfl rfl (.cons (.quiet rfl rfl rfl) (.cons (.quiet rfl rfl rfl) (.cons (.quiet rfl rfl rfl) (.cons (.callV (tie_events_Plan_4 x2.Inject ticks) hv8 rfl rfl rfl rfl) (.cons (.quiet rfl rfl rfl) (.cons (.quiet rfl rfl rfl) (.cons (.quiet rfl rfl rfl) (.cons (.callV (tie_events_Plan_4 x2.Gap ticks) hv9 rfl rfl rfl rfl) (.cons (.quiet rfl rfl rfl) (.cons (.quiet rfl rfl rfl) (.cons (.quiet rfl rfl rfl) (.cons (.callV (tie_events_Plan_4 x2.Extra ticks) hv10 rfl rfl rfl rfl) (.cons (.quiet rfl rfl rfl) (.cons (.quiet rfl rfl rfl) (.nil))))))))))))))) ?_
              refine TieO.nil ?_
              refine TieS.cond rfl ?_ ?_
              · refine TieS.seq ?_
                refine TieS.region ?_
                refine TieO.run 2 rfl ?_
                refine TieO.nil ?_
                exact TieS.ret ⟨rfl, rfl⟩
              · refine TieS.skip ?_
                refine TieS.seq ?_
                refine TieS.region ?_
                refine TieO.run 5 rfl ?_
                refine TieO.nil ?_
                refine TieS.seq ?_
                refine TieS.seq ?_
                refine TieS.region ?_
                refine TieO.run 1 rfl ?_
                refine TieO.call _ rfl rfl rfl (tie_events_Pulses x2) (fun _ => rfl) fun v11 => ?_
                refine TieO.run 1 rfl ?_
                refine TieO.nil ?_
                refine TieS.bind (Q₁ := fun t e σ' => e = .normal ∧ Sub ⟨[(3, .el (enc_SEngine e2)), (5, .el (Pv.encI ticks)), (10, .ptr 10 0), (12, .el (enc_SFire x2)), (15, .clo 46 [.ptr 10 0, .el (enc_SFire x2)]), (16, .fz 48 [Pv.encI ticks]), (18, .t (tI (w64 (r2.1 - x2.End)))), (43, .t (tS enc_SFire l)), (44, .t (tI (l.length : Int))), (45, .t (tI i2))], [(10, .box [.own 2840]), (2840, .rows 44 4 t.length (t.map enc_SEvent))]⟩ σ') ?_ ?_
                · refine TieS.cond rfl ?_ ?_
                  · refine TieS.seq ?_
                    refine TieS.region ?_
                    refine TieO.run 2 rfl ?_
                    refine TieO.callG [(1000000, 10), (1000001, 2584)] [(900000, 2776)] (fun v12 => ⟨[(3, .el (enc_SEngine e2)), (5, .el (Pv.encI ticks)), (10, .ptr 10 0), (12, .el (enc_SFire x2)), (13, .t (tI r2.1)), (15, .clo 46 [.ptr 10 0, .el (enc_SFire x2)]), (16, .fz 48 [Pv.encI ticks]), (18, .t (tI (w64 (r2.1 - x2.End)))), (43, .t (tS enc_SFire l)), (44, .t (tI (l.length : Int))), (45, .t (tI i2)), (74, .fz 48 [Pv.encI ticks]), (75, .el (List.drop 4 (enc_SFire x2))), (76, .t (tI x2.Inject)), (77, .t (tI v8)), (78, .fz 48 [Pv.encI ticks]), (79, .el (List.drop 5 (enc_SFire x2))), (80, .t (tI x2.Gap)), (81, .t (tI v9)), (82, .fz 48 [Pv.encI ticks]), (83, .el (List.drop 6 (enc_SFire x2))), (84, .t (tI x2.Extra)), (85, .t (tI v10)), (86, .t (tI (maxI (maxI v8 v9) v10))), (87, .t (tB (decide ((maxI (maxI v8 v9) v10) > 23040)))), (88, .t (tI r2.1)), (89, .el (List.drop 3 (enc_SFire x2))), (90, .t (tI x2.End)), (91, .t (tI (w64 (r2.1 - x2.End)))), (92, .agg [.t (tI x2.Cylinder), .t (tI x2.Spark), .t (tI x2.Dwell), .t (tI x2.End), .t (tI x2.Inject), .t (tI x2.Gap), .t (tI x2.Extra)]), (93, .t (tI v11)), (94, .t (tB (decide (v11 > 0)))), (95, .clo 46 [.ptr 10 0, .el (enc_SFire x2)]), (96, .t (tI (w64 (r2.1 - x2.End)))), (97, .tup [])], [(10, .box [.own 2776]), (2776, .rows 44 4 v12.length (v12.map enc_SEvent))]⟩) (tie_events_Plan_3 (w64 (r2.1 - x2.End)) 4 1 v7 x2) rfl rfl rfl rfl rfl rfl rfl (fun _ => rfl) (fun _ => rfl) (fun _ => rfl) (fun _ => .of rfl rfl) fun v12 hv12 => ?_
                    refine TieO.nil ?_
                    refine TieS.region ?_
                    refine TieO.run 5 rfl ?_
                    refine TieO.call _ rfl rfl rfl (tie_events_Plan_4 x2.Inject ticks) (fun _ => rfl) fun v13 => ?_
                    refine TieO.run 1 rfl ?_
                    refine TieO.callG [(1000000, 10), (1000001, 2776)] [(900000, 2840)] (fun v14 => ⟨[(3, .el (enc_SEngine e2)), (5, .el (Pv.encI ticks)), (10, .ptr 10 0), (12, .el (enc_SFire x2)), (13, .t (tI r2.1)), (15, .clo 46 [.ptr 10 0, .el (enc_SFire x2)]), (16, .fz 48 [Pv.encI ticks]), (18, .t (tI (w64 (r2.1 - x2.End)))), (43, .t (tS enc_SFire l)), (44, .t (tI (l.length : Int))), (45, .t (tI i2)), (74, .fz 48 [Pv.encI ticks]), (75, .el (List.drop 4 (enc_SFire x2))), (76, .t (tI x2.Inject)), (77, .t (tI v8)), (78, .fz 48 [Pv.encI ticks]), (79, .el (List.drop 5 (enc_SFire x2))), (80, .t (tI x2.Gap)), (81, .t (tI v9)), (82, .fz 48 [Pv.encI ticks]), (83, .el (List.drop 6 (enc_SFire x2))), (84, .t (tI x2.Extra)), (85, .t (tI v10)), (86, .t (tI (maxI (maxI v8 v9) v10))), (87, .t (tB (decide ((maxI (maxI v8 v9) v10) > 23040)))), (88, .t (tI r2.1)), (89, .el (List.drop 3 (enc_SFire x2))), (90, .t (tI x2.End)), (91, .t (tI (w64 (r2.1 - x2.End)))), (92, .agg [.t (tI x2.Cylinder), .t (tI x2.Spark), .t (tI x2.Dwell), .t (tI x2.End), .t (tI x2.Inject), .t (tI x2.Gap), .t (tI x2.Extra)]), (93, .t (tI v11)), (94, .t (tB (decide (v11 > 0)))), (95, .clo 46 [.ptr 10 0, .el (enc_SFire x2)]), (96, .t (tI (w64 (r2.1 - x2.End)))), (97, .tup []), (98, .clo 46 [.ptr 10 0, .el (enc_SFire x2)]), (99, .t (tI (w64 (r2.1 - x2.End)))), (100, .fz 48 [Pv.encI ticks]), (101, .el (List.drop 4 (enc_SFire x2))), (102, .t (tI x2.Inject)), (103, .t (tI v13)), (104, .t (tI (w64 ((w64 (r2.1 - x2.End)) - v13)))), (105, .tup [])], [(10, .box [.own 2840]), (2840, .rows 44 4 v14.length (v14.map enc_SEvent))]⟩) (tie_events_Plan_3 (w64 ((w64 (r2.1 - x2.End)) - v13)) 3 1 v12 x2) rfl rfl rfl rfl rfl rfl rfl (fun _ => rfl) (fun _ => rfl) (fun _ => rfl) (fun _ => .of rfl rfl) fun v14 hv14 => ?_
                    refine TieO.nil ?_
                    exact TieS.leaf ⟨rfl, .of rfl rfl⟩
                  · refine TieS.skip ?_
                    refine TieX.sub (σ' := ⟨[(3, .el (enc_SEngine e2)), (5, .el (Pv.encI ticks)), (10, .ptr 10 0), (12, .el (enc_SFire x2)), (15, .clo 46 [.ptr 10 0, .el (enc_SFire x2)]), (16, .fz 48 [Pv.encI ticks]), (18, .t (tI (w64 (r2.1 - x2.End)))), (43, .t (tS enc_SFire l)), (44, .t (tI (l.length : Int))), (45, .t (tI i2))], [(10, .box [.own 2584]), (2584, .rows 44 4 v7.length (v7.map enc_SEvent))]⟩) (.of rfl rfl) ?_
                    refine TieX.ren [(10, 10), (2584, 2840)] rfl rfl rfl ?_
                    exact TieS.leaf ⟨rfl, .of rfl rfl⟩
                rintro f3 e σ' _ ⟨rfl, hs⟩
                refine TieX.sub hs ?_
                refine TieS.seq ?_
                refine TieS.region ?_
                refine TieO.run 1 rfl ?_
                refine TieO.call _ rfl rfl rfl (tie_events_Pulses x2) (fun _ => rfl) fun v15 => ?_
                refine TieO.run 1 rfl ?_
                refine TieO.nil ?_
                refine TieS.cond rfl ?_ ?_
                · refine TieS.seq ?_
                  refine TieS.region ?_
                  refine TieO.run 5 rfl ?_
                  refine TieO.call _ rfl rfl rfl (tie_events_Plan_4 x2.Gap ticks) (fun _ => rfl) fun v16 => ?_
                  refine TieO.run 1 rfl ?_
                  refine TieO.callG [(1000000, 10), (1000001, 2840)] [(900000, 2928)] (fun v17 => ⟨[(3, .el (enc_SEngine e2)), (5, .el (Pv.encI ticks)), (10, .ptr 10 0), (12, .el (enc_SFire x2)), (15, .clo 46 [.ptr 10 0, .el (enc_SFire x2)]), (16, .fz 48 [Pv.encI ticks]), (18, .t (tI (w64 (r2.1 - x2.End)))), (43, .t (tS enc_SFire l)), (44, .t (tI (l.length : Int))), (45, .t (tI i2)), (106, .agg [.t (tI x2.Cylinder), .t (tI x2.Spark), .t (tI x2.Dwell), .t (tI x2.End), .t (tI x2.Inject), .t (tI x2.Gap), .t (tI x2.Extra)]), (107, .t (tI v15)), (108, .t (tB (decide (v15 > 1)))), (109, .clo 46 [.ptr 10 0, .el (enc_SFire x2)]), (110, .t (tI (w64 (r2.1 - x2.End)))), (111, .fz 48 [Pv.encI ticks]), (112, .el (List.drop 5 (enc_SFire x2))), (113, .t (tI x2.Gap)), (114, .t (tI v16)), (115, .t (tI (w64 ((w64 (r2.1 - x2.End)) + v16)))), (116, .tup [])], [(10, .box [.own 2928]), (2928, .rows 44 4 v17.length (v17.map enc_SEvent))]⟩) (tie_events_Plan_3 (w64 ((w64 (r2.1 - x2.End)) + v16)) 3 2 f3 x2) rfl rfl rfl rfl rfl rfl rfl (fun _ => rfl) (fun _ => rfl) (fun _ => rfl) (fun _ => .of rfl rfl) fun v17 hv17 => ?_
                  refine TieO.nil ?_
                  refine TieS.bind (Q₁ := fun t e σ' => e = .normal ∧ Sub ⟨[(3, .el (enc_SEngine e2)), (5, .el (Pv.encI ticks)), (10, .ptr 10 0), (43, .t (tS enc_SFire l)), (44, .t (tI (l.length : Int))), (45, .t (tI i2))], [(10, .box [.own 3032]), (3032, .rows 44 4 t.length (t.map enc_SEvent))]⟩ σ') ?_ ?_
                  · refine TieX.pre fun v18 hv18 => ?_
                    refine TieX.pre fun v19 hv19 => ?_
                    refine TieS.draws 12 [false, false, false, false, false, false, false, false, false, false, false, false, false] [true, true, true, true, true, true, true, true, true, true, true, true, false] ⟨[(3, .el (enc_SEngine e2)), (5, .el (Pv.encI ticks)), (10, .ptr 10 0), (12, .el (enc_SFire x2)), (15, .clo 46 [.ptr 10 0, .el (enc_SFire x2)]), (16, .fz 48 [Pv.encI ticks]), (18, .t (tI (w64 (r2.1 - x2.End)))), (43, .t (tS enc_SFire l)), (44, .t (tI (l.length : Int))), (45, .t (tI i2)), (117, .clo 46 [.ptr 10 0, .el (enc_SFire x2)]), (118, .t (tI (w64 (r2.1 - x2.End)))), (119, .fz 48 [Pv.encI ticks]), (120, .el (List.drop 5 (enc_SFire x2))), (121, .t (tI x2.Gap)), (122, .t (tI v18)), (123, .t (tI (w64 ((w64 (r2.1 - x2.End)) + v18)))), (124, .fz 48 [Pv.encI ticks]), (125, .el (List.drop 6 (enc_SFire x2))), (126, .t (tI x2.Extra)), (127, .t (tI v19)), (128, .t (tI (w64 ((w64 ((w64 (r2.1 - x2.End)) + v18)) + v19))))], [(10, .box [.own 2928]), (2928, .rows 44 4 v17.length (v17.map enc_SEvent))]⟩ mixed (fun _ _ _ h => by cases h.1) rfl rfl rfl rfl ?_ ?_
                    · refine TieA.have_ (fuel₁ := 1) (l₁ := [true, true, true, true, true, true, true, true, true, true, true, true, false]) (σ₁ := ⟨[(3, .el (enc_SEngine e2)), (5, .el (Pv.encI ticks)), (10, .ptr 10 0), (12, .el (enc_SFire x2)), (15, .clo 46 [.ptr 10 0, .el (enc_SFire x2)]), (16, .fz 48 [Pv.encI ticks]), (18, .t (tI (w64 (r2.1 - x2.End)))), (43, .t (tS enc_SFire l)), (44, .t (tI (l.length : Int))), (45, .t (tI i2)), (117, .clo 46 [.ptr 10 0, .el (enc_SFire x2)]), (118, .t (tI (w64 (r2.1 - x2.End)))), (119, .fz 48 [Pv.encI ticks]), (120, .el (List.drop 5 (enc_SFire x2))), (121, .t (tI x2.Gap)), (122, .t (tI v18)), (123, .t (tI (w64 ((w64 (r2.1 - x2.End)) + v18)))), (124, .fz 48 [Pv.encI ticks]), (125, .el (List.drop 6 (enc_SFire x2))), (126, .t (tI x2.Extra)), (127, .t (tI v19)), (128, .t (tI (w64 ((w64 ((w64 (r2.1 - x2.End)) + v18)) + v19))))], [(10, .box [.own 2928]), (2928, .rows 44 4 v17.length (v17.map enc_SEvent))]⟩) ?_ fun A_6 => ?_
                      · exact TieA.done (.of rfl rfl)
                      refine TieA.have_ (fuel₁ := 2) (l₁ := [true, true, true, true, true, true, true, true, true, true, true, false, false]) (σ₁ := ⟨[(3, .el (enc_SEngine e2)), (5, .el (Pv.encI ticks)), (10, .ptr 10 0), (12, .el (enc_SFire x2)), (15, .clo 46 [.ptr 10 0, .el (enc_SFire x2)]), (16, .fz 48 [Pv.encI ticks]), (18, .t (tI (w64 (r2.1 - x2.End)))), (43, .t (tS enc_SFire l)), (44, .t (tI (l.length : Int))), (45, .t (tI i2)), (117, .clo 46 [.ptr 10 0, .el (enc_SFire x2)]), (118, .t (tI (w64 (r2.1 - x2.End)))), (119, .fz 48 [Pv.encI ticks]), (120, .el (List.drop 5 (enc_SFire x2))), (121, .t (tI x2.Gap)), (122, .t (tI v18)), (123, .t (tI (w64 ((w64 (r2.1 - x2.End)) + v18)))), (124, .fz 48 [Pv.encI ticks]), (125, .el (List.drop 6 (enc_SFire x2))), (126, .t (tI x2.Extra)), (127, .t (tI v19))], [(10, .box [.own 2928]), (2928, .rows 44 4 v17.length (v17.map enc_SEvent))]⟩) ?_ fun A_5 => ?_
                      · refine TieA.all [11] (by kernel_rfl) rfl ?_
                        refine AllA.cons (σ₁ := ⟨[(3, .el (enc_SEngine e2)), (5, .el (Pv.encI ticks)), (10, .ptr 10 0), (12, .el (enc_SFire x2)), (15, .clo 46 [.ptr 10 0, .el (enc_SFire x2)]), (16, .fz 48 [Pv.encI ticks]), (18, .t (tI (w64 (r2.1 - x2.End)))), (43, .t (tS enc_SFire l)), (44, .t (tI (l.length : Int))), (45, .t (tI i2)), (117, .clo 46 [.ptr 10 0, .el (enc_SFire x2)]), (118, .t (tI (w64 (r2.1 - x2.End)))), (119, .fz 48 [Pv.encI ticks]), (120, .el (List.drop 5 (enc_SFire x2))), (121, .t (tI x2.Gap)), (122, .t (tI v18)), (123, .t (tI (w64 ((w64 (r2.1 - x2.End)) + v18)))), (124, .fz 48 [Pv.encI ticks]), (125, .el (List.drop 6 (enc_SFire x2))), (126, .t (tI x2.Extra)), (127, .t (tI v19)), (128, .t (tI (w64 ((w64 ((w64 (r2.1 - x2.End)) + v18)) + v19))))], [(10, .box [.own 2928]), (2928, .rows 44 4 v17.length (v17.map enc_SEvent))]⟩) [true, true, true, true, true, true, true, true, true, true, true, true, false] rfl rfl ?_ A_6 ?_
                        · refine TieO.run 1 rfl ?_
                          exact TieO.nil (TieS.leaf ⟨rfl, .of rfl rfl⟩)
                        exact AllA.nil
                      refine TieA.have_ (fuel₁ := 3) (l₁ := [true, true, true, true, true, true, true, true, true, true, false, false, false]) (σ₁ := ⟨[(3, .el (enc_SEngine e2)), (5, .el (Pv.encI ticks)), (10, .ptr 10 0), (12, .el (enc_SFire x2)), (15, .clo 46 [.ptr 10 0, .el (enc_SFire x2)]), (16, .fz 48 [Pv.encI ticks]), (18, .t (tI (w64 (r2.1 - x2.End)))), (43, .t (tS enc_SFire l)), (44, .t (tI (l.length : Int))), (45, .t (tI i2)), (117, .clo 46 [.ptr 10 0, .el (enc_SFire x2)]), (118, .t (tI (w64 (r2.1 - x2.End)))), (119, .fz 48 [Pv.encI ticks]), (120, .el (List.drop 5 (enc_SFire x2))), (121, .t (tI x2.Gap)), (122, .t (tI v18)), (123, .t (tI (w64 ((w64 (r2.1 - x2.End)) + v18)))), (124, .fz 48 [Pv.encI ticks]), (125, .el (List.drop 6 (enc_SFire x2))), (126, .t (tI x2.Extra))], [(10, .box [.own 2928]), (2928, .rows 44 4 v17.length (v17.map enc_SEvent))]⟩) ?_ fun A_4 => ?_
                      · refine TieA.all [10] (by kernel_rfl) rfl ?_
                        refine AllA.cons (σ₁ := ⟨[(3, .el (enc_SEngine e2)), (5, .el (Pv.encI ticks)), (10, .ptr 10 0), (12, .el (enc_SFire x2)), (15, .clo 46 [.ptr 10 0, .el (enc_SFire x2)]), (16, .fz 48 [Pv.encI ticks]), (18, .t (tI (w64 (r2.1 - x2.End)))), (43, .t (tS enc_SFire l)), (44, .t (tI (l.length : Int))), (45, .t (tI i2)), (117, .clo 46 [.ptr 10 0, .el (enc_SFire x2)]), (118, .t (tI (w64 (r2.1 - x2.End)))), (119, .fz 48 [Pv.encI ticks]), (120, .el (List.drop 5 (enc_SFire x2))), (121, .t (tI x2.Gap)), (122, .t (tI v18)), (123, .t (tI (w64 ((w64 (r2.1 - x2.End)) + v18)))), (124, .fz 48 [Pv.encI ticks]), (125, .el (List.drop 6 (enc_SFire x2))), (126, .t (tI x2.Extra)), (127, .t (tI v19))], [(10, .box [.own 2928]), (2928, .rows 44 4 v17.length (v17.map enc_SEvent))]⟩) [true, true, true, true, true, true, true, true, true, true, true, false, false] rfl rfl ?_ A_5 ?_
                        · refine TieO.withH hv19 (TieO.call _ rfl rfl rfl (tie_events_Plan_4 x2.Extra ticks) (fun _ => rfl) (TieO.ifH ?_))
                          exact TieO.nil (TieS.leaf ⟨rfl, .of rfl rfl⟩)
                        exact AllA.nil
                      refine TieA.have_ (fuel₁ := 4) (l₁ := [true, true, true, true, true, true, true, true, true, false, false, false, false]) (σ₁ := ⟨[(3, .el (enc_SEngine e2)), (5, .el (Pv.encI ticks)), (10, .ptr 10 0), (12, .el (enc_SFire x2)), (15, .clo 46 [.ptr 10 0, .el (enc_SFire x2)]), (16, .fz 48 [Pv.encI ticks]), (18, .t (tI (w64 (r2.1 - x2.End)))), (43, .t (tS enc_SFire l)), (44, .t (tI (l.length : Int))), (45, .t (tI i2)), (117, .clo 46 [.ptr 10 0, .el (enc_SFire x2)]), (118, .t (tI (w64 (r2.1 - x2.End)))), (119, .fz 48 [Pv.encI ticks]), (120, .el (List.drop 5 (enc_SFire x2))), (121, .t (tI x2.Gap)), (122, .t (tI v18)), (123, .t (tI (w64 ((w64 (r2.1 - x2.End)) + v18)))), (124, .fz 48 [Pv.encI ticks]), (125, .el (List.drop 6 (enc_SFire x2)))], [(10, .box [.own 2928]), (2928, .rows 44 4 v17.length (v17.map enc_SEvent))]⟩) ?_ fun A_3 => ?_
                      · refine TieA.all [9] (by kernel_rfl) rfl ?_
                        refine AllA.cons (σ₁ := ⟨[(3, .el (enc_SEngine e2)), (5, .el (Pv.encI ticks)), (10, .ptr 10 0), (12, .el (enc_SFire x2)), (15, .clo 46 [.ptr 10 0, .el (enc_SFire x2)]), (16, .fz 48 [Pv.encI ticks]), (18, .t (tI (w64 (r2.1 - x2.End)))), (43, .t (tS enc_SFire l)), (44, .t (tI (l.length : Int))), (45, .t (tI i2)), (117, .clo 46 [.ptr 10 0, .el (enc_SFire x2)]), (118, .t (tI (w64 (r2.1 - x2.End)))), (119, .fz 48 [Pv.encI ticks]), (120, .el (List.drop 5 (enc_SFire x2))), (121, .t (tI x2.Gap)), (122, .t (tI v18)), (123, .t (tI (w64 ((w64 (r2.1 - x2.End)) + v18)))), (124, .fz 48 [Pv.encI ticks]), (125, .el (List.drop 6 (enc_SFire x2))), (126, .t (tI x2.Extra))], [(10, .box [.own 2928]), (2928, .rows 44 4 v17.length (v17.map enc_SEvent))]⟩) [true, true, true, true, true, true, true, true, true, true, false, false, false] rfl rfl ?_ A_4 ?_
                        · refine TieO.run 1 rfl ?_
                          exact TieO.nil (TieS.leaf ⟨rfl, .of rfl rfl⟩)
                        exact AllA.nil
                      refine TieA.have_ (fuel₁ := 3) (l₁ := [true, true, true, true, true, true, false, true, true, true, true, false, false]) (σ₁ := ⟨[(3, .el (enc_SEngine e2)), (5, .el (Pv.encI ticks)), (10, .ptr 10 0), (12, .el (enc_SFire x2)), (15, .clo 46 [.ptr 10 0, .el (enc_SFire x2)]), (16, .fz 48 [Pv.encI ticks]), (18, .t (tI (w64 (r2.1 - x2.End)))), (43, .t (tS enc_SFire l)), (44, .t (tI (l.length : Int))), (45, .t (tI i2)), (117, .clo 46 [.ptr 10 0, .el (enc_SFire x2)]), (118, .t (tI (w64 (r2.1 - x2.End)))), (119, .fz 48 [Pv.encI ticks]), (120, .el (List.drop 5 (enc_SFire x2))), (121, .t (tI x2.Gap)), (122, .t (tI v18)), (124, .fz 48 [Pv.encI ticks]), (125, .el (List.drop 6 (enc_SFire x2))), (126, .t (tI x2.Extra)), (127, .t (tI v19))], [(10, .box [.own 2928]), (2928, .rows 44 4 v17.length (v17.map enc_SEvent))]⟩) ?_ fun A_8 => ?_
                      · refine TieA.all [6] (by kernel_rfl) rfl ?_
                        refine AllA.cons (σ₁ := ⟨[(3, .el (enc_SEngine e2)), (5, .el (Pv.encI ticks)), (10, .ptr 10 0), (12, .el (enc_SFire x2)), (15, .clo 46 [.ptr 10 0, .el (enc_SFire x2)]), (16, .fz 48 [Pv.encI ticks]), (18, .t (tI (w64 (r2.1 - x2.End)))), (43, .t (tS enc_SFire l)), (44, .t (tI (l.length : Int))), (45, .t (tI i2)), (117, .clo 46 [.ptr 10 0, .el (enc_SFire x2)]), (118, .t (tI (w64 (r2.1 - x2.End)))), (119, .fz 48 [Pv.encI ticks]), (120, .el (List.drop 5 (enc_SFire x2))), (121, .t (tI x2.Gap)), (122, .t (tI v18)), (123, .t (tI (w64 ((w64 (r2.1 - x2.End)) + v18)))), (124, .fz 48 [Pv.encI ticks]), (125, .el (List.drop 6 (enc_SFire x2))), (126, .t (tI x2.Extra)), (127, .t (tI v19))], [(10, .box [.own 2928]), (2928, .rows 44 4 v17.length (v17.map enc_SEvent))]⟩) [true, true, true, true, true, true, true, true, true, true, true, false, false] rfl rfl ?_ A_5 ?_
                        · refine TieO.run 1 rfl ?_
                          exact TieO.nil (TieS.leaf ⟨rfl, .of rfl rfl⟩)
                        exact AllA.nil
                      refine TieA.have_ (fuel₁ := 4) (l₁ := [true, true, true, true, true, true, false, true, true, true, false, false, false]) (σ₁ := ⟨[(3, .el (enc_SEngine e2)), (5, .el (Pv.encI ticks)), (10, .ptr 10 0), (12, .el (enc_SFire x2)), (15, .clo 46 [.ptr 10 0, .el (enc_SFire x2)]), (16, .fz 48 [Pv.encI ticks]), (18, .t (tI (w64 (r2.1 - x2.End)))), (43, .t (tS enc_SFire l)), (44, .t (tI (l.length : Int))), (45, .t (tI i2)), (117, .clo 46 [.ptr 10 0, .el (enc_SFire x2)]), (118, .t (tI (w64 (r2.1 - x2.End)))), (119, .fz 48 [Pv.encI ticks]), (120, .el (List.drop 5 (enc_SFire x2))), (121, .t (tI x2.Gap)), (122, .t (tI v18)), (124, .fz 48 [Pv.encI ticks]), (125, .el (List.drop 6 (enc_SFire x2))), (126, .t (tI x2.Extra))], [(10, .box [.own 2928]), (2928, .rows 44 4 v17.length (v17.map enc_SEvent))]⟩) ?_ fun A_7 => ?_
                      · refine TieA.all [6, 10] (by kernel_rfl) rfl ?_
                        refine AllA.cons (σ₁ := ⟨[(3, .el (enc_SEngine e2)), (5, .el (Pv.encI ticks)), (10, .ptr 10 0), (12, .el (enc_SFire x2)), (15, .clo 46 [.ptr 10 0, .el (enc_SFire x2)]), (16, .fz 48 [Pv.encI ticks]), (18, .t (tI (w64 (r2.1 - x2.End)))), (43, .t (tS enc_SFire l)), (44, .t (tI (l.length : Int))), (45, .t (tI i2)), (117, .clo 46 [.ptr 10 0, .el (enc_SFire x2)]), (118, .t (tI (w64 (r2.1 - x2.End)))), (119, .fz 48 [Pv.encI ticks]), (120, .el (List.drop 5 (enc_SFire x2))), (121, .t (tI x2.Gap)), (122, .t (tI v18)), (123, .t (tI (w64 ((w64 (r2.1 - x2.End)) + v18)))), (124, .fz 48 [Pv.encI ticks]), (125, .el (List.drop 6 (enc_SFire x2))), (126, .t (tI x2.Extra))], [(10, .box [.own 2928]), (2928, .rows 44 4 v17.length (v17.map enc_SEvent))]⟩) [true, true, true, true, true, true, true, true, true, true, false, false, false] rfl rfl ?_ A_4 ?_
                        · refine TieO.run 1 rfl ?_
                          exact TieO.nil (TieS.leaf ⟨rfl, .of rfl rfl⟩)
                        refine AllA.cons (σ₁ := ⟨[(3, .el (enc_SEngine e2)), (5, .el (Pv.encI ticks)), (10, .ptr 10 0), (12, .el (enc_SFire x2)), (15, .clo 46 [.ptr 10 0, .el (enc_SFire x2)]), (16, .fz 48 [Pv.encI ticks]), (18, .t (tI (w64 (r2.1 - x2.End)))), (43, .t (tS enc_SFire l)), (44, .t (tI (l.length : Int))), (45, .t (tI i2)), (117, .clo 46 [.ptr 10 0, .el (enc_SFire x2)]), (118, .t (tI (w64 (r2.1 - x2.End)))), (119, .fz 48 [Pv.encI ticks]), (120, .el (List.drop 5 (enc_SFire x2))), (121, .t (tI x2.Gap)), (122, .t (tI v18)), (124, .fz 48 [Pv.encI ticks]), (125, .el (List.drop 6 (enc_SFire x2))), (126, .t (tI x2.Extra)), (127, .t (tI v19))], [(10, .box [.own 2928]), (2928, .rows 44 4 v17.length (v17.map enc_SEvent))]⟩) [true, true, true, true, true, true, false, true, true, true, true, false, false] rfl rfl ?_ A_8 ?_
                        · refine TieO.withH hv19 (TieO.call _ rfl rfl rfl (tie_events_Plan_4 x2.Extra ticks) (fun _ => rfl) (TieO.ifH ?_))
                          exact TieO.nil (TieS.leaf ⟨rfl, .of rfl rfl⟩)
                        exact AllA.nil
                      refine TieA.have_ (fuel₁ := 5) (l₁ := [true, true, true, true, true, true, false, true, true, false, false, false, false]) (σ₁ := ⟨[(3, .el (enc_SEngine e2)), (5, .el (Pv.encI ticks)), (10, .ptr 10 0), (12, .el (enc_SFire x2)), (15, .clo 46 [.ptr 10 0, .el (enc_SFire x2)]), (16, .fz 48 [Pv.encI ticks]), (18, .t (tI (w64 (r2.1 - x2.End)))), (43, .t (tS enc_SFire l)), (44, .t (tI (l.length : Int))), (45, .t (tI i2)), (117, .clo 46 [.ptr 10 0, .el (enc_SFire x2)]), (118, .t (tI (w64 (r2.1 - x2.End)))), (119, .fz 48 [Pv.encI ticks]), (120, .el (List.drop 5 (enc_SFire x2))), (121, .t (tI x2.Gap)), (122, .t (tI v18)), (124, .fz 48 [Pv.encI ticks]), (125, .el (List.drop 6 (enc_SFire x2)))], [(10, .box [.own 2928]), (2928, .rows 44 4 v17.length (v17.map enc_SEvent))]⟩) ?_ fun A_2 => ?_
                      · refine TieA.all [6, 9] (by kernel_rfl) rfl ?_
                        refine AllA.cons (σ₁ := ⟨[(3, .el (enc_SEngine e2)), (5, .el (Pv.encI ticks)), (10, .ptr 10 0), (12, .el (enc_SFire x2)), (15, .clo 46 [.ptr 10 0, .el (enc_SFire x2)]), (16, .fz 48 [Pv.encI ticks]), (18, .t (tI (w64 (r2.1 - x2.End)))), (43, .t (tS enc_SFire l)), (44, .t (tI (l.length : Int))), (45, .t (tI i2)), (117, .clo 46 [.ptr 10 0, .el (enc_SFire x2)]), (118, .t (tI (w64 (r2.1 - x2.End)))), (119, .fz 48 [Pv.encI ticks]), (120, .el (List.drop 5 (enc_SFire x2))), (121, .t (tI x2.Gap)), (122, .t (tI v18)), (123, .t (tI (w64 ((w64 (r2.1 - x2.End)) + v18)))), (124, .fz 48 [Pv.encI ticks]), (125, .el (List.drop 6 (enc_SFire x2)))], [(10, .box [.own 2928]), (2928, .rows 44 4 v17.length (v17.map enc_SEvent))]⟩) [true, true, true, true, true, true, true, true, true, false, false, false, false] rfl rfl ?_ A_3 ?_
                        · refine TieO.run 1 rfl ?_
                          exact TieO.nil (TieS.leaf ⟨rfl, .of rfl rfl⟩)
                        refine AllA.cons (σ₁ := ⟨[(3, .el (enc_SEngine e2)), (5, .el (Pv.encI ticks)), (10, .ptr 10 0), (12, .el (enc_SFire x2)), (15, .clo 46 [.ptr 10 0, .el (enc_SFire x2)]), (16, .fz 48 [Pv.encI ticks]), (18, .t (tI (w64 (r2.1 - x2.End)))), (43, .t (tS enc_SFire l)), (44, .t (tI (l.length : Int))), (45, .t (tI i2)), (117, .clo 46 [.ptr 10 0, .el (enc_SFire x2)]), (118, .t (tI (w64 (r2.1 - x2.End)))), (119, .fz 48 [Pv.encI ticks]), (120, .el (List.drop 5 (enc_SFire x2))), (121, .t (tI x2.Gap)), (122, .t (tI v18)), (124, .fz 48 [Pv.encI ticks]), (125, .el (List.drop 6 (enc_SFire x2))), (126, .t (tI x2.Extra))], [(10, .box [.own 2928]), (2928, .rows 44 4 v17.length (v17.map enc_SEvent))]⟩) [true, true, true, true, true, true, false, true, true, true, false, false, false] rfl rfl ?_ A_7 ?_
                        · refine TieO.run 1 rfl ?_
                          exact TieO.nil (TieS.leaf ⟨rfl, .of rfl rfl⟩)
                        exact AllA.nil
                      refine TieA.have_ (fuel₁ := 5) (l₁ := [true, true, true, true, true, false, false, true, true, true, false, false, false]) (σ₁ := ⟨[(3, .el (enc_SEngine e2)), (5, .el (Pv.encI ticks)), (10, .ptr 10 0), (12, .el (enc_SFire x2)), (15, .clo 46 [.ptr 10 0, .el (enc_SFire x2)]), (16, .fz 48 [Pv.encI ticks]), (18, .t (tI (w64 (r2.1 - x2.End)))), (43, .t (tS enc_SFire l)), (44, .t (tI (l.length : Int))), (45, .t (tI i2)), (117, .clo 46 [.ptr 10 0, .el (enc_SFire x2)]), (118, .t (tI (w64 (r2.1 - x2.End)))), (119, .fz 48 [Pv.encI ticks]), (120, .el (List.drop 5 (enc_SFire x2))), (121, .t (tI x2.Gap)), (124, .fz 48 [Pv.encI ticks]), (125, .el (List.drop 6 (enc_SFire x2))), (126, .t (tI x2.Extra))], [(10, .box [.own 2928]), (2928, .rows 44 4 v17.length (v17.map enc_SEvent))]⟩) ?_ fun A_9 => ?_
                      · refine TieA.all [5] (by kernel_rfl) rfl ?_
                        refine AllA.cons (σ₁ := ⟨[(3, .el (enc_SEngine e2)), (5, .el (Pv.encI ticks)), (10, .ptr 10 0), (12, .el (enc_SFire x2)), (15, .clo 46 [.ptr 10 0, .el (enc_SFire x2)]), (16, .fz 48 [Pv.encI ticks]), (18, .t (tI (w64 (r2.1 - x2.End)))), (43, .t (tS enc_SFire l)), (44, .t (tI (l.length : Int))), (45, .t (tI i2)), (117, .clo 46 [.ptr 10 0, .el (enc_SFire x2)]), (118, .t (tI (w64 (r2.1 - x2.End)))), (119, .fz 48 [Pv.encI ticks]), (120, .el (List.drop 5 (enc_SFire x2))), (121, .t (tI x2.Gap)), (122, .t (tI v18)), (124, .fz 48 [Pv.encI ticks]), (125, .el (List.drop 6 (enc_SFire x2))), (126, .t (tI x2.Extra))], [(10, .box [.own 2928]), (2928, .rows 44 4 v17.length (v17.map enc_SEvent))]⟩) [true, true, true, true, true, true, false, true, true, true, false, false, false] rfl rfl ?_ A_7 ?_
                        · refine TieO.withH hv18 (TieO.call _ rfl rfl rfl (tie_events_Plan_4 x2.Gap ticks) (fun _ => rfl) (TieO.ifH ?_))
                          exact TieO.nil (TieS.leaf ⟨rfl, .of rfl rfl⟩)
                        exact AllA.nil
                      refine TieA.have_ (fuel₁ := 6) (l₁ := [true, true, true, true, true, false, false, true, true, false, false, false, false]) (σ₁ := ⟨[(3, .el (enc_SEngine e2)), (5, .el (Pv.encI ticks)), (10, .ptr 10 0), (12, .el (enc_SFire x2)), (15, .clo 46 [.ptr 10 0, .el (enc_SFire x2)]), (16, .fz 48 [Pv.encI ticks]), (18, .t (tI (w64 (r2.1 - x2.End)))), (43, .t (tS enc_SFire l)), (44, .t (tI (l.length : Int))), (45, .t (tI i2)), (117, .clo 46 [.ptr 10 0, .el (enc_SFire x2)]), (118, .t (tI (w64 (r2.1 - x2.End)))), (119, .fz 48 [Pv.encI ticks]), (120, .el (List.drop 5 (enc_SFire x2))), (121, .t (tI x2.Gap)), (124, .fz 48 [Pv.encI ticks]), (125, .el (List.drop 6 (enc_SFire x2)))], [(10, .box [.own 2928]), (2928, .rows 44 4 v17.length (v17.map enc_SEvent))]⟩) ?_ fun A_1 => ?_
                      · refine TieA.all [5, 9] (by kernel_rfl) rfl ?_
                        refine AllA.cons (σ₁ := ⟨[(3, .el (enc_SEngine e2)), (5, .el (Pv.encI ticks)), (10, .ptr 10 0), (12, .el (enc_SFire x2)), (15, .clo 46 [.ptr 10 0, .el (enc_SFire x2)]), (16, .fz 48 [Pv.encI ticks]), (18, .t (tI (w64 (r2.1 - x2.End)))), (43, .t (tS enc_SFire l)), (44, .t (tI (l.length : Int))), (45, .t (tI i2)), (117, .clo 46 [.ptr 10 0, .el (enc_SFire x2)]), (118, .t (tI (w64 (r2.1 - x2.End)))), (119, .fz 48 [Pv.encI ticks]), (120, .el (List.drop 5 (enc_SFire x2))), (121, .t (tI x2.Gap)), (122, .t (tI v18)), (124, .fz 48 [Pv.encI ticks]), (125, .el (List.drop 6 (enc_SFire x2)))], [(10, .box [.own 2928]), (2928, .rows 44 4 v17.length (v17.map enc_SEvent))]⟩) [true, true, true, true, true, true, false, true, true, false, false, false, false] rfl rfl ?_ A_2 ?_
                        · refine TieO.withH hv18 (TieO.call _ rfl rfl rfl (tie_events_Plan_4 x2.Gap ticks) (fun _ => rfl) (TieO.ifH ?_))
                          exact TieO.nil (TieS.leaf ⟨rfl, .of rfl rfl⟩)
                        refine AllA.cons (σ₁ := ⟨[(3, .el (enc_SEngine e2)), (5, .el (Pv.encI ticks)), (10, .ptr 10 0), (12, .el (enc_SFire x2)), (15, .clo 46 [.ptr 10 0, .el (enc_SFire x2)]), (16, .fz 48 [Pv.encI ticks]), (18, .t (tI (w64 (r2.1 - x2.End)))), (43, .t (tS enc_SFire l)), (44, .t (tI (l.length : Int))), (45, .t (tI i2)), (117, .clo 46 [.ptr 10 0, .el (enc_SFire x2)]), (118, .t (tI (w64 (r2.1 - x2.End)))), (119, .fz 48 [Pv.encI ticks]), (120, .el (List.drop 5 (enc_SFire x2))), (121, .t (tI x2.Gap)), (124, .fz 48 [Pv.encI ticks]), (125, .el (List.drop 6 (enc_SFire x2))), (126, .t (tI x2.Extra))], [(10, .box [.own 2928]), (2928, .rows 44 4 v17.length (v17.map enc_SEvent))]⟩) [true, true, true, true, true, false, false, true, true, true, false, false, false] rfl rfl ?_ A_9 ?_
                        · refine TieO.run 1 rfl ?_
                          exact TieO.nil (TieS.leaf ⟨rfl, .of rfl rfl⟩)
                        exact AllA.nil
                      refine TieA.have_ (fuel₁ := 6) (l₁ := [true, true, true, true, false, false, false, true, true, true, false, false, false]) (σ₁ := ⟨[(3, .el (enc_SEngine e2)), (5, .el (Pv.encI ticks)), (10, .ptr 10 0), (12, .el (enc_SFire x2)), (15, .clo 46 [.ptr 10 0, .el (enc_SFire x2)]), (16, .fz 48 [Pv.encI ticks]), (18, .t (tI (w64 (r2.1 - x2.End)))), (43, .t (tS enc_SFire l)), (44, .t (tI (l.length : Int))), (45, .t (tI i2)), (117, .clo 46 [.ptr 10 0, .el (enc_SFire x2)]), (118, .t (tI (w64 (r2.1 - x2.End)))), (119, .fz 48 [Pv.encI ticks]), (120, .el (List.drop 5 (enc_SFire x2))), (124, .fz 48 [Pv.encI ticks]), (125, .el (List.drop 6 (enc_SFire x2))), (126, .t (tI x2.Extra))], [(10, .box [.own 2928]), (2928, .rows 44 4 v17.length (v17.map enc_SEvent))]⟩) ?_ fun A_10 => ?_
                      · refine TieA.all [4] (by kernel_rfl) rfl ?_
                        refine AllA.cons (σ₁ := ⟨[(3, .el (enc_SEngine e2)), (5, .el (Pv.encI ticks)), (10, .ptr 10 0), (12, .el (enc_SFire x2)), (15, .clo 46 [.ptr 10 0, .el (enc_SFire x2)]), (16, .fz 48 [Pv.encI ticks]), (18, .t (tI (w64 (r2.1 - x2.End)))), (43, .t (tS enc_SFire l)), (44, .t (tI (l.length : Int))), (45, .t (tI i2)), (117, .clo 46 [.ptr 10 0, .el (enc_SFire x2)]), (118, .t (tI (w64 (r2.1 - x2.End)))), (119, .fz 48 [Pv.encI ticks]), (120, .el (List.drop 5 (enc_SFire x2))), (121, .t (tI x2.Gap)), (124, .fz 48 [Pv.encI ticks]), (125, .el (List.drop 6 (enc_SFire x2))), (126, .t (tI x2.Extra))], [(10, .box [.own 2928]), (2928, .rows 44 4 v17.length (v17.map enc_SEvent))]⟩) [true, true, true, true, true, false, false, true, true, true, false, false, false] rfl rfl ?_ A_9 ?_
                        · refine TieO.run 1 rfl ?_
                          exact TieO.nil (TieS.leaf ⟨rfl, .of rfl rfl⟩)
                        exact AllA.nil
                      refine TieA.move 0 [true, false, false, false, false, false, false, false, false, false, false, false, false] rfl rfl (by first | exact .inl rfl | exact .inr rfl) rfl rfl rfl (by kernel_rfl) (by kernel_rfl) (by kernel_rfl) rfl ?_
                      refine TieA.move 1 [true, true, false, false, false, false, false, false, false, false, false, false, false] rfl rfl (by first | exact .inl rfl | exact .inr rfl) rfl rfl rfl (by kernel_rfl) (by kernel_rfl) (by kernel_rfl) rfl ?_
                      refine TieA.move 2 [true, true, true, false, false, false, false, false, false, false, false, false, false] rfl rfl (by first | exact .inl rfl | exact .inr rfl) rfl rfl rfl (by kernel_rfl) (by kernel_rfl) (by kernel_rfl) rfl ?_
                      refine TieA.fieldE 3 [true, true, true, true, false, false, false, false, false, false, false, false, false] rfl rfl rfl rfl rfl rfl (by kernel_rfl) (by kernel_rfl) (by kernel_rfl) rfl rfl rfl ?_
                      refine TieA.move 7 [true, true, true, true, false, false, false, true, false, false, false, false, false] rfl rfl (by first | exact .inl rfl | exact .inr rfl) rfl rfl rfl (by kernel_rfl) (by kernel_rfl) (by kernel_rfl) rfl ?_
                      refine TieA.fieldE 8 [true, true, true, true, false, false, false, true, true, false, false, false, false] rfl rfl rfl rfl rfl rfl (by kernel_rfl) (by kernel_rfl) (by kernel_rfl) rfl rfl rfl ?_
                      refine TieA.all [4, 9] (by kernel_rfl) rfl ?_
                      refine AllA.cons (σ₁ := ⟨[(3, .el (enc_SEngine e2)), (5, .el (Pv.encI ticks)), (10, .ptr 10 0), (12, .el (enc_SFire x2)), (15, .clo 46 [.ptr 10 0, .el (enc_SFire x2)]), (16, .fz 48 [Pv.encI ticks]), (18, .t (tI (w64 (r2.1 - x2.End)))), (43, .t (tS enc_SFire l)), (44, .t (tI (l.length : Int))), (45, .t (tI i2)), (117, .clo 46 [.ptr 10 0, .el (enc_SFire x2)]), (118, .t (tI (w64 (r2.1 - x2.End)))), (119, .fz 48 [Pv.encI ticks]), (120, .el (List.drop 5 (enc_SFire x2))), (121, .t (tI x2.Gap)), (124, .fz 48 [Pv.encI ticks]), (125, .el (List.drop 6 (enc_SFire x2)))], [(10, .box [.own 2928]), (2928, .rows 44 4 v17.length (v17.map enc_SEvent))]⟩) [true, true, true, true, true, false, false, true, true, false, false, false, false] rfl rfl ?_ A_1 ?_
                      · refine TieO.run 1 rfl ?_
                        exact TieO.nil (TieS.leaf ⟨rfl, .of rfl rfl⟩)
                      refine AllA.cons (σ₁ := ⟨[(3, .el (enc_SEngine e2)), (5, .el (Pv.encI ticks)), (10, .ptr 10 0), (12, .el (enc_SFire x2)), (15, .clo 46 [.ptr 10 0, .el (enc_SFire x2)]), (16, .fz 48 [Pv.encI ticks]), (18, .t (tI (w64 (r2.1 - x2.End)))), (43, .t (tS enc_SFire l)), (44, .t (tI (l.length : Int))), (45, .t (tI i2)), (117, .clo 46 [.ptr 10 0, .el (enc_SFire x2)]), (118, .t (tI (w64 (r2.1 - x2.End)))), (119, .fz 48 [Pv.encI ticks]), (120, .el (List.drop 5 (enc_SFire x2))), (124, .fz 48 [Pv.encI ticks]), (125, .el (List.drop 6 (enc_SFire x2))), (126, .t (tI x2.Extra))], [(10, .box [.own 2928]), (2928, .rows 44 4 v17.length (v17.map enc_SEvent))]⟩) [true, true, true, true, false, false, false, true, true, true, false, false, false] rfl rfl ?_ A_10 ?_
                      · refine TieO.run 1 rfl ?_
                        exact TieO.nil (TieS.leaf ⟨rfl, .of rfl rfl⟩)
                      exact AllA.nil
                    refine TieO.callG [(1000000, 10), (1000001, 2928)] [(900000, 3032)] (fun v20 => ⟨[(3, .el (enc_SEngine e2)), (5, .el (Pv.encI ticks)), (10, .ptr 10 0), (12, .el (enc_SFire x2)), (15, .clo 46 [.ptr 10 0, .el (enc_SFire x2)]), (16, .fz 48 [Pv.encI ticks]), (18, .t (tI (w64 (r2.1 - x2.End)))), (43, .t (tS enc_SFire l)), (44, .t (tI (l.length : Int))), (45, .t (tI i2)), (117, .clo 46 [.ptr 10 0, .el (enc_SFire x2)]), (118, .t (tI (w64 (r2.1 - x2.End)))), (119, .fz 48 [Pv.encI ticks]), (120, .el (List.drop 5 (enc_SFire x2))), (121, .t (tI x2.Gap)), (122, .t (tI v18)), (123, .t (tI (w64 ((w64 (r2.1 - x2.End)) + v18)))), (124, .fz 48 [Pv.encI ticks]), (125, .el (List.drop 6 (enc_SFire x2))), (126, .t (tI x2.Extra)), (127, .t (tI v19)), (128, .t (tI (w64 ((w64 ((w64 (r2.1 - x2.End)) + v18)) + v19)))), (129, .tup [])], [(10, .box [.own 3032]), (3032, .rows 44 4 v20.length (v20.map enc_SEvent))]⟩) (tie_events_Plan_3 (w64 ((w64 ((w64 (r2.1 - x2.End)) + v18)) + v19)) 4 2 v17 x2) rfl rfl rfl rfl rfl rfl rfl (fun _ => rfl) (fun _ => rfl) (fun _ => rfl) (fun _ => .of rfl rfl) fun v20 hv20 => ?_
                    refine TieO.nil ?_
                    exact TieS.leaf ⟨rfl, .of rfl rfl⟩
                  rintro f4 e σ' _ ⟨rfl, hs⟩
                  refine TieX.sub hs ?_
                  refine TieS.endb ?_
                  exact TieS.leaf ⟨rfl, .of rfl rfl⟩
                · refine TieS.skip ?_
                  refine TieS.endb ?_
                  refine TieX.sub (σ' := ⟨[(3, .el (enc_SEngine e2)), (5, .el (Pv.encI ticks)), (10, .ptr 10 0), (43, .t (tS enc_SFire l)), (44, .t (tI (l.length : Int))), (45, .t (tI i2))], [(10, .box [.own 2840]), (2840, .rows 44 4 f3.length (f3.map enc_SEvent))]⟩) (.of rfl rfl) ?_
                  refine TieX.ren [(10, 10), (2840, 3032)] rfl rfl rfl ?_
                  exact TieS.leaf ⟨rfl, .of rfl rfl⟩
            rintro (t | t | t) e σ' _ hq
            · obtain ⟨rfl, hs⟩ := hq
              refine TieX.sub hs ?_
              refine TieS.region ?_
              refine TieO.run 2 rfl ?_
              refine TieO.nil ?_
              exact TieS.leaf ⟨rfl, .of rfl rfl⟩
            · obtain ⟨rfl, hs⟩ := hq
              exact TieX.exitOut rfl ⟨(fun h => by cases h), rfl, hs⟩
            · obtain ⟨rfl, hs⟩ := hq
              exact TieX.ret ⟨(fun h => by cases h), rfl, hs⟩
          · exact TieS.exitOut rfl ⟨(fun h => by cases h), rfl, .of rfl rfl⟩
        rintro (f5 | r3) e σ' _ hq
        · obtain ⟨rfl, hs⟩ := hq
          refine TieX.exit rfl (TieX.sub hs ?_)
          refine TieS.seq ?_
          refine TieS.region ?_
          refine TieO.run 1 rfl ?_
          refine TieO.callG [(1000000, 3032)] [] (fun v21 => ⟨[(10, .ptr 10 0), (131, .own 3032), (132, .tup [])], [(10, .box [.own 3032]), (3032, .rows 44 4 v21.length (v21.map enc_SEvent))]⟩) (tie_slices_SortFunc_sEvent f5 50 [] events_order tie_events_order) rfl rfl rfl rfl rfl rfl rfl (fun _ => rfl) (fun _ => rfl) (fun _ => rfl) (fun _ => .of rfl rfl) fun v21 hv21 => ?_
          refine TieO.nil ?_
          refine TieS.seq ?_
          refine TieS.region ?_
          refine TieO.run 3 rfl ?_
          refine TieO.nil ?_
          exact TieS.ret ⟨.inl rfl, rfl⟩
        · obtain ⟨rfl, hs⟩ := hq
          exact TieX.ret ⟨.inl rfl, hs⟩
      · obtain ⟨rfl, hs⟩ := hq
        exact TieX.ret ⟨.inl rfl, hs⟩
-- slices.Equal[[]magneto/api.Event,magneto/api.Event]
set_option maxRecDepth 100000 in
theorem tie_slices_Equal_sEvent (s1 : List SEvent) (s2 : List SEvent) : TieF Try.prog 23 [.t (tS enc_SEvent s1), .t (tS enc_SEvent s2)] (slices_Equal_sEvent s1 s2) (fun r => .t (tB r)) := by
  refine TieF.intro htab 26 [.tmp 4] Try.call23 Try.func23 rfl rfl rfl (Nat.le_of_ble_eq_true rfl) fun w0 L => ?_
  refine TieS.seq ?_
  refine TieS.region ?_
  refine TieO.run 1 rfl ?_
  refine TieO.nil ?_
  refine TieS.seq ?_
  refine TieS.seq ?_
  refine TieS.region ?_
  refine TieO.run 5 rfl ?_
  refine TieO.nil ?_
  refine TieS.cond rfl ?_ ?_
  · refine TieS.seq ?_
    refine TieS.region ?_
    refine TieO.run 1 rfl ?_
    refine TieO.nil ?_
    exact TieS.ret ⟨.inl rfl, rfl⟩
  · refine TieS.skip ?_
    refine TieS.seq ?_
    refine TieS.seq ?_
    refine TieS.region ?_
    refine TieO.run 3 rfl ?_
    refine TieO.nil ?_
    refine TieS.block ?_
    refine TieS.loop (fun p => ⟨[(0, .t (tS enc_SEvent s1)), (1, .t (tS enc_SEvent s2)), (12, .t (tI (s1.length : Int))), (13, .t (tI p.1))], []⟩) (fun b e σ' => match b with | .inl t => e = .exit 0 ∧ Sub ⟨[], []⟩ σ' | .inr t => e = .ret ∧ retT tab σ' [.tmp 4] = some (((fun r => .t (tB r)) : Bool → T) t)) (.of rfl rfl) ?_ ?_
    · rintro ⟨i, s⟩
      refine TieS.seq ?_
      refine TieS.region ?_
      refine TieO.run 1 rfl ?_
      refine TieO.nil ?_
      refine TieS.seq ?_
      refine TieS.cond rfl ?_ ?_
      · refine TieS.skip ?_
        refine TieS.seq ?_
        refine TieX.sub (σ' := ⟨[(0, .t (tS enc_SEvent s1)), (1, .t (tS enc_SEvent s2)), (12, .t (tI (s1.length : Int))), (13, .t (tI i))], []⟩) (.of rfl rfl) ?_
        refine TieS.bind (Q₁ := fun f e σ' => match f with | .next t => e = .normal ∧ Sub ⟨[(0, .t (tS enc_SEvent s1)), (1, .t (tS enc_SEvent s2)), (12, .t (tI (s1.length : Int))), (13, .t (tI i))], []⟩ σ' | .brk t => e = .exit 0 ∧ Sub ⟨[], []⟩ σ' | .ret t => e = .ret ∧ retT tab σ' [.tmp 4] = some (((fun r => .t (tB r)) : Bool → T) t)) ?_ ?_
        · refine TieS.block ?_
          refine TieS.seq ?_
          refine TieS.region ?_
          refine TieO.run 2 rfl ?_
          refine TieO.nil ?_
          refine TieS.seq ?_
          refine TieX.pre fun x hx => ?_
          refine TieX.pre fun x2 hx2 => ?_
          refine TieS.draw 9 [.t (tS enc_SEvent s1), .t (tI i), .el (enc_SEvent x), .agg [.t (tI x.Angle), .t (tI x.Kind), .t (tI x.Cylinder), .t (tI x.Pulse)], .t (tS enc_SEvent s2), .t (tI i), .el (enc_SEvent x2), .agg [.t (tI x2.Angle), .t (tI x2.Kind), .t (tI x2.Cylinder), .t (tI x2.Pulse)], .t (tB (!((x.Angle == x2.Angle) && ((x.Kind == x2.Kind) && ((x.Cylinder == x2.Cylinder) && ((x.Pulse == x2.Pulse) && true))))))] [(0, .t (tS enc_SEvent s1)), (1, .t (tS enc_SEvent s2)), (5, .t (tI i)), (12, .t (tI (s1.length : Int))), (13, .t (tI i))] [] mixed (.of rfl rfl) rfl rfl rfl rfl (.cons (.quiet rfl rfl rfl) (.cons (.quiet rfl rfl rfl) (.cons (.index hx rfl rfl rfl rfl rfl rfl (fun _ => rfl)) (.cons (.quiet rfl rfl rfl) (.cons (.quiet rfl rfl rfl) (.cons (.quiet rfl rfl rfl) (.cons (.index hx2 rfl rfl rfl rfl rfl rfl (fun _ => rfl)) (.cons (.quiet rfl rfl rfl) (.cons (.neS [.int .i64 x.Angle, .int .i64 x.Kind, .int .i64 x.Cylinder, .int .i64 x.Pulse] [.int .i64 x2.Angle, .int .i64 x2.Kind, .int .i64 x2.Cylinder, .int .i64 x2.Pulse] (eqv_44 x.Angle x.Kind x.Cylinder x.Pulse x2.Angle x2.Kind x2.Cylinder x2.Pulse) rfl rfl rfl rfl) (.nil)))))))))) ?_
          refine TieO.nil ?_
          refine TieS.cond rfl ?_ ?_
          · refine TieS.seq ?_
            refine TieS.region ?_
            refine TieO.run 1 rfl ?_
            refine TieO.nil ?_
            exact TieS.ret ⟨rfl, rfl⟩
          · refine TieS.skip ?_
            refine TieS.endb ?_
            exact TieS.leaf ⟨rfl, .of rfl rfl⟩
        rintro (t | t | t) e σ' _ hq
        · obtain ⟨rfl, hs⟩ := hq
          refine TieX.sub hs ?_
          refine TieS.region ?_
          refine TieO.run 2 rfl ?_
          refine TieO.nil ?_
          exact TieS.leaf ⟨rfl, .of rfl rfl⟩
        · obtain ⟨rfl, hs⟩ := hq
          exact TieX.exitOut rfl ⟨(fun h => by cases h), rfl, hs⟩
        · obtain ⟨rfl, hs⟩ := hq
          exact TieX.ret ⟨(fun h => by cases h), rfl, hs⟩
      · exact TieS.exitOut rfl ⟨(fun h => by cases h), rfl, .of rfl rfl⟩
    rintro (s3 | r2) e σ' _ hq
    · obtain ⟨rfl, hs⟩ := hq
      refine TieX.exit rfl (TieX.sub hs ?_)
      refine TieS.seq ?_
      refine TieS.region ?_
      refine TieO.run 1 rfl ?_
      refine TieO.nil ?_
      exact TieS.ret ⟨.inl rfl, rfl⟩
    · obtain ⟨rfl, hs⟩ := hq
      exact TieX.ret ⟨.inl rfl, hs⟩
-- magneto/magnetolaw23.four
set_option maxRecDepth 100000 in
theorem tie_magnetolaw23_four : TieF Try.prog 37 [] (magnetolaw23_four) (fun r => A_SEngine r) := by
  refine TieF.intro htab 3 [.cell 0 24] Try.call37 Try.func37 rfl rfl rfl (Nat.le_of_ble_eq_true rfl) fun w0 L => ?_
  refine TieS.seq ?_
  refine TieS.region ?_
  refine TieO.run 1 rfl ?_
  refine TieO.nil ?_
  refine TieS.seq ?_
  refine TieS.region ?_
  refine TieO.run 3 rfl ?_
  refine TieO.nil ?_
  exact TieS.ret ⟨.inl rfl, rfl⟩
-- magneto/magnetolaw23.awake
set_option maxRecDepth 100000 in
theorem tie_magnetolaw23_awake : TieF Try.prog 11 [] (magnetolaw23_awake) (fun r => .t (tB r)) := by
  refine TieF.intro htab 34 [.tmp 0] Try.call11 Try.func11 rfl rfl rfl (Nat.le_of_ble_eq_true rfl) fun w0 L => ?_
  refine TieS.seq ?_
  refine TieS.region ?_
  refine TieO.run 1 rfl ?_
  refine TieO.nil ?_
  refine TieS.seq ?_
  refine TieS.region ?_
  refine TieO.call _ rfl rfl rfl (tie_magnetolaw23_four) (fun _ => rfl) fun v => ?_
  refine TieO.call _ rfl rfl rfl (tie_events_Center v 4) (fun _ => rfl) fun r2 => ?_
  refine TieO.run 5 rfl ?_
  refine TieO.nil ?_
  refine TieS.seq ?_
  refine TieS.region ?_
  refine TieO.call _ rfl rfl rfl (tie_magnetolaw23_four) (fun _ => rfl) fun v2 => ?_
  refine TieO.run 2 rfl ?_
  refine TieO.frz 13 rfl ?_
  refine TieO.call _ rfl rfl rfl (tie_events_Plan v2 ([(⟨3, 640, 3000, 0, 0, 0, 0⟩ : SFire)] : List SFire) 20000) (fun _ => rfl) fun r3 => ?_
  refine TieO.run 5 rfl ?_
  refine TieO.nil ?_
  refine TieS.seq ?_
  refine TieS.region ?_
  refine TieO.run 3 rfl ?_
  refine TieO.selAnd (v := (r2.1 == 23040)) 3 19 (fun b => ⟨[(3, .t (tS enc_SEvent r3.1)), (4, .t (tI r3.2)), (22, .t (tB b))], []⟩) rfl ?_ ?_ ?_
  · refine TieO.run 3 rfl ?_
    refine TieO.nil ?_
    exact TieS.leaf ⟨rfl, .of rfl rfl⟩
  · refine TieO.run 3 rfl ?_
    refine TieO.nil ?_
    exact TieS.leaf ⟨rfl, .of rfl rfl⟩
  refine TieO.run 1 rfl ?_
  refine TieO.selAnd (v := (r3.2 == 0)) 3 23 (fun b => ⟨[(3, .t (tS enc_SEvent r3.1)), (26, .t (tB b))], []⟩) rfl ?_ ?_ ?_
  · refine TieO.run 3 rfl ?_
    refine TieO.nil ?_
    exact TieS.leaf ⟨rfl, .of rfl rfl⟩
  · refine TieO.run 3 rfl ?_
    refine TieO.nil ?_
    exact TieS.leaf ⟨rfl, .of rfl rfl⟩
  refine TieO.run 1 rfl ?_
  refine TieO.bind 6 (fun b2 => ⟨[(33, .t (tB b2))], []⟩) (TieO.split 27 rfl ?_ ?_) fun b2 _ => ?_
  · refine TieO.run 4 rfl ?_
    refine TieO.callS _ rfl rfl rfl (tie_slices_Equal_sEvent r3.1 ([(⟨7424, 1, 3, 0⟩ : SEvent), (⟨10880, 2, 3, 0⟩ : SEvent)] : List SEvent)) (fun _ => rfl) (fun _ => rfl) fun v3 => ?_
    refine TieO.run 1 rfl ?_
    refine TieO.nil ?_
    exact TieS.leaf ⟨rfl, .of rfl rfl⟩
  · refine TieO.run 6 rfl ?_
    refine TieO.nil ?_
    exact TieS.leaf ⟨rfl, .of rfl rfl⟩
  refine TieO.run 1 rfl ?_
  refine TieO.nil ?_
  exact TieS.ret ⟨.inl rfl, rfl⟩
-- magneto/magnetoref23.Angle
set_option maxRecDepth 100000 in
theorem tie_magnetoref23_Angle (a : Int) : TieF Try.prog 30 [.t (tI a)] (magnetoref23_Angle a) (fun r => .t (tB r)) := by
  refine TieF.intro htab 9 [.tmp 2] Try.call30 Try.func30 rfl rfl rfl (Nat.le_of_ble_eq_true rfl) fun w0 L => ?_
  refine TieS.seq ?_
  refine TieS.region ?_
  refine TieO.run 1 rfl ?_
  refine TieO.nil ?_
  refine TieS.seq ?_
  refine TieS.region ?_
  refine TieO.run 3 rfl ?_
  refine TieO.selAnd (v := decide (a < 46080)) 3 5 (fun b => ⟨[(8, .t (tB b))], []⟩) rfl ?_ ?_ ?_
  · refine TieO.run 3 rfl ?_
    refine TieO.nil ?_
    exact TieS.leaf ⟨rfl, .of rfl rfl⟩
  · refine TieO.run 3 rfl ?_
    refine TieO.nil ?_
    exact TieS.leaf ⟨rfl, .of rfl rfl⟩
  refine TieO.run 1 rfl ?_
  refine TieO.nil ?_
  exact TieS.ret ⟨.inl rfl, rfl⟩
-- magneto/magnetoref23.Valid
set_option maxRecDepth 100000 in
theorem tie_magnetoref23_Valid (e2 : SEngine) : TieF Try.prog 12 [A_SEngine e2] (magnetoref23_Valid e2) (fun r => .t (tB r)) := by
  refine TieF.intro htab 57 [.tmp 2] Try.call12 Try.func12 rfl rfl rfl (Nat.le_of_ble_eq_true rfl) fun w0 L => ?_
  refine TieS.seq ?_
  refine TieS.region ?_
  refine TieO.run 2 rfl ?_
  refine TieO.nil ?_
  refine TieS.seq ?_
  refine TieS.region ?_
  refine TieO.run 4 rfl ?_
  refine TieO.nil ?_
  refine TieS.seq ?_
  refine TieS.seq ?_
  refine TieS.region ?_
  refine TieO.run 3 rfl ?_
  refine TieO.selOr (v := decide ((e2.Order.length : Int) > 8)) 3 11 (fun b => ⟨[(1, .ptr 1 0), (3, .t (tI (e2.Order.length : Int))), (14, .t (tB b))], [(1, .box [.t (tS Pv.encI e2.Order), .t (tI e2.First)])]⟩) rfl ?_ ?_ ?_
  · refine TieO.run 3 rfl ?_
    refine TieO.nil ?_
    exact TieS.leaf ⟨rfl, .of rfl rfl⟩
  · refine TieO.run 3 rfl ?_
    refine TieO.nil ?_
    exact TieS.leaf ⟨rfl, .of rfl rfl⟩
  refine TieO.run 1 rfl ?_
  refine TieO.bind 5 (fun b2 => ⟨[(1, .ptr 1 0), (3, .t (tI (e2.Order.length : Int))), (20, .t (tB b2))], [(1, .box [.t (tS Pv.encI e2.Order), .t (tI e2.First)])]⟩) (TieO.split 15 rfl ?_ ?_) fun b2 _ => ?_
  · refine TieO.run 5 rfl ?_
    refine TieO.nil ?_
    exact TieS.leaf ⟨rfl, .of rfl rfl⟩
  · refine TieO.run 2 rfl ?_
    refine TieO.call _ rfl rfl rfl (tie_magnetoref23_Angle e2.First) (fun _ => rfl) fun v => ?_
    refine TieO.run 2 rfl ?_
    refine TieO.nil ?_
    exact TieS.leaf ⟨rfl, .of rfl rfl⟩
  refine TieO.nil ?_
  refine TieS.cond rfl ?_ ?_
  · refine TieS.seq ?_
    refine TieS.region ?_
    refine TieO.run 1 rfl ?_
    refine TieO.nil ?_
    exact TieS.ret ⟨.inl rfl, rfl⟩
  · refine TieS.skip ?_
    refine TieS.seq ?_
    refine TieS.seq ?_
    refine TieS.region ?_
    refine TieO.run 1 rfl ?_
    refine TieO.nil ?_
    refine TieS.block ?_
    refine TieS.loop (fun t => ⟨[(1, .ptr 1 0), (3, .t (tI (e2.Order.length : Int))), (4, .t (tI t))], [(1, .box [.t (tS Pv.encI e2.Order), .t (tI e2.First)])]⟩) (fun b e σ' => match b with | .inl t => e = .exit 0 ∧ Sub ⟨[], []⟩ σ' | .inr t => e = .ret ∧ retT tab σ' [.tmp 2] = some (((fun r => .t (tB r)) : Bool → T) t)) (.of rfl rfl) ?_ ?_
    · intro i
      refine TieS.seq ?_
      refine TieS.seq ?_
      refine TieS.region ?_
      refine TieO.run 3 rfl ?_
      refine TieO.nil ?_
      refine TieS.cond rfl ?_ ?_
      · refine TieS.skip ?_
        refine TieS.seq ?_
        refine TieS.block ?_
        refine TieS.seq ?_
        refine TieS.seq ?_
        refine TieS.region ?_
        refine TieO.run 3 rfl ?_
        refine TieO.index rfl rfl rfl rfl rfl rfl rfl rfl (fun _ => rfl) fun x hx => ?_
        refine TieO.run 3 rfl ?_
        refine TieO.bind 8 (fun b3 => ⟨[(1, .ptr 1 0), (3, .t (tI (e2.Order.length : Int))), (4, .t (tI i)), (40, .t (tB b3))], [(1, .box [.t (tS Pv.encI e2.Order), .t (tI e2.First)])]⟩) (TieO.split 32 rfl ?_ ?_) fun b3 _ => ?_
        · refine TieO.run 8 rfl ?_
          refine TieO.nil ?_
          exact TieS.leaf ⟨rfl, .of rfl rfl⟩
        · refine TieO.run 3 rfl ?_
          refine TieO.indexH hx rfl rfl rfl rfl rfl rfl rfl rfl (fun _ => rfl) ?_
          refine TieO.run 4 rfl ?_
          refine TieO.nil ?_
          exact TieS.leaf ⟨rfl, .of rfl rfl⟩
        refine TieO.nil ?_
        refine TieS.cond rfl ?_ ?_
        · refine TieS.seq ?_
          refine TieS.region ?_
          refine TieO.run 1 rfl ?_
          refine TieO.nil ?_
          exact TieS.ret ⟨(fun h => by cases h), rfl, rfl⟩
        · refine TieS.skip ?_
          refine TieS.seq ?_
          refine TieS.region ?_
          refine TieO.run 1 rfl ?_
          refine TieO.nil ?_
          refine TieS.block ?_
          refine TieS.loop (fun t => ⟨[(1, .ptr 1 0), (3, .t (tI (e2.Order.length : Int))), (4, .t (tI i)), (5, .t (tI t))], [(1, .box [.t (tS Pv.encI e2.Order), .t (tI e2.First)])]⟩) (fun b e σ' => match b with | .inl t => e = .exit 2 ∧ Sub ⟨[(1, .ptr 1 0), (3, .t (tI (e2.Order.length : Int))), (4, .t (tI i))], [(1, .box [.t (tS Pv.encI e2.Order), .t (tI e2.First)])]⟩ σ' | .inr t => e = .ret ∧ retT tab σ' [.tmp 2] = some (((fun r => .t (tB r)) : Bool → T) t)) (.of rfl rfl) ?_ ?_
          · intro k
            refine TieS.seq ?_
            refine TieS.seq ?_
            refine TieS.region ?_
            refine TieO.run 3 rfl ?_
            refine TieO.nil ?_
            refine TieS.cond rfl ?_ ?_
            · refine TieS.skip ?_
              refine TieS.seq ?_
              refine TieS.block ?_
              refine TieS.seq ?_
              refine TieX.pre fun x2 hx2 => ?_
              refine TieS.draw 11 [.ptr 1 0, .t (tS Pv.encI e2.Order), .t (tI k), .el (Pv.encI x2), .t (tI x2), .ptr 1 0, .t (tS Pv.encI e2.Order), .t (tI i), .el (Pv.encI x), .t (tI x), .t (tB (x2 == x))] [(1, .ptr 1 0), (3, .t (tI (e2.Order.length : Int))), (4, .t (tI i)), (5, .t (tI k))] [(1, .box [.t (tS Pv.encI e2.Order), .t (tI e2.First)])] mixed (.of rfl rfl) rfl rfl rfl rfl (.cons (.quiet rfl rfl rfl) (.cons (.quiet rfl rfl rfl) (.cons (.quiet rfl rfl rfl) (.cons (.index hx2 rfl rfl rfl rfl rfl rfl (fun _ => rfl)) (.cons (.quiet rfl rfl rfl) (.cons (.quiet rfl rfl rfl) (.cons (.quiet rfl rfl rfl) (.cons (.quiet rfl rfl rfl) (.cons (.index hx rfl rfl rfl rfl rfl rfl (fun _ => rfl)) (.cons (.quiet rfl rfl rfl) (.cons (.quiet rfl rfl rfl) (.nil)))))))))))) ?_
              refine TieO.nil ?_
              refine TieS.cond rfl ?_ ?_
              · refine TieS.seq ?_
                refine TieS.region ?_
                refine TieO.run 1 rfl ?_
                refine TieO.nil ?_
                exact TieS.ret ⟨(fun h => by cases h), rfl, rfl⟩
              · refine TieS.skip ?_
                refine TieS.endb ?_
                refine TieS.region ?_
                refine TieO.run 3 rfl ?_
                refine TieO.nil ?_
                exact TieS.leaf ⟨rfl, .of rfl rfl⟩
            · exact TieS.exitOut rfl ⟨(fun h => by cases h), rfl, .of rfl rfl⟩
          rintro (k2 | r2) e σ' _ hq
          · obtain ⟨rfl, hs⟩ := hq
            refine TieX.exit rfl (TieX.sub hs ?_)
            refine TieS.endb ?_
            refine TieS.region ?_
            refine TieO.run 3 rfl ?_
            refine TieO.nil ?_
            exact TieS.leaf ⟨rfl, .of rfl rfl⟩
          · obtain ⟨rfl, hs⟩ := hq
            exact TieX.ret ⟨(fun h => by cases h), rfl, hs⟩
      · exact TieS.exitOut rfl ⟨(fun h => by cases h), rfl, .of rfl rfl⟩
    rintro (i2 | r3) e σ' _ hq
    · obtain ⟨rfl, hs⟩ := hq
      refine TieX.exit rfl (TieX.sub hs ?_)
      refine TieS.seq ?_
      refine TieS.region ?_
      refine TieO.run 1 rfl ?_
      refine TieO.nil ?_
      exact TieS.ret ⟨.inl rfl, rfl⟩
    · obtain ⟨rfl, hs⟩ := hq
      exact TieX.ret ⟨.inl rfl, hs⟩
-- magneto/magnetoref23.Place
set_option maxRecDepth 100000 in
theorem tie_magnetoref23_Place (e2 : SEngine) (cylinder : Int) : TieF Try.prog 19 [A_SEngine e2, .t (tI cylinder)] (magnetoref23_Place e2 cylinder) (fun r => .t (tI r)) := by
  refine TieF.intro htab 21 [.tmp 4] Try.call19 Try.func19 rfl rfl rfl (Nat.le_of_ble_eq_true rfl) fun w0 L => ?_
  refine TieS.seq ?_
  refine TieS.region ?_
  refine TieO.run 2 rfl ?_
  refine TieO.nil ?_
  refine TieS.seq ?_
  refine TieS.seq ?_
  refine TieS.region ?_
  refine TieO.run 1 rfl ?_
  refine TieO.nil ?_
  refine TieS.block ?_
  refine TieS.loop (fun t => ⟨[(1, .t (tI cylinder)), (2, .ptr 2 0), (5, .t (tI t))], [(2, .box [.t (tS Pv.encI e2.Order), .t (tI e2.First)])]⟩) (fun b e σ' => match b with | .inl t => e = .exit 0 ∧ Sub ⟨[], []⟩ σ' | .inr t => e = .ret ∧ retT tab σ' [.tmp 4] = some (((fun r => .t (tI r)) : Int → T) t)) (.of rfl rfl) ?_ ?_
  · intro i
    refine TieS.seq ?_
    refine TieS.seq ?_
    refine TieS.region ?_
    refine TieO.run 5 rfl ?_
    refine TieO.nil ?_
    refine TieS.cond rfl ?_ ?_
    · refine TieS.skip ?_
      refine TieS.seq ?_
      refine TieS.block ?_
      refine TieS.seq ?_
      refine TieS.region ?_
      refine TieO.run 3 rfl ?_
      refine TieO.index rfl rfl rfl rfl rfl rfl rfl rfl (fun _ => rfl) fun x hx => ?_
      refine TieO.run 3 rfl ?_
      refine TieO.nil ?_
      refine TieS.cond rfl ?_ ?_
      · refine TieS.seq ?_
        refine TieS.region ?_
        refine TieO.run 2 rfl ?_
        refine TieO.nil ?_
        exact TieS.ret ⟨(fun h => by cases h), rfl, rfl⟩
      · refine TieS.skip ?_
        refine TieS.endb ?_
        refine TieS.region ?_
        refine TieO.run 3 rfl ?_
        refine TieO.nil ?_
        exact TieS.leaf ⟨rfl, .of rfl rfl⟩
    · exact TieS.exitOut rfl ⟨(fun h => by cases h), rfl, .of rfl rfl⟩
  rintro (i2 | r2) e σ' _ hq
  · obtain ⟨rfl, hs⟩ := hq
    refine TieX.exit rfl (TieX.sub hs ?_)
    refine TieS.seq ?_
    refine TieS.region ?_
    refine TieO.run 1 rfl ?_
    refine TieO.nil ?_
    exact TieS.ret ⟨.inl rfl, rfl⟩
  · obtain ⟨rfl, hs⟩ := hq
    exact TieX.ret ⟨.inl rfl, hs⟩
-- magneto/magnetoref23.pulse
set_option maxRecDepth 100000 in
theorem tie_magnetoref23_pulse (n2 : Int) : TieF Try.prog 41 [.t (tI n2)] (magnetoref23_pulse n2) (fun r => .t (tB r)) := by
  refine TieF.intro htab 9 [.tmp 2] Try.call41 Try.func41 rfl rfl rfl (Nat.le_of_ble_eq_true rfl) fun w0 L => ?_
  refine TieS.seq ?_
  refine TieS.region ?_
  refine TieO.run 1 rfl ?_
  refine TieO.nil ?_
  refine TieS.seq ?_
  refine TieS.region ?_
  refine TieO.run 3 rfl ?_
  refine TieO.selAnd (v := decide (n2 ≤ 20000)) 3 5 (fun b => ⟨[(8, .t (tB b))], []⟩) rfl ?_ ?_ ?_
  · refine TieO.run 3 rfl ?_
    refine TieO.nil ?_
    exact TieS.leaf ⟨rfl, .of rfl rfl⟩
  · refine TieO.run 3 rfl ?_
    refine TieO.nil ?_
    exact TieS.leaf ⟨rfl, .of rfl rfl⟩
  refine TieO.run 1 rfl ?_
  refine TieO.nil ?_
  exact TieS.ret ⟨.inl rfl, rfl⟩
-- magneto/magnetoref23.Fire
set_option maxRecDepth 100000 in
theorem tie_magnetoref23_Fire (e2 : SEngine) (f2 : SFire) : TieF Try.prog 15 [A_SEngine e2, A_SFire f2] (magnetoref23_Fire e2 f2) (fun r => .t (tB r)) := by
  refine TieF.intro htab 70 [.tmp 4] Try.call15 Try.func15 rfl rfl rfl (Nat.le_of_ble_eq_true rfl) fun w0 L => ?_
  refine TieS.seq ?_
  refine TieS.region ?_
  refine TieO.run 3 rfl ?_
  refine TieO.nil ?_
  refine TieS.seq ?_
  refine TieS.seq ?_
  refine TieS.region ?_
  refine TieO.run 3 rfl ?_
  refine TieO.call _ rfl rfl rfl (tie_magnetoref23_Place e2 f2.Cylinder) (fun _ => rfl) fun v => ?_
  refine TieO.run 2 rfl ?_
  refine TieO.selOr (v := decide (f2.Spark < (-1280))) 4 10 (fun b => ⟨[(3, .ptr 3 0), (14, .t (tB b))], [(3, .box [.t (tI f2.Cylinder), .t (tI f2.Spark), .t (tI f2.Dwell), .t (tI f2.End), .t (tI f2.Inject), .t (tI f2.Gap), .t (tI f2.Extra)])]⟩) rfl ?_ ?_ ?_
  · refine TieO.run 4 rfl ?_
    refine TieO.nil ?_
    exact TieS.leaf ⟨rfl, .of rfl rfl⟩
  · refine TieO.run 4 rfl ?_
    refine TieO.nil ?_
    exact TieS.leaf ⟨rfl, .of rfl rfl⟩
  refine TieO.run 1 rfl ?_
  refine TieO.selOr (v := decide (f2.Spark > 3840)) 4 15 (fun b => ⟨[(3, .ptr 3 0), (19, .t (tB b))], [(3, .box [.t (tI f2.Cylinder), .t (tI f2.Spark), .t (tI f2.Dwell), .t (tI f2.End), .t (tI f2.Inject), .t (tI f2.Gap), .t (tI f2.Extra)])]⟩) rfl ?_ ?_ ?_
  · refine TieO.run 4 rfl ?_
    refine TieO.nil ?_
    exact TieS.leaf ⟨rfl, .of rfl rfl⟩
  · refine TieO.run 4 rfl ?_
    refine TieO.nil ?_
    exact TieS.leaf ⟨rfl, .of rfl rfl⟩
  refine TieO.run 1 rfl ?_
  refine TieO.selOr (v := decide (f2.Dwell < 500)) 4 20 (fun b => ⟨[(3, .ptr 3 0), (24, .t (tB b))], [(3, .box [.t (tI f2.Cylinder), .t (tI f2.Spark), .t (tI f2.Dwell), .t (tI f2.End), .t (tI f2.Inject), .t (tI f2.Gap), .t (tI f2.Extra)])]⟩) rfl ?_ ?_ ?_
  · refine TieO.run 4 rfl ?_
    refine TieO.nil ?_
    exact TieS.leaf ⟨rfl, .of rfl rfl⟩
  · refine TieO.run 4 rfl ?_
    refine TieO.nil ?_
    exact TieS.leaf ⟨rfl, .of rfl rfl⟩
  refine TieO.run 1 rfl ?_
  refine TieO.selOr (v := decide (f2.Dwell > 10000)) 4 25 (fun b => ⟨[(3, .ptr 3 0), (29, .t (tB b))], [(3, .box [.t (tI f2.Cylinder), .t (tI f2.Spark), .t (tI f2.Dwell), .t (tI f2.End), .t (tI f2.Inject), .t (tI f2.Gap), .t (tI f2.Extra)])]⟩) rfl ?_ ?_ ?_
  · refine TieO.run 4 rfl ?_
    refine TieO.nil ?_
    exact TieS.leaf ⟨rfl, .of rfl rfl⟩
  · refine TieO.run 4 rfl ?_
    refine TieO.nil ?_
    exact TieS.leaf ⟨rfl, .of rfl rfl⟩
  refine TieO.run 1 rfl ?_
  refine TieO.selOr (v := decide (f2.End < 0)) 4 30 (fun b => ⟨[(3, .ptr 3 0), (34, .t (tB b))], [(3, .box [.t (tI f2.Cylinder), .t (tI f2.Spark), .t (tI f2.Dwell), .t (tI f2.End), .t (tI f2.Inject), .t (tI f2.Gap), .t (tI f2.Extra)])]⟩) rfl ?_ ?_ ?_
  · refine TieO.run 4 rfl ?_
    refine TieO.nil ?_
    exact TieS.leaf ⟨rfl, .of rfl rfl⟩
  · refine TieO.run 4 rfl ?_
    refine TieO.nil ?_
    exact TieS.leaf ⟨rfl, .of rfl rfl⟩
  refine TieO.run 1 rfl ?_
  refine TieO.selOr (v := decide (f2.End > 23040)) 4 35 (fun b => ⟨[(3, .ptr 3 0), (39, .t (tB b))], [(3, .box [.t (tI f2.Cylinder), .t (tI f2.Spark), .t (tI f2.Dwell), .t (tI f2.End), .t (tI f2.Inject), .t (tI f2.Gap), .t (tI f2.Extra)])]⟩) rfl ?_ ?_ ?_
  · refine TieO.run 4 rfl ?_
    refine TieO.nil ?_
    exact TieS.leaf ⟨rfl, .of rfl rfl⟩
  · refine TieO.run 4 rfl ?_
    refine TieO.nil ?_
    exact TieS.leaf ⟨rfl, .of rfl rfl⟩
  refine TieO.nil ?_
  refine TieS.cond rfl ?_ ?_
  · refine TieS.seq ?_
    refine TieS.region ?_
    refine TieO.run 1 rfl ?_
    refine TieO.nil ?_
    exact TieS.ret ⟨.inl rfl, rfl⟩
  · refine TieS.skip ?_
    refine TieS.seq ?_
    refine TieS.seq ?_
    refine TieS.region ?_
    refine TieO.run 4 rfl ?_
    refine TieO.bind 5 (fun b2 => ⟨[(3, .ptr 3 0), (48, .t (tB b2))], [(3, .box [.t (tI f2.Cylinder), .t (tI f2.Spark), .t (tI f2.Dwell), .t (tI f2.End), .t (tI f2.Inject), .t (tI f2.Gap), .t (tI f2.Extra)])]⟩) (TieO.split 43 rfl ?_ ?_) fun b2 _ => ?_
    · refine TieO.run 2 rfl ?_
      refine TieO.call _ rfl rfl rfl (tie_magnetoref23_pulse f2.Inject) (fun _ => rfl) fun v2 => ?_
      refine TieO.run 2 rfl ?_
      refine TieO.nil ?_
      exact TieS.leaf ⟨rfl, .of rfl rfl⟩
    · refine TieO.run 5 rfl ?_
      refine TieO.nil ?_
      exact TieS.leaf ⟨rfl, .of rfl rfl⟩
    refine TieO.nil ?_
    refine TieS.cond rfl ?_ ?_
    · refine TieS.seq ?_
      refine TieS.region ?_
      refine TieO.run 1 rfl ?_
      refine TieO.nil ?_
      exact TieS.ret ⟨.inl rfl, rfl⟩
    · refine TieS.skip ?_
      refine TieS.seq ?_
      refine TieS.seq ?_
      refine TieS.region ?_
      refine TieO.run 4 rfl ?_
      refine TieO.selAnd (v := (f2.Extra == 0)) 4 52 (fun b => ⟨[(3, .ptr 3 0), (56, .t (tB b))], [(3, .box [.t (tI f2.Cylinder), .t (tI f2.Spark), .t (tI f2.Dwell), .t (tI f2.End), .t (tI f2.Inject), .t (tI f2.Gap), .t (tI f2.Extra)])]⟩) rfl ?_ ?_ ?_
      · refine TieO.run 4 rfl ?_
        refine TieO.nil ?_
        exact TieS.leaf ⟨rfl, .of rfl rfl⟩
      · refine TieO.run 4 rfl ?_
        refine TieO.nil ?_
        exact TieS.leaf ⟨rfl, .of rfl rfl⟩
      refine TieO.nil ?_
      refine TieS.cond rfl ?_ ?_
      · refine TieS.seq ?_
        refine TieS.region ?_
        refine TieO.run 1 rfl ?_
        refine TieO.nil ?_
        exact TieS.ret ⟨.inl rfl, rfl⟩
      · refine TieS.skip ?_
        refine TieS.seq ?_
        refine TieS.region ?_
        refine TieO.run 4 rfl ?_
        refine TieO.bind 4 (fun b3 => ⟨[(3, .ptr 3 0), (64, .t (tB b3))], [(3, .box [.t (tI f2.Cylinder), .t (tI f2.Spark), .t (tI f2.Dwell), .t (tI f2.End), .t (tI f2.Inject), .t (tI f2.Gap), .t (tI f2.Extra)])]⟩) (TieO.split 60 rfl ?_ ?_) fun b3 _ => ?_
        · refine TieO.run 2 rfl ?_
          refine TieO.call _ rfl rfl rfl (tie_magnetoref23_pulse f2.Gap) (fun _ => rfl) fun v3 => ?_
          refine TieO.run 1 rfl ?_
          refine TieO.nil ?_
          exact TieS.leaf ⟨rfl, .of rfl rfl⟩
        · refine TieO.run 4 rfl ?_
          refine TieO.nil ?_
          exact TieS.leaf ⟨rfl, .of rfl rfl⟩
        refine TieO.run 1 rfl ?_
        refine TieO.bind 4 (fun b4 => ⟨[(69, .t (tB b4))], []⟩) (TieO.split 65 rfl ?_ ?_) fun b4 _ => ?_
        · refine TieO.run 2 rfl ?_
          refine TieO.call _ rfl rfl rfl (tie_magnetoref23_pulse f2.Extra) (fun _ => rfl) fun v4 => ?_
          refine TieO.run 1 rfl ?_
          refine TieO.nil ?_
          exact TieS.leaf ⟨rfl, .of rfl rfl⟩
        · refine TieO.run 4 rfl ?_
          refine TieO.nil ?_
          exact TieS.leaf ⟨rfl, .of rfl rfl⟩
        refine TieO.run 1 rfl ?_
        refine TieO.nil ?_
        exact TieS.ret ⟨.inl rfl, rfl⟩
-- magneto/magnetoref23.Pulses
set_option maxRecDepth 100000 in
theorem tie_magnetoref23_Pulses (f2 : SFire) : TieF Try.prog 17 [A_SFire f2] (magnetoref23_Pulses f2) (fun r => .t (tI r)) := by
  refine TieF.intro htab 9 [.tmp 2] Try.call17 Try.func17 rfl rfl rfl (Nat.le_of_ble_eq_true rfl) fun w0 L => ?_
  refine TieS.seq ?_
  refine TieS.region ?_
  refine TieO.run 2 rfl ?_
  refine TieO.nil ?_
  refine TieS.seq ?_
  refine TieS.seq ?_
  refine TieS.region ?_
  refine TieO.run 3 rfl ?_
  refine TieO.nil ?_
  refine TieS.cond rfl ?_ ?_
  · refine TieS.seq ?_
    refine TieS.region ?_
    refine TieO.run 1 rfl ?_
    refine TieO.nil ?_
    exact TieS.ret ⟨.inl rfl, rfl⟩
  · refine TieS.skip ?_
    refine TieS.seq ?_
    refine TieS.seq ?_
    refine TieS.region ?_
    refine TieO.run 3 rfl ?_
    refine TieO.nil ?_
    refine TieS.cond rfl ?_ ?_
    · refine TieS.seq ?_
      refine TieS.region ?_
      refine TieO.run 1 rfl ?_
      refine TieO.nil ?_
      exact TieS.ret ⟨.inl rfl, rfl⟩
    · refine TieS.skip ?_
      refine TieS.seq ?_
      refine TieS.region ?_
      refine TieO.run 1 rfl ?_
      refine TieO.nil ?_
      exact TieS.ret ⟨.inl rfl, rfl⟩
-- magneto/magnetolaw23.EventsValid
set_option maxRecDepth 100000 in
theorem tie_magnetolaw23_EventsValid (e2 : SEngine) (f2 : SFire) : TieF Try.prog 3 [A_SEngine e2, A_SFire f2] (magnetolaw23_EventsValid e2 f2) (fun r => .t (tB r)) := by
  refine TieF.intro htab 33 [.tmp 4] Try.call3 Try.func3 rfl rfl rfl (Nat.le_of_ble_eq_true rfl) fun w0 L => ?_
  refine TieS.seq ?_
  refine TieS.region ?_
  refine TieO.run 3 rfl ?_
  refine TieO.nil ?_
  refine TieS.seq ?_
  refine TieS.seq ?_
  refine TieS.region ?_
  refine TieO.call _ rfl rfl rfl (tie_magnetolaw23_awake) (fun _ => rfl) fun v => ?_
  refine TieO.run 1 rfl ?_
  refine TieO.nil ?_
  refine TieS.cond rfl ?_ ?_
  · refine TieS.seq ?_
    refine TieS.region ?_
    refine TieO.run 1 rfl ?_
    refine TieO.nil ?_
    exact TieS.ret ⟨.inl rfl, rfl⟩
  · refine TieS.skip ?_
    refine TieS.seq ?_
    refine TieS.region ?_
    refine TieO.run 1 rfl ?_
    refine TieO.call _ rfl rfl rfl (tie_magnetoref23_Valid e2) (fun _ => rfl) fun v2 => ?_
    refine TieO.run 1 rfl ?_
    refine TieO.nil ?_
    refine TieS.seq ?_
    refine TieX.pre fun v3 hv3 => ?_
    refine TieX.split (fun hg => ?_) (fun hg8 => ?_)
    · refine TieX.pre fun v4 hv4 => ?_
      refine TieX.split (fun hg2 => ?_) (fun hg5 => ?_)
      · refine TieX.pre fun v5 hv5 => ?_
        refine TieX.split (fun hg3 => ?_) (fun hg4 => ?_)
        · refine TieX.pre fun v6 hv6 => ?_
          refine TieX.pre fun v7 hv7 => ?_
          refine TieS.draw 24 [.agg [.t (tS Pv.encI e2.Order), .t (tI e2.First)], .t (tB v3), .t (tB v2), .t (tB (v3 == v2)), .t (tB true), .agg [.t (tS Pv.encI e2.Order), .t (tI e2.First)], .agg [.t (tI f2.Cylinder), .t (tI f2.Spark), .t (tI f2.Dwell), .t (tI f2.End), .t (tI f2.Inject), .t (tI f2.Gap), .t (tI f2.Extra)], .t (tB v4), .t (tB v2), .t (tB true), .agg [.t (tS Pv.encI e2.Order), .t (tI e2.First)], .agg [.t (tI f2.Cylinder), .t (tI f2.Spark), .t (tI f2.Dwell), .t (tI f2.End), .t (tI f2.Inject), .t (tI f2.Gap), .t (tI f2.Extra)], .t (tB v5), .t (tB v5), .t (tB (v4 == v5)), .t (tB (v4 == v5)), .t (tB true), .agg [.t (tI f2.Cylinder), .t (tI f2.Spark), .t (tI f2.Dwell), .t (tI f2.End), .t (tI f2.Inject), .t (tI f2.Gap), .t (tI f2.Extra)], .t (tI v6), .agg [.t (tI f2.Cylinder), .t (tI f2.Spark), .t (tI f2.Dwell), .t (tI f2.End), .t (tI f2.Inject), .t (tI f2.Gap), .t (tI f2.Extra)], .t (tI v7), .t (tB (v6 == v7)), .t (tB (v6 == v7)), .t (tB (v6 == v7))] [(2, .ptr 2 0), (3, .ptr 3 0), (5, .t (tB v2))] [(2, .box [.t (tS Pv.encI e2.Order), .t (tI e2.First)]), (3, .box [.t (tI f2.Cylinder), .t (tI f2.Spark), .t (tI f2.Dwell), .t (tI f2.End), .t (tI f2.Inject), .t (tI f2.Gap), .t (tI f2.Extra)])] mixed (.of rfl rfl) rfl rfl rfl rfl (.cons (.quiet rfl rfl rfl) (.cons (.callV (tie_events_Valid e2) hv3 rfl rfl rfl rfl) (.cons (.quiet rfl rfl rfl) (.cons (.quiet rfl rfl rfl) (.cons (.cast (congrArg T.B hg) (.quiet rfl rfl rfl)) (.cons (.quiet rfl rfl rfl) (.cons (.quiet rfl rfl rfl) (.cons (.callV (tie_events_ValidFire e2 f2) hv4 rfl rfl rfl rfl) (.cons (.quiet rfl rfl rfl) (.cons (.cast (congrArg T.B hg2) (.quiet rfl rfl rfl)) (.cons (.quiet rfl rfl rfl) (.cons (.quiet rfl rfl rfl) (.cons (.callV (tie_magnetoref23_Fire e2 f2) hv5 rfl rfl rfl rfl) (.cons (.quiet rfl rfl rfl) (.cons (.quiet rfl rfl rfl) (.cons (.quiet rfl rfl rfl) (.cons (.cast (congrArg T.B hg3) (.quiet rfl rfl rfl)) (.cons (.quiet rfl rfl rfl) (.cons (.callV (tie_events_Pulses f2) hv6 rfl rfl rfl rfl) (.cons (.quiet rfl rfl rfl) (.cons (.callV (tie_magnetoref23_Pulses f2) hv7 rfl rfl rfl rfl) (.cons (.quiet rfl rfl rfl) (.cons (.quiet rfl rfl rfl) (.cons (.quiet rfl rfl rfl) (.nil))))))))))))))))))))))))) ?_
          refine TieO.nil ?_
          exact TieS.ret ⟨.inl rfl, rfl⟩
        · refine TieS.draw 24 [.agg [.t (tS Pv.encI e2.Order), .t (tI e2.First)], .t (tB v3), .t (tB v2), .t (tB (v3 == v2)), .t (tB true), .agg [.t (tS Pv.encI e2.Order), .t (tI e2.First)], .agg [.t (tI f2.Cylinder), .t (tI f2.Spark), .t (tI f2.Dwell), .t (tI f2.End), .t (tI f2.Inject), .t (tI f2.Gap), .t (tI f2.Extra)], .t (tB v4), .t (tB v2), .t (tB true), .agg [.t (tS Pv.encI e2.Order), .t (tI e2.First)], .agg [.t (tI f2.Cylinder), .t (tI f2.Spark), .t (tI f2.Dwell), .t (tI f2.End), .t (tI f2.Inject), .t (tI f2.Gap), .t (tI f2.Extra)], .t (tB v5), .t (tB v5), .t (tB (v4 == v5)), .t (tB (v4 == v5)), .t (tB false), .t (.v undef), .t (.v undef), .t (.v undef), .t (.v undef), .t (.v undef), .t (tB false), .t (tB false)] [(2, .ptr 2 0), (3, .ptr 3 0), (5, .t (tB v2))] [(2, .box [.t (tS Pv.encI e2.Order), .t (tI e2.First)]), (3, .box [.t (tI f2.Cylinder), .t (tI f2.Spark), .t (tI f2.Dwell), .t (tI f2.End), .t (tI f2.Inject), .t (tI f2.Gap), .t (tI f2.Extra)])] mixed (.of rfl rfl) rfl rfl rfl rfl (.cons (.quiet rfl rfl rfl) (.cons (.callV (tie_events_Valid e2) hv3 rfl rfl rfl rfl) (.cons (.quiet rfl rfl rfl) (.cons (.quiet rfl rfl rfl) (.cons (.cast (congrArg T.B hg) (.quiet rfl rfl rfl)) (.cons (.quiet rfl rfl rfl) (.cons (.quiet rfl rfl rfl) (.cons (.callV (tie_events_ValidFire e2 f2) hv4 rfl rfl rfl rfl) (.cons (.quiet rfl rfl rfl) (.cons (.cast (congrArg T.B hg2) (.quiet rfl rfl rfl)) (.cons (.quiet rfl rfl rfl) (.cons (.quiet rfl rfl rfl) (.cons (.callV (tie_magnetoref23_Fire e2 f2) hv5 rfl rfl rfl rfl) (.cons (.quiet rfl rfl rfl) (.cons (.quiet rfl rfl rfl) (.cons (.quiet rfl rfl rfl) (.cons (.cast (congrArg T.B hg4) (.quiet rfl rfl rfl)) (.cons (.skip rfl) (.cons (.skip rfl) (.cons (.skip rfl) (.cons (.skip rfl) (.cons (.skip rfl) (.cons (.quiet rfl rfl rfl) (.cons (.quiet rfl rfl rfl) (.nil))))))))))))))))))))))))) ?_
          refine TieO.nil ?_
          exact TieS.ret ⟨.inl rfl, rfl⟩
      · refine TieX.split (fun hg6 => ?_) (fun hg7 => ?_)
        · refine TieX.pre fun v8 hv8 => ?_
          refine TieX.pre fun v9 hv9 => ?_
          refine TieS.draw 24 [.agg [.t (tS Pv.encI e2.Order), .t (tI e2.First)], .t (tB v3), .t (tB v2), .t (tB (v3 == v2)), .t (tB true), .agg [.t (tS Pv.encI e2.Order), .t (tI e2.First)], .agg [.t (tI f2.Cylinder), .t (tI f2.Spark), .t (tI f2.Dwell), .t (tI f2.End), .t (tI f2.Inject), .t (tI f2.Gap), .t (tI f2.Extra)], .t (tB v4), .t (tB v2), .t (tB false), .t (.v undef), .t (.v undef), .t (.v undef), .t (tB false), .t (tB (v4 == false)), .t (tB (v4 == false)), .t (tB true), .agg [.t (tI f2.Cylinder), .t (tI f2.Spark), .t (tI f2.Dwell), .t (tI f2.End), .t (tI f2.Inject), .t (tI f2.Gap), .t (tI f2.Extra)], .t (tI v8), .agg [.t (tI f2.Cylinder), .t (tI f2.Spark), .t (tI f2.Dwell), .t (tI f2.End), .t (tI f2.Inject), .t (tI f2.Gap), .t (tI f2.Extra)], .t (tI v9), .t (tB (v8 == v9)), .t (tB (v8 == v9)), .t (tB (v8 == v9))] [(2, .ptr 2 0), (3, .ptr 3 0), (5, .t (tB v2))] [(2, .box [.t (tS Pv.encI e2.Order), .t (tI e2.First)]), (3, .box [.t (tI f2.Cylinder), .t (tI f2.Spark), .t (tI f2.Dwell), .t (tI f2.End), .t (tI f2.Inject), .t (tI f2.Gap), .t (tI f2.Extra)])] mixed (.of rfl rfl) rfl rfl rfl rfl (.cons (.quiet rfl rfl rfl) (.cons (.callV (tie_events_Valid e2) hv3 rfl rfl rfl rfl) (.cons (.quiet rfl rfl rfl) (.cons (.quiet rfl rfl rfl) (.cons (.cast (congrArg T.B hg) (.quiet rfl rfl rfl)) (.cons (.quiet rfl rfl rfl) (.cons (.quiet rfl rfl rfl) (.cons (.callV (tie_events_ValidFire e2 f2) hv4 rfl rfl rfl rfl) (.cons (.quiet rfl rfl rfl) (.cons (.cast (congrArg T.B hg5) (.quiet rfl rfl rfl)) (.cons (.skip rfl) (.cons (.skip rfl) (.cons (.skip rfl) (.cons (.quiet rfl rfl rfl) (.cons (.quiet rfl rfl rfl) (.cons (.quiet rfl rfl rfl) (.cons (.cast (congrArg T.B hg6) (.quiet rfl rfl rfl)) (.cons (.quiet rfl rfl rfl) (.cons (.callV (tie_events_Pulses f2) hv8 rfl rfl rfl rfl) (.cons (.quiet rfl rfl rfl) (.cons (.callV (tie_magnetoref23_Pulses f2) hv9 rfl rfl rfl rfl) (.cons (.quiet rfl rfl rfl) (.cons (.quiet rfl rfl rfl) (.cons (.quiet rfl rfl rfl) (.nil))))))))))))))))))))))))) ?_
          refine TieO.nil ?_
          exact TieS.ret ⟨.inl rfl, rfl⟩
        · refine TieS.draw 24 [.agg [.t (tS Pv.encI e2.Order), .t (tI e2.First)], .t (tB v3), .t (tB v2), .t (tB (v3 == v2)), .t (tB true), .agg [.t (tS Pv.encI e2.Order), .t (tI e2.First)], .agg [.t (tI f2.Cylinder), .t (tI f2.Spark), .t (tI f2.Dwell), .t (tI f2.End), .t (tI f2.Inject), .t (tI f2.Gap), .t (tI f2.Extra)], .t (tB v4), .t (tB v2), .t (tB false), .t (.v undef), .t (.v undef), .t (.v undef), .t (tB false), .t (tB (v4 == false)), .t (tB (v4 == false)), .t (tB false), .t (.v undef), .t (.v undef), .t (.v undef), .t (.v undef), .t (.v undef), .t (tB false), .t (tB false)] [(2, .ptr 2 0), (3, .ptr 3 0), (5, .t (tB v2))] [(2, .box [.t (tS Pv.encI e2.Order), .t (tI e2.First)]), (3, .box [.t (tI f2.Cylinder), .t (tI f2.Spark), .t (tI f2.Dwell), .t (tI f2.End), .t (tI f2.Inject), .t (tI f2.Gap), .t (tI f2.Extra)])] mixed (.of rfl rfl) rfl rfl rfl rfl (.cons (.quiet rfl rfl rfl) (.cons (.callV (tie_events_Valid e2) hv3 rfl rfl rfl rfl) (.cons (.quiet rfl rfl rfl) (.cons (.quiet rfl rfl rfl) (.cons (.cast (congrArg T.B hg) (.quiet rfl rfl rfl)) (.cons (.quiet rfl rfl rfl) (.cons (.quiet rfl rfl rfl) (.cons (.callV (tie_events_ValidFire e2 f2) hv4 rfl rfl rfl rfl) (.cons (.quiet rfl rfl rfl) (.cons (.cast (congrArg T.B hg5) (.quiet rfl rfl rfl)) (.cons (.skip rfl) (.cons (.skip rfl) (.cons (.skip rfl) (.cons (.quiet rfl rfl rfl) (.cons (.quiet rfl rfl rfl) (.cons (.quiet rfl rfl rfl) (.cons (.cast (congrArg T.B hg7) (.quiet rfl rfl rfl)) (.cons (.skip rfl) (.cons (.skip rfl) (.cons (.skip rfl) (.cons (.skip rfl) (.cons (.skip rfl) (.cons (.quiet rfl rfl rfl) (.cons (.quiet rfl rfl rfl) (.nil))))))))))))))))))))))))) ?_
          refine TieO.nil ?_
          exact TieS.ret ⟨.inl rfl, rfl⟩
    · refine TieS.draw 24 [.agg [.t (tS Pv.encI e2.Order), .t (tI e2.First)], .t (tB v3), .t (tB v2), .t (tB (v3 == v2)), .t (tB false), .t (.v undef), .t (.v undef), .t (.v undef), .t (.v undef), .t (.v undef), .t (.v undef), .t (.v undef), .t (.v undef), .t (.v undef), .t (.v undef), .t (tB false), .t (tB false), .t (.v undef), .t (.v undef), .t (.v undef), .t (.v undef), .t (.v undef), .t (tB false), .t (tB false)] [(2, .ptr 2 0), (3, .ptr 3 0), (5, .t (tB v2))] [(2, .box [.t (tS Pv.encI e2.Order), .t (tI e2.First)]), (3, .box [.t (tI f2.Cylinder), .t (tI f2.Spark), .t (tI f2.Dwell), .t (tI f2.End), .t (tI f2.Inject), .t (tI f2.Gap), .t (tI f2.Extra)])] mixed (.of rfl rfl) rfl rfl rfl rfl (.cons (.quiet rfl rfl rfl) (.cons (.callV (tie_events_Valid e2) hv3 rfl rfl rfl rfl) (.cons (.quiet rfl rfl rfl) (.cons (.quiet rfl rfl rfl) (.cons (.cast (congrArg T.B hg8) (.quiet rfl rfl rfl)) (.cons (.skip rfl) (.cons (.skip rfl) (.cons (.skip rfl) (.cons (.skip rfl) (.cons (.skip rfl) (.cons (.skip rfl) (.cons (.skip rfl) (.cons (.skip rfl) (.cons (.skip rfl) (.cons (.skip rfl) (.cons (.quiet rfl rfl rfl) (.cons (.quiet rfl rfl rfl) (.cons (.skip rfl) (.cons (.skip rfl) (.cons (.skip rfl) (.cons (.skip rfl) (.cons (.skip rfl) (.cons (.quiet rfl rfl rfl) (.cons (.quiet rfl rfl rfl) (.nil))))))))))))))))))))))))) ?_
      refine TieO.nil ?_
      exact TieS.ret ⟨.inl rfl, rfl⟩
-- magneto/magnetoref23.Center
set_option maxRecDepth 100000 in
theorem tie_magnetoref23_Center (e2 : SEngine) (cylinder : Int) : TieF Try.prog 20 [A_SEngine e2, .t (tI cylinder)] (magnetoref23_Center e2 cylinder) (fun r => .t (tI r)) := by
  refine TieF.intro htab 17 [.tmp 4] Try.call20 Try.func20 rfl rfl rfl (Nat.le_of_ble_eq_true rfl) fun w0 L => ?_
  refine TieS.seq ?_
  refine TieS.region ?_
  refine TieO.run 2 rfl ?_
  refine TieO.nil ?_
  refine TieS.seq ?_
  refine TieX.pre fun v hv => ?_
  refine TieX.pre fun q hq => ?_
  refine TieS.draw 13 [.ptr 2 1, .t (tI e2.First), .agg [.t (tS Pv.encI e2.Order), .t (tI e2.First)], .t (tI cylinder), .t (tI v), .t (tI (w64 (v * 46080))), .ptr 2 0, .t (tS Pv.encI e2.Order), .t (tI (e2.Order.length : Int)), .t (tI q), .t (tI (w64 (e2.First + q))), .t (tI (Int.tmod (w64 (e2.First + q)) 46080)), .t (tI (Int.tmod (w64 (e2.First + q)) 46080))] [(1, .t (tI cylinder)), (2, .ptr 2 0)] [(2, .box [.t (tS Pv.encI e2.Order), .t (tI e2.First)])] mixed (.of rfl rfl) rfl rfl rfl rfl (.cons (.quiet rfl rfl rfl) (.cons (.quiet rfl rfl rfl) (.cons (.quiet rfl rfl rfl) (.cons (.quiet rfl rfl rfl) (.cons (.callV (tie_magnetoref23_Place e2 cylinder) hv rfl rfl rfl rfl) (.cons (.quiet rfl rfl rfl) (.cons (.quiet rfl rfl rfl) (.cons (.quiet rfl rfl rfl) (.cons (.quiet rfl rfl rfl) (.cons (.quo hq rfl rfl rfl rfl) (.cons (.quiet rfl rfl rfl) (.cons (.quiet rfl rfl rfl) (.cons (.quiet rfl rfl rfl) (.nil)))))))))))))) ?_
  refine TieO.nil ?_
  exact TieS.ret ⟨.inl rfl, rfl⟩
-- magneto/magnetolaw23.EventsCenters
set_option maxRecDepth 100000 in
theorem tie_magnetolaw23_EventsCenters (e2 : SEngine) (cylinder : Int) : TieF Try.prog 4 [A_SEngine e2, .t (tI cylinder)] (magnetolaw23_EventsCenters e2 cylinder) (fun r => .t (tB r)) := by
  refine TieF.intro htab 45 [.tmp 4] Try.call4 Try.func4 rfl rfl rfl (Nat.le_of_ble_eq_true rfl) fun w0 L => ?_
  refine TieS.seq ?_
  refine TieS.region ?_
  refine TieO.run 2 rfl ?_
  refine TieO.nil ?_
  refine TieS.seq ?_
  refine TieS.seq ?_
  refine TieS.region ?_
  refine TieO.call _ rfl rfl rfl (tie_magnetolaw23_awake) (fun _ => rfl) fun v => ?_
  refine TieO.run 1 rfl ?_
  refine TieO.nil ?_
  refine TieS.cond rfl ?_ ?_
  · refine TieS.seq ?_
    refine TieS.region ?_
    refine TieO.run 1 rfl ?_
    refine TieO.nil ?_
    exact TieS.ret ⟨.inl rfl, rfl⟩
  · refine TieS.skip ?_
    refine TieS.seq ?_
    refine TieS.region ?_
    refine TieO.run 2 rfl ?_
    refine TieO.call _ rfl rfl rfl (tie_events_Center e2 cylinder) (fun _ => rfl) fun r2 => ?_
    refine TieO.run 5 rfl ?_
    refine TieO.nil ?_
    refine TieS.seq ?_
    refine TieS.block ?_
    refine TieS.seq ?_
    refine TieS.region ?_
    refine TieO.run 1 rfl ?_
    refine TieO.call _ rfl rfl rfl (tie_magnetoref23_Valid e2) (fun _ => rfl) fun v2 => ?_
    refine TieO.run 2 rfl ?_
    refine TieO.nil ?_
    refine TieS.cond rfl ?_ ?_
    · refine TieS.seq ?_
      refine TieS.region ?_
      refine TieO.run 3 rfl ?_
      refine TieO.selAnd (v := (r2.1 == 0)) 3 21 (fun b => ⟨[(24, .t (tB b))], []⟩) rfl ?_ ?_ ?_
      · refine TieO.run 3 rfl ?_
        refine TieO.nil ?_
        exact TieS.leaf ⟨rfl, .of rfl rfl⟩
      · refine TieO.run 3 rfl ?_
        refine TieO.nil ?_
        exact TieS.leaf ⟨rfl, .of rfl rfl⟩
      refine TieO.run 1 rfl ?_
      refine TieO.nil ?_
      exact TieS.ret ⟨.inl rfl, rfl⟩
    · refine TieS.seq ?_
      refine TieS.region ?_
      refine TieO.run 2 rfl ?_
      refine TieO.call _ rfl rfl rfl (tie_magnetoref23_Place e2 cylinder) (fun _ => rfl) fun v3 => ?_
      refine TieO.run 2 rfl ?_
      refine TieO.nil ?_
      refine TieS.cond rfl ?_ ?_
      · refine TieS.seq ?_
        refine TieS.region ?_
        refine TieO.run 3 rfl ?_
        refine TieO.selAnd (v := (r2.1 == 0)) 3 32 (fun b => ⟨[(35, .t (tB b))], []⟩) rfl ?_ ?_ ?_
        · refine TieO.run 3 rfl ?_
          refine TieO.nil ?_
          exact TieS.leaf ⟨rfl, .of rfl rfl⟩
        · refine TieO.run 3 rfl ?_
          refine TieO.nil ?_
          exact TieS.leaf ⟨rfl, .of rfl rfl⟩
        refine TieO.run 1 rfl ?_
        refine TieO.nil ?_
        exact TieS.ret ⟨.inl rfl, rfl⟩
      · refine TieS.skip ?_
        refine TieS.endb ?_
        refine TieS.seq ?_
        refine TieS.region ?_
        refine TieO.run 3 rfl ?_
        refine TieO.bind 6 (fun b2 => ⟨[(44, .t (tB b2))], []⟩) (TieO.split 38 rfl ?_ ?_) fun b2 _ => ?_
        · refine TieO.run 3 rfl ?_
          refine TieO.call _ rfl rfl rfl (tie_magnetoref23_Center e2 cylinder) (fun _ => rfl) fun v4 => ?_
          refine TieO.run 2 rfl ?_
          refine TieO.nil ?_
          exact TieS.leaf ⟨rfl, .of rfl rfl⟩
        · refine TieO.run 6 rfl ?_
          refine TieO.nil ?_
          exact TieS.leaf ⟨rfl, .of rfl rfl⟩
        refine TieO.run 1 rfl ?_
        refine TieO.nil ?_
        exact TieS.ret ⟨.inl rfl, rfl⟩
-- magneto/magnetoref23.Turn
set_option maxRecDepth 100000 in
theorem tie_magnetoref23_Turn (d : Int) (ticks : Int) : TieF Try.prog 51 [.t (tI d), .t (tI ticks)] (magnetoref23_Turn d ticks) (fun r => .t (tI r)) := by
  refine TieF.intro htab 9 [.tmp 4] Try.call51 Try.func51 rfl rfl rfl (Nat.le_of_ble_eq_true rfl) fun w0 L => ?_
  refine TieS.seq ?_
  refine TieS.region ?_
  refine TieO.run 1 rfl ?_
  refine TieO.nil ?_
  refine TieS.seq ?_
  refine TieS.region ?_
  refine TieO.run 3 rfl ?_
  refine TieO.quo rfl rfl rfl rfl rfl rfl fun q => ?_
  refine TieO.run 1 rfl ?_
  refine TieO.nil ?_
  exact TieS.ret ⟨.inl rfl, rfl⟩
-- magneto/magnetoref23.around
set_option maxRecDepth 100000 in
theorem tie_magnetoref23_around (a : Int) : TieF Try.prog 60 [.t (tI a)] (magnetoref23_around a) (fun r => .t (tI r)) := by
  refine TieF.intro htab 7 [.tmp 2] Try.call60 Try.func60 rfl rfl rfl (Nat.le_of_ble_eq_true rfl) fun w0 L => ?_
  refine TieS.seq ?_
  refine TieS.region ?_
  refine TieO.run 1 rfl ?_
  refine TieO.nil ?_
  refine TieS.seq ?_
  refine TieS.region ?_
  refine TieO.run 5 rfl ?_
  refine TieO.nil ?_
  exact TieS.ret ⟨.inl rfl, rfl⟩
end Go.Proofs.Ytmocoljbdiphoaa

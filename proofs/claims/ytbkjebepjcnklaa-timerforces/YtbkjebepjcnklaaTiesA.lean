/- Ties, printed by gen.py: each function of the loaded program computes its model. -/
import Derived.Test.YtbkjebepjcnklaaModel
import Derived.Test.YtbkjebepjcnklaaPvXf
import Derived.Test.YtbkjebepjcnklaaProg
import Derived.KernelRfl
namespace Go.Proofs.Ytbkjebepjcnklaa
open Go Go.Pv Go.Proofs
theorem mixed : Try.prog.follows .mixedOrders = true := by kernel_rfl
def tab : Tab := [(3, ⟨1, .int .i64, [.int .i64 0]⟩),
  (4, ⟨1, .bool, [.bool false]⟩),
  (5, ⟨1, .int .u8, [.int .u8 0]⟩),
  (22, ⟨1, .slice 33, [.slice none 0 0]⟩),
  (24, ⟨2, .struct [(0, 1), (1, 1)], [.int .i64 0, .slice none 0 0]⟩),
  (26, ⟨1, .slice 35, [.slice none 0 0]⟩),
  (27, ⟨1, .int .i64, [.int .i64 0]⟩),
  (31, ⟨1, .slice 4, [.slice none 0 0]⟩),
  (33, ⟨4, .struct [(0, 1), (1, 1), (2, 1), (3, 1)], [.bool false, .int .i64 0, .bool false, .bool false]⟩),
  (35, ⟨3, .struct [(0, 1), (1, 1), (2, 1)], [.int .i64 0, .int .i64 0, .bool false]⟩),
  (52, ⟨1, .slice 54, [.slice none 0 0]⟩),
  (54, ⟨4, .struct [(0, 1), (1, 1), (2, 1), (3, 1)], [.int .i64 0, .int .i64 0, .int .i64 0, .bool false]⟩),
  (69, ⟨1, .int .u64, [.int .u64 0]⟩),
  (70, ⟨1, .slice 3, [.slice none 0 0]⟩)]
theorem ti3 : TIok Try.prog 3 ⟨1, .int .i64, [.int .i64 0]⟩ := ⟨Try.t3, _, by kernel_rfl, rfl, Try.underlying3, rfl, ⟨_, rfl, rfl⟩, Nat.le_of_ble_eq_true rfl⟩
theorem ti4 : TIok Try.prog 4 ⟨1, .bool, [.bool false]⟩ := ⟨Try.t4, _, by kernel_rfl, rfl, Try.underlying4, rfl, ⟨_, rfl, rfl⟩, Nat.le_of_ble_eq_true rfl⟩
theorem ti5 : TIok Try.prog 5 ⟨1, .int .u8, [.int .u8 0]⟩ := ⟨Try.t5, _, by kernel_rfl, rfl, Try.underlying5, rfl, ⟨_, rfl, rfl⟩, Nat.le_of_ble_eq_true rfl⟩
theorem ti22 : TIok Try.prog 22 ⟨1, .slice 33, [.slice none 0 0]⟩ := ⟨Try.t22, _, by kernel_rfl, rfl, Try.underlying22, rfl, ⟨_, rfl, rfl⟩, Nat.le_of_ble_eq_true rfl⟩
theorem ti24 : TIok Try.prog 24 ⟨2, .struct [(0, 1), (1, 1)], [.int .i64 0, .slice none 0 0]⟩ := by
  refine ⟨Try.t24, _, by kernel_rfl, rfl, Try.underlying24, ⟨_, rfl, rfl, fun f o n h => ?_⟩, ⟨_, rfl, rfl⟩, Nat.le_of_ble_eq_true rfl⟩
  match f, h with
  | 0, h => cases h; exact ⟨_, Try.t3, rfl, rfl, by kernel_rfl, rfl⟩
  | 1, h => cases h; exact ⟨_, Try.t22, rfl, rfl, by kernel_rfl, rfl⟩
  | _ + 2, h => simp at h
theorem ti26 : TIok Try.prog 26 ⟨1, .slice 35, [.slice none 0 0]⟩ := ⟨Try.t26, _, by kernel_rfl, rfl, Try.underlying26, rfl, ⟨_, rfl, rfl⟩, Nat.le_of_ble_eq_true rfl⟩
theorem ti27 : TIok Try.prog 27 ⟨1, .int .i64, [.int .i64 0]⟩ := ⟨Try.t27, _, by kernel_rfl, rfl, Try.underlying27, rfl, ⟨_, rfl, rfl⟩, Nat.le_of_ble_eq_true rfl⟩
theorem ti31 : TIok Try.prog 31 ⟨1, .slice 4, [.slice none 0 0]⟩ := ⟨Try.t31, _, by kernel_rfl, rfl, Try.underlying31, rfl, ⟨_, rfl, rfl⟩, Nat.le_of_ble_eq_true rfl⟩
theorem ti33 : TIok Try.prog 33 ⟨4, .struct [(0, 1), (1, 1), (2, 1), (3, 1)], [.bool false, .int .i64 0, .bool false, .bool false]⟩ := by
  refine ⟨Try.t33, _, by kernel_rfl, rfl, Try.underlying33, ⟨_, rfl, rfl, fun f o n h => ?_⟩, ⟨_, rfl, rfl⟩, Nat.le_of_ble_eq_true rfl⟩
  match f, h with
  | 0, h => cases h; exact ⟨_, Try.t4, rfl, rfl, by kernel_rfl, rfl⟩
  | 1, h => cases h; exact ⟨_, Try.t3, rfl, rfl, by kernel_rfl, rfl⟩
  | 2, h => cases h; exact ⟨_, Try.t4, rfl, rfl, by kernel_rfl, rfl⟩
  | 3, h => cases h; exact ⟨_, Try.t4, rfl, rfl, by kernel_rfl, rfl⟩
  | _ + 4, h => simp at h
theorem ti35 : TIok Try.prog 35 ⟨3, .struct [(0, 1), (1, 1), (2, 1)], [.int .i64 0, .int .i64 0, .bool false]⟩ := by
  refine ⟨Try.t35, _, by kernel_rfl, rfl, Try.underlying35, ⟨_, rfl, rfl, fun f o n h => ?_⟩, ⟨_, rfl, rfl⟩, Nat.le_of_ble_eq_true rfl⟩
  match f, h with
  | 0, h => cases h; exact ⟨_, Try.t3, rfl, rfl, by kernel_rfl, rfl⟩
  | 1, h => cases h; exact ⟨_, Try.t3, rfl, rfl, by kernel_rfl, rfl⟩
  | 2, h => cases h; exact ⟨_, Try.t4, rfl, rfl, by kernel_rfl, rfl⟩
  | _ + 3, h => simp at h
theorem ti52 : TIok Try.prog 52 ⟨1, .slice 54, [.slice none 0 0]⟩ := ⟨Try.t52, _, by kernel_rfl, rfl, Try.underlying52, rfl, ⟨_, rfl, rfl⟩, Nat.le_of_ble_eq_true rfl⟩
theorem ti54 : TIok Try.prog 54 ⟨4, .struct [(0, 1), (1, 1), (2, 1), (3, 1)], [.int .i64 0, .int .i64 0, .int .i64 0, .bool false]⟩ := by
  refine ⟨Try.t54, _, by kernel_rfl, rfl, Try.underlying54, ⟨_, rfl, rfl, fun f o n h => ?_⟩, ⟨_, rfl, rfl⟩, Nat.le_of_ble_eq_true rfl⟩
  match f, h with
  | 0, h => cases h; exact ⟨_, Try.t3, rfl, rfl, by kernel_rfl, rfl⟩
  | 1, h => cases h; exact ⟨_, Try.t3, rfl, rfl, by kernel_rfl, rfl⟩
  | 2, h => cases h; exact ⟨_, Try.t3, rfl, rfl, by kernel_rfl, rfl⟩
  | 3, h => cases h; exact ⟨_, Try.t4, rfl, rfl, by kernel_rfl, rfl⟩
  | _ + 4, h => simp at h
theorem ti69 : TIok Try.prog 69 ⟨1, .int .u64, [.int .u64 0]⟩ := ⟨Try.t69, _, by kernel_rfl, rfl, Try.underlying69, rfl, ⟨_, rfl, rfl⟩, Nat.le_of_ble_eq_true rfl⟩
theorem ti70 : TIok Try.prog 70 ⟨1, .slice 3, [.slice none 0 0]⟩ := ⟨Try.t70, _, by kernel_rfl, rfl, Try.underlying70, rfl, ⟨_, rfl, rfl⟩, Nat.le_of_ble_eq_true rfl⟩
theorem htab : TabOk Try.prog tab := by
  intro t ti h
  unfold tab at h
  refine tab_step h ti3 fun h => ?_
  refine tab_step h ti4 fun h => ?_
  refine tab_step h ti5 fun h => ?_
  refine tab_step h ti22 fun h => ?_
  refine tab_step h ti24 fun h => ?_
  refine tab_step h ti26 fun h => ?_
  refine tab_step h ti27 fun h => ?_
  refine tab_step h ti31 fun h => ?_
  refine tab_step h ti33 fun h => ?_
  refine tab_step h ti35 fun h => ?_
  refine tab_step h ti52 fun h => ?_
  refine tab_step h ti54 fun h => ?_
  refine tab_step h ti69 fun h => ?_
  refine tab_step h ti70 fun h => ?_
  cases h
theorem eqi_33 (d : Nat) (w : World) (a0 : Bool) (a1 : Int) (a2 : Bool) (a3 : Bool) (b0 : Bool) (b1 : Int) (b2 : Bool) (b3 : Bool) : (Op.equalIn (d + 2) 33 (.agg #[.bool a0, .int .i64 a1, .bool a2, .bool a3]) (.agg #[.bool b0, .int .i64 b1, .bool b2, .bool b3])).run Try.prog w = .ok ((a0 == b0) && ((a1 == b1) && ((a2 == b2) && ((a3 == b3) && true)))) w :=
  eq_struct (d := d + 1) (fs := [⟨ "Armed", 4, 0, false, "", "", 0⟩, ⟨ "At", 3, 1, false, "", "", 8⟩, ⟨ "Next", 4, 2, false, "", "", 16⟩, ⟨ "Level", 4, 3, false, "", "", 17⟩]) (by kernel_rfl) (by kernel_rfl) (by kernel_rfl) (eqf_cons (by decide) (part_one ti4 rfl rfl) (part_one ti4 rfl rfl) (run_equalIn_bool' w _ 4 _ _ Try.underlying4) (eqf_cons (by decide) (part_one ti3 rfl rfl) (part_one ti3 rfl rfl) (run_equalIn_int w _ 3 _ _ _ _ Try.underlying3) (eqf_cons (by decide) (part_one ti4 rfl rfl) (part_one ti4 rfl rfl) (run_equalIn_bool' w _ 4 _ _ Try.underlying4) (eqf_cons (by decide) (part_one ti4 rfl rfl) (part_one ti4 rfl rfl) (run_equalIn_bool' w _ 4 _ _ Try.underlying4) (eqf_nil)))))
theorem eqv_33 (a0 : Bool) (a1 : Int) (a2 : Bool) (a3 : Bool) (b0 : Bool) (b1 : Int) (b2 : Bool) (b3 : Bool) : EqOk Try.prog 33 [.bool a0, .int .i64 a1, .bool a2, .bool a3] [.bool b0, .int .i64 b1, .bool b2, .bool b3] ((a0 == b0) && ((a1 == b1) && ((a2 == b2) && ((a3 == b3) && true)))) := ⟨fun w => eqi_33 9998 w a0 a1 a2 a3 b0 b1 b2 b3, by kernel_rfl⟩
theorem eqi_35 (d : Nat) (w : World) (a0 : Int) (a1 : Int) (a2 : Bool) (b0 : Int) (b1 : Int) (b2 : Bool) : (Op.equalIn (d + 2) 35 (.agg #[.int .i64 a0, .int .i64 a1, .bool a2]) (.agg #[.int .i64 b0, .int .i64 b1, .bool b2])).run Try.prog w = .ok ((a0 == b0) && ((a1 == b1) && ((a2 == b2) && true))) w :=
  eq_struct (d := d + 1) (fs := [⟨ "At", 3, 0, false, "", "", 0⟩, ⟨ "Channel", 3, 1, false, "", "", 8⟩, ⟨ "Level", 4, 2, false, "", "", 16⟩]) (by kernel_rfl) (by kernel_rfl) (by kernel_rfl) (eqf_cons (by decide) (part_one ti3 rfl rfl) (part_one ti3 rfl rfl) (run_equalIn_int w _ 3 _ _ _ _ Try.underlying3) (eqf_cons (by decide) (part_one ti3 rfl rfl) (part_one ti3 rfl rfl) (run_equalIn_int w _ 3 _ _ _ _ Try.underlying3) (eqf_cons (by decide) (part_one ti4 rfl rfl) (part_one ti4 rfl rfl) (run_equalIn_bool' w _ 4 _ _ Try.underlying4) (eqf_nil))))
theorem eqv_35 (a0 : Int) (a1 : Int) (a2 : Bool) (b0 : Int) (b1 : Int) (b2 : Bool) : EqOk Try.prog 35 [.int .i64 a0, .int .i64 a1, .bool a2] [.int .i64 b0, .int .i64 b1, .bool b2] ((a0 == b0) && ((a1 == b1) && ((a2 == b2) && true))) := ⟨fun w => eqi_35 9998 w a0 a1 a2 b0 b1 b2, by kernel_rfl⟩
-- slices.IndexFunc[[]magneto/api.Channel,magneto/api.Channel]
set_option maxRecDepth 100000 in
theorem tie_slices_IndexFunc_sChannel (s : List SChannel) (n2 : Nat) (cs : List (List Tree)) (f2 : SChannel → Option Bool) (h2 : ∀ x0, TieF Try.prog n2 ([A_SChannel x0] ++ cs.map T.el) (f2 x0) (fun r => .t (tB r))) : TieF Try.prog 39 [.t (tS enc_SChannel s), .fz n2 cs] (slices_IndexFunc_sChannel s f2) (fun r => .t (tI r)) := by
  refine TieF.intro htab 19 [.tmp 4] Try.call39 Try.func39 rfl rfl rfl (Nat.le_of_ble_eq_true rfl) fun w0 L => ?_
  refine TieS.seq ?_
  refine TieS.region ?_
  refine TieO.run 1 rfl ?_
  refine TieO.nil ?_
  refine TieS.seq ?_
  refine TieS.seq ?_
  refine TieS.region ?_
  refine TieO.run 3 rfl ?_
  refine TieO.nil ?_
  refine TieS.block ?_
  refine TieS.loop (fun p => ⟨[(0, .t (tS enc_SChannel s)), (1, .fz n2 cs), (7, .t (tI (s.length : Int))), (8, .t (tI p.1))], []⟩) (fun b e σ' => match b with | .inl t => e = .exit 0 ∧ Sub ⟨[], []⟩ σ' | .inr t => e = .ret ∧ retT tab σ' [.tmp 4] = some (((fun r => .t (tI r)) : Int → T) t)) (.of rfl rfl) ?_ ?_
  · rintro ⟨i, s2⟩
    refine TieS.seq ?_
    refine TieS.region ?_
    refine TieO.run 1 rfl ?_
    refine TieO.nil ?_
    refine TieS.seq ?_
    refine TieS.cond rfl ?_ ?_
    · refine TieS.skip ?_
      refine TieS.seq ?_
      refine TieX.sub (σ' := ⟨[(0, .t (tS enc_SChannel s)), (1, .fz n2 cs), (7, .t (tI (s.length : Int))), (8, .t (tI i))], []⟩) (.of rfl rfl) ?_
      refine TieS.bind (Q₁ := fun f e σ' => match f with | .next t => e = .normal ∧ Sub ⟨[(0, .t (tS enc_SChannel s)), (1, .fz n2 cs), (7, .t (tI (s.length : Int))), (8, .t (tI i))], []⟩ σ' | .brk t => e = .exit 0 ∧ Sub ⟨[], []⟩ σ' | .ret t => e = .ret ∧ retT tab σ' [.tmp 4] = some (((fun r => .t (tI r)) : Int → T) t)) ?_ ?_
      · refine TieS.block ?_
        refine TieS.seq ?_
        refine TieS.region ?_
        refine TieO.run 2 rfl ?_
        refine TieO.nil ?_
        refine TieS.seq ?_
        refine TieS.region ?_
        refine TieO.run 3 rfl ?_
        refine TieO.index rfl rfl rfl rfl rfl rfl rfl rfl (fun _ => rfl) fun x hx => ?_
        refine TieO.run 1 rfl ?_
        refine TieO.call _ rfl rfl rfl (h2 x) (fun _ => rfl) fun v => ?_
        refine TieO.nil ?_
        refine TieS.cond rfl ?_ ?_
        · refine TieS.seq ?_
          refine TieS.region ?_
          refine TieO.run 2 rfl ?_
          refine TieO.nil ?_
          exact TieS.ret ⟨rfl, rfl⟩
        · refine TieS.skip ?_
          refine TieS.endb ?_
          exact TieS.leaf ⟨rfl, .of rfl rfl⟩
      rintro (t | t | t) e σ' _ hq
      · obtain ⟨rfl, hs⟩ := hq
        refine TieX.sub hs ?_
        refine TieS.region ?_
        refine TieO.run 2 rfl ?_
        refine TieO.nil ?_
        exact TieS.leaf ⟨rfl, .of rfl rfl⟩
      · obtain ⟨rfl, hs⟩ := hq
        exact TieX.exitOut rfl ⟨(fun h => by cases h), rfl, hs⟩
      · obtain ⟨rfl, hs⟩ := hq
        exact TieX.ret ⟨(fun h => by cases h), rfl, hs⟩
    · exact TieS.exitOut rfl ⟨(fun h => by cases h), rfl, .of rfl rfl⟩
  rintro (s3 | r2) e σ' _ hq
  · obtain ⟨rfl, hs⟩ := hq
    refine TieX.exit rfl (TieX.sub hs ?_)
    refine TieS.seq ?_
    refine TieS.region ?_
    refine TieO.run 1 rfl ?_
    refine TieO.nil ?_
    exact TieS.ret ⟨.inl rfl, rfl⟩
  · obtain ⟨rfl, hs⟩ := hq
    exact TieX.ret ⟨.inl rfl, hs⟩
-- slices.ContainsFunc[[]magneto/api.Channel,magneto/api.Channel]
set_option maxRecDepth 100000 in
theorem tie_slices_ContainsFunc_sChannel (s : List SChannel) (n2 : Nat) (cs : List (List Tree)) (f2 : SChannel → Option Bool) (h2 : ∀ x0, TieF Try.prog n2 ([A_SChannel x0] ++ cs.map T.el) (f2 x0) (fun r => .t (tB r))) : TieF Try.prog 33 [.t (tS enc_SChannel s), .fz n2 cs] (slices_ContainsFunc_sChannel s f2) (fun r => .t (tB r)) := by
  refine TieF.intro htab 9 [.tmp 4] Try.call33 Try.func33 rfl rfl rfl (Nat.le_of_ble_eq_true rfl) fun w0 L => ?_
  refine TieS.seq ?_
  refine TieS.region ?_
  refine TieO.run 1 rfl ?_
  refine TieO.nil ?_
  refine TieS.seq ?_
  refine TieS.region ?_
  refine TieO.run 2 rfl ?_
  refine TieO.call _ rfl rfl rfl (tie_slices_IndexFunc_sChannel s n2 cs f2 h2) (fun _ => rfl) fun v => ?_
  refine TieO.run 2 rfl ?_
  refine TieO.nil ?_
  exact TieS.ret ⟨.inl rfl, rfl⟩
-- magneto/timer.Valid$1
set_option maxRecDepth 100000 in
theorem tie_timer_Valid_1 (c : SChannel) (c2 : STimer) : TieF Try.prog 34 [A_SChannel c, .el (enc_STimer c2)] (timer_Valid_1 c c2) (fun r => .t (tB r)) := by
  refine TieF.intro htab 23 [.tmp 3] Try.call34 Try.func34 rfl rfl rfl (Nat.le_of_ble_eq_true rfl) fun w0 L => ?_
  refine TieS.seq ?_
  refine TieS.region ?_
  refine TieO.run 2 rfl ?_
  refine TieO.nil ?_
  refine TieS.seq ?_
  refine TieS.seq ?_
  refine TieS.region ?_
  refine TieO.run 2 rfl ?_
  refine TieO.nil ?_
  refine TieS.cond rfl ?_ ?_
  · refine TieS.seq ?_
    refine TieS.region ?_
    refine TieO.run 6 rfl ?_
    refine TieO.selOr (v := decide (c.At > 1099511627776)) 4 11 (fun b => ⟨[(15, .t (tB b))], []⟩) rfl ?_ ?_ ?_
    · refine TieO.run 4 rfl ?_
      refine TieO.nil ?_
      exact TieS.leaf ⟨rfl, .of rfl rfl⟩
    · refine TieO.run 4 rfl ?_
      refine TieO.nil ?_
      exact TieS.leaf ⟨rfl, .of rfl rfl⟩
    refine TieO.run 1 rfl ?_
    refine TieO.nil ?_
    exact TieS.ret ⟨.inl rfl, rfl⟩
  · refine TieS.skip ?_
    refine TieS.seq ?_
    refine TieS.region ?_
    refine TieO.run 4 rfl ?_
    refine TieO.selOr (v := c.Next) 3 19 (fun b => ⟨[(22, .t (tB b))], []⟩) rfl ?_ ?_ ?_
    · refine TieO.run 3 rfl ?_
      refine TieO.nil ?_
      exact TieS.leaf ⟨rfl, .of rfl rfl⟩
    · refine TieO.run 3 rfl ?_
      refine TieO.nil ?_
      exact TieS.leaf ⟨rfl, .of rfl rfl⟩
    refine TieO.run 1 rfl ?_
    refine TieO.nil ?_
    exact TieS.ret ⟨.inl rfl, rfl⟩
-- magneto/timer.Valid
set_option maxRecDepth 100000 in
theorem tie_timer_Valid (t2 : STimer) : TieF Try.prog 13 [A_STimer t2] (timer_Valid t2) (fun r => .t (tB r)) := by
  refine TieF.intro htab 28 [.tmp 2] Try.call13 Try.func13 rfl rfl rfl (Nat.le_of_ble_eq_true rfl) fun w0 L => ?_
  refine TieS.seq ?_
  refine TieS.region ?_
  refine TieO.run 2 rfl ?_
  refine TieO.nil ?_
  refine TieS.seq ?_
  refine TieS.seq ?_
  refine TieS.region ?_
  refine TieO.run 4 rfl ?_
  refine TieO.selOr (v := decide (t2.Now > 1099511627776)) 4 6 (fun b => ⟨[(1, .ptr 1 0), (10, .t (tB b))], [(1, .box [.t (tI t2.Now), .t (tS enc_SChannel t2.Channels)])]⟩) rfl ?_ ?_ ?_
  · refine TieO.run 4 rfl ?_
    refine TieO.nil ?_
    exact TieS.leaf ⟨rfl, .of rfl rfl⟩
  · refine TieO.run 4 rfl ?_
    refine TieO.nil ?_
    exact TieS.leaf ⟨rfl, .of rfl rfl⟩
  refine TieO.run 1 rfl ?_
  refine TieO.selOr (v := decide ((t2.Channels.length : Int) < 1)) 5 11 (fun b => ⟨[(1, .ptr 1 0), (16, .t (tB b))], [(1, .box [.t (tI t2.Now), .t (tS enc_SChannel t2.Channels)])]⟩) rfl ?_ ?_ ?_
  · refine TieO.run 5 rfl ?_
    refine TieO.nil ?_
    exact TieS.leaf ⟨rfl, .of rfl rfl⟩
  · refine TieO.run 5 rfl ?_
    refine TieO.nil ?_
    exact TieS.leaf ⟨rfl, .of rfl rfl⟩
  refine TieO.run 1 rfl ?_
  refine TieO.selOr (v := decide ((t2.Channels.length : Int) > 16)) 5 17 (fun b => ⟨[(1, .ptr 1 0), (22, .t (tB b))], [(1, .box [.t (tI t2.Now), .t (tS enc_SChannel t2.Channels)])]⟩) rfl ?_ ?_ ?_
  · refine TieO.run 5 rfl ?_
    refine TieO.nil ?_
    exact TieS.leaf ⟨rfl, .of rfl rfl⟩
  · refine TieO.run 5 rfl ?_
    refine TieO.nil ?_
    exact TieS.leaf ⟨rfl, .of rfl rfl⟩
  refine TieO.nil ?_
  refine TieS.cond rfl ?_ ?_
  · refine TieS.seq ?_
    refine TieS.region ?_
    refine TieO.run 1 rfl ?_
    refine TieO.nil ?_
    exact TieS.ret ⟨.inl rfl, rfl⟩
  · refine TieS.skip ?_
    refine TieS.seq ?_
    refine TieS.region ?_
    refine TieO.run 2 rfl ?_
    refine TieO.frzBox 1 rfl rfl ?_
    refine TieO.run 1 rfl ?_
    refine TieO.sub (σ' := ⟨[(1, .el (enc_STimer t2)), (22, .t (tB ((((decide (t2.Now < 0)) || (decide (t2.Now > 1099511627776))) || (decide ((t2.Channels.length : Int) < 1))) || (decide ((t2.Channels.length : Int) > 16))))), (23, .el (List.drop 1 (enc_STimer t2))), (24, .t (tS enc_SChannel t2.Channels)), (25, .fz 34 [enc_STimer t2])], []⟩) (.of rfl rfl) ?_
    refine TieO.call _ rfl rfl rfl (tie_slices_ContainsFunc_sChannel t2.Channels 34 [enc_STimer t2] (fun x0 => timer_Valid_1 x0 t2) (fun x0 => tie_timer_Valid_1 x0 t2)) (fun _ => rfl) fun v => ?_
    refine TieO.run 2 rfl ?_
    refine TieO.nil ?_
    exact TieS.ret ⟨.inl rfl, rfl⟩
-- magneto/timer.begin
set_option maxRecDepth 100000 in
theorem tie_timer_begin (t2 : STimer) (channel : Int) : TieG Try.prog 28 [A_STimer t2, .t (tI channel)] [] (timer_begin t2 channel) (fun r => .tup [.agg [.t (tI r.1.Now), .own 900000], .t (tI r.2)]) (fun r => [(900000, .rows 33 4 r.1.Channels.length (r.1.Channels.map enc_SChannel))]) := by
  refine TieG.intro htab 32 [.cell 4 24, .tmp 5] Try.call28 Try.func28 rfl rfl rfl (Nat.le_of_ble_eq_true rfl) fun w0 L => ?_
  refine TieS.seq ?_
  refine TieS.region ?_
  refine TieO.run 3 rfl ?_
  refine TieO.nil ?_
  refine TieS.seq ?_
  refine TieS.seq ?_
  refine TieS.region ?_
  refine TieO.run 1 rfl ?_
  refine TieO.call _ rfl rfl rfl (tie_timer_Valid t2) (fun _ => rfl) fun v => ?_
  refine TieO.run 1 rfl ?_
  refine TieO.nil ?_
  refine TieS.cond rfl ?_ ?_
  · refine TieS.seq ?_
    refine TieS.region ?_
    refine TieO.run 3 rfl ?_
    refine TieO.nil ?_
    refine TieX.nilB 4 70000 33 4 [1] rfl rfl rfl rfl rfl ?_
    exact TieS.ret ⟨.inl rfl, ⟨[(70000, 900000)], _, _, rfl, rfl, rfl, rfl, rfl⟩⟩
  · refine TieS.skip ?_
    refine TieS.seq ?_
    refine TieS.seq ?_
    refine TieS.region ?_
    refine TieO.run 3 rfl ?_
    refine TieO.selOr (v := decide (channel ≥ (t2.Channels.length : Int))) 6 13 (fun b => ⟨[(2, .ptr 2 0), (4, .ptr 4 0), (19, .t (tB b))], [(2, .box [.t (tI t2.Now), .t (tS enc_SChannel t2.Channels)]), (4, .box [.t (tI 0), .t (.v (.slice none 0 0))])]⟩) rfl ?_ ?_ ?_
    · refine TieO.run 6 rfl ?_
      refine TieO.nil ?_
      exact TieS.leaf ⟨rfl, .of rfl rfl⟩
    · refine TieO.run 6 rfl ?_
      refine TieO.nil ?_
      exact TieS.leaf ⟨rfl, .of rfl rfl⟩
    refine TieO.nil ?_
    refine TieS.cond rfl ?_ ?_
    · refine TieS.seq ?_
      refine TieS.region ?_
      refine TieO.run 3 rfl ?_
      refine TieO.nil ?_
      refine TieX.nilB 4 70000 33 4 [1] rfl rfl rfl rfl rfl ?_
      exact TieS.ret ⟨.inl rfl, ⟨[(70000, 900000)], _, _, rfl, rfl, rfl, rfl, rfl⟩⟩
    · refine TieS.skip ?_
      refine TieS.seq ?_
      refine TieS.region ?_
      refine TieO.run 3 rfl ?_
      refine TieO.makeO (enc := enc_SChannel) 2192 (⟨false, 0, false, false⟩ : SChannel) rfl rfl rfl rfl rfl rfl rfl rfl rfl rfl rfl rfl rfl fun l hl => ?_
      refine TieO.run 1 rfl ?_
      refine TieO.nil ?_
      refine TieS.seq ?_
      refine TieS.region ?_
      refine TieO.run 3 rfl ?_
      refine TieO.copyO (e2 := 0) (l := l) (r := t2.Channels) rfl rfl rfl rfl (fun _ => rfl) (fun _ => rfl) rfl rfl (.inl rfl) rfl ?_
      refine TieO.nil ?_
      refine TieS.seq ?_
      refine TieS.region ?_
      refine TieO.run 3 rfl ?_
      refine TieO.nil ?_
      refine TieS.seq ?_
      refine TieS.region ?_
      refine TieO.run 3 rfl ?_
      refine TieO.nil ?_
      exact TieS.ret ⟨.inl rfl, ⟨[(2192, 900000)], _, _, rfl, rfl, rfl, rfl, rfl⟩⟩
-- slices.SortFunc[[]magneto/api.Switch,magneto/api.Switch]
set_option maxRecDepth 100000 in
def sortL29_ren : Go.Shelf.Ren := ⟨fun | 6 => 29 | 14 => 36 | 15 => 37 | 20 => 40 | 21 => 41 | 22 => 42 | 23 => 43 | 24 => 44 | 25 => 45 | 26 => 46 | 27 => 47 | 28 => 48 | 29 => 49 | 46 => 50 | 47 => 51 | 48 => 52 | 49 => 53 | 50 => 54 | 57 => 55 | n => n, fun | 0 => 0 | 3 => 3 | 4 => 4 | 5 => 5 | 9 => 9 | 22 => 26 | 24 => 35 | 25 => 62 | 39 => 69 | 45 => 74 | 46 => 75 | 50 => 48 | 53 => 81 | 55 => 83 | 66 => 84 | 70 => 88 | 76 => 90 | 77 => 91 | n => n, fun  | n => n⟩
open Go.Shelf in
theorem sortL29 : SlLaysF0.n6 Try.prog sortL29_ren := {
  mixed := by kernel_rfl,
  f6 := ⟨Try.f29.name, by decide, Try.func29.trans (congrArg some (by kernel_rfl))⟩,
  f14 := ⟨Try.f36.name, by decide, Try.func36.trans (congrArg some (by kernel_rfl))⟩,
  f15 := Try.func37.trans (congrArg some (by kernel_rfl)),
  f20 := ⟨Try.f40.name, by decide, Try.func40.trans (congrArg some (by kernel_rfl))⟩,
  f21 := ⟨Try.f41.name, by decide, Try.func41.trans (congrArg some (by kernel_rfl))⟩,
  f22 := ⟨Try.f42.name, by decide, Try.func42.trans (congrArg some (by kernel_rfl))⟩,
  f23 := ⟨Try.f43.name, by decide, Try.func43.trans (congrArg some (by kernel_rfl))⟩,
  f24 := ⟨Try.f44.name, by decide, Try.func44.trans (congrArg some (by kernel_rfl))⟩,
  f25 := ⟨Try.f45.name, by decide, Try.func45.trans (congrArg some (by kernel_rfl))⟩,
  f26 := ⟨Try.f46.name, by decide, Try.func46.trans (congrArg some (by kernel_rfl))⟩,
  f27 := ⟨Try.f47.name, by decide, Try.func47.trans (congrArg some (by kernel_rfl))⟩,
  f28 := Try.func48.trans (congrArg some (by kernel_rfl)),
  f29 := Try.func49.trans (congrArg some (by kernel_rfl)),
  f46 := ⟨Try.f50.name, by decide, Try.func50.trans (congrArg some (by kernel_rfl))⟩,
  f47 := Try.func51.trans (congrArg some (by kernel_rfl)),
  f48 := Try.func52.trans (congrArg some (by kernel_rfl)),
  f49 := ⟨Try.f53.name, by decide, Try.func53.trans (congrArg some (by kernel_rfl))⟩,
  f50 := ⟨Try.f54.name, by decide, Try.func54.trans (congrArg some (by kernel_rfl))⟩,
  f57 := ⟨Try.f55.name, by decide, Try.func55.trans (congrArg some (by kernel_rfl))⟩,
  t0 := Try.underlying0,
  a0 := Try.isAgg0,
  z0 := Try.sizeOf0,
  v0 := Try.zeroValue0,
  t3 := Try.underlying3,
  a3 := Try.isAgg3,
  z3 := Try.sizeOf3,
  v3 := Try.zeroValue3,
  t4 := Try.underlying4,
  a4 := Try.isAgg4,
  z4 := Try.sizeOf4,
  v4 := Try.zeroValue4,
  t5 := Try.underlying5,
  a5 := Try.isAgg5,
  z5 := Try.sizeOf5,
  v5 := Try.zeroValue5,
  t9 := Try.underlying9,
  a9 := Try.isAgg9,
  z9 := Try.sizeOf9,
  v9 := Try.zeroValue9,
  t22 := Try.underlying26,
  a22 := Try.isAgg26,
  z22 := Try.sizeOf26,
  v22 := Try.zeroValue26,
  t25 := Try.underlying62,
  a25 := Try.isAgg62,
  z25 := Try.sizeOf62,
  v25 := Try.zeroValue62,
  t39 := Try.underlying69,
  a39 := Try.isAgg69,
  z39 := Try.sizeOf69,
  v39 := Try.zeroValue69,
  t45 := Try.underlying74,
  a45 := Try.isAgg74,
  z45 := Try.sizeOf74,
  v45 := Try.zeroValue74,
  t46 := Try.underlying75,
  a46 := Try.isAgg75,
  z46 := Try.sizeOf75,
  v46 := Try.zeroValue75,
  t50 := Try.underlying48,
  a50 := Try.isAgg48,
  z50 := Try.sizeOf48,
  v50 := Try.zeroValue48,
  t53 := Try.underlying81,
  a53 := Try.isAgg81,
  z53 := Try.sizeOf81,
  v53 := Try.zeroValue81,
  t55 := Try.underlying83,
  a55 := Try.isAgg83,
  z55 := Try.sizeOf83,
  v55 := Try.zeroValue83,
  t66 := Try.underlying84,
  a66 := Try.isAgg84,
  z66 := Try.sizeOf84,
  v66 := Try.zeroValue84,
  t70 := Try.underlying88,
  a70 := Try.isAgg88,
  z70 := Try.sizeOf88,
  v70 := Try.zeroValue88,
  t76 := Try.underlying90,
  a76 := Try.isAgg90,
  z76 := Try.sizeOf90,
  v76 := Try.zeroValue90,
  t77 := Try.underlying91,
  a77 := Try.isAgg91,
  z77 := Try.sizeOf91,
  v77 := Try.zeroValue91 }
theorem tie_slices_SortFunc_sSwitch (s : List SSwitch) (n : Nat) (cs : List (List Tree)) (f : SSwitch → SSwitch → Option Int) (h : ∀ x0 x1, TieF Try.prog n ([A_SSwitch x0, A_SSwitch x1] ++ cs.map T.el) (f x0 x1) (fun r => .t (tI r))) :
    TieG Try.prog 29 [.own 1000000, .fz n cs] [(1000000, .rows 35 3 s.length (s.map enc_SSwitch))] (slices_SortFunc_sSwitch s f) (fun _ => .tup []) (fun r => [(1000000, .rows 35 3 r.length (r.map enc_SSwitch))]) :=
  sortFunc_tie (E := SSwitch) (enc := enc_SSwitch) (ρ := sortL29_ren) sortL29 (k := 3) (fun x => [.int .i64 x.At, .int .i64 x.Channel, .bool x.Level]) (fun _ => rfl) (fun _ => rfl) (fun x v hv => by simp only [List.mem_cons, List.not_mem_nil, or_false] at hv; rcases hv with rfl | rfl | rfl <;> rfl) (fun w => Try.isAgg35 w) (fun w => Try.sizeOf35 w) (A := A_SSwitch) (fun _ => rfl) f h s
-- cmp.Or[int]
set_option maxRecDepth 100000 in
theorem tie_cmp_Or_int (vals : List Int) : TieF Try.prog 31 [.t (tS Pv.encI vals)] (cmp_Or_int vals) (fun r => .t (tI r)) := by
  refine TieF.intro htab 18 [.tmp 2] Try.call31 Try.func31 rfl rfl rfl (Nat.le_of_ble_eq_true rfl) fun w0 L => ?_
  refine TieS.seq ?_
  refine TieS.region ?_
  refine TieO.run 1 rfl ?_
  refine TieO.nil ?_
  refine TieS.seq ?_
  refine TieS.region ?_
  refine TieO.run 1 rfl ?_
  refine TieO.nil ?_
  refine TieS.seq ?_
  refine TieS.seq ?_
  refine TieS.region ?_
  refine TieO.run 3 rfl ?_
  refine TieO.nil ?_
  refine TieS.block ?_
  refine TieS.loop (fun p => ⟨[(3, .t (tI 0)), (6, .t (tS Pv.encI vals)), (7, .t (tI (vals.length : Int))), (8, .t (tI p.1))], []⟩) (fun b e σ' => match b with | .inl t => e = .exit 0 ∧ Sub ⟨[(3, .t (tI 0))], []⟩ σ' | .inr t => e = .ret ∧ retT tab σ' [.tmp 2] = some (((fun r => .t (tI r)) : Int → T) t)) (.of rfl rfl) ?_ ?_
  · rintro ⟨i, s⟩
    refine TieS.seq ?_
    refine TieS.region ?_
    refine TieO.run 1 rfl ?_
    refine TieO.nil ?_
    refine TieS.seq ?_
    refine TieS.cond rfl ?_ ?_
    · refine TieS.skip ?_
      refine TieS.seq ?_
      refine TieX.pre fun x hx => ?_
      refine TieX.sub (σ' := ⟨[(3, .t (tI 0)), (6, .t (tS Pv.encI vals)), (7, .t (tI (vals.length : Int))), (8, .t (tI i))], []⟩) (.of rfl rfl) ?_
      refine TieS.bind (Q₁ := fun f e σ' => match f with | .next t => e = .normal ∧ Sub ⟨[(3, .t (tI 0)), (6, .t (tS Pv.encI vals)), (7, .t (tI (vals.length : Int))), (8, .t (tI i))], []⟩ σ' | .brk t => e = .exit 0 ∧ Sub ⟨[(3, .t (tI 0))], []⟩ σ' | .ret t => e = .ret ∧ retT tab σ' [.tmp 2] = some (((fun r => .t (tI r)) : Int → T) t)) ?_ ?_
      · refine TieS.block ?_
        refine TieS.seq ?_
        refine TieS.region ?_
        refine TieO.indexH hx rfl rfl rfl rfl rfl rfl rfl rfl (fun _ => rfl) ?_
        refine TieO.run 2 rfl ?_
        refine TieO.nil ?_
        refine TieS.seq ?_
        refine TieS.region ?_
        refine TieO.run 3 rfl ?_
        refine TieO.nil ?_
        refine TieS.cond rfl ?_ ?_
        · refine TieS.seq ?_
          refine TieS.region ?_
          refine TieO.run 2 rfl ?_
          refine TieO.nil ?_
          exact TieS.ret ⟨rfl, rfl⟩
        · refine TieS.skip ?_
          refine TieS.endb ?_
          exact TieS.leaf ⟨rfl, .of rfl rfl⟩
      rintro (t | t | t) e σ' _ hq
      · obtain ⟨rfl, hs⟩ := hq
        refine TieX.sub hs ?_
        refine TieS.region ?_
        refine TieO.run 2 rfl ?_
        refine TieO.nil ?_
        exact TieS.leaf ⟨rfl, .of rfl rfl⟩
      · obtain ⟨rfl, hs⟩ := hq
        exact TieX.exitOut rfl ⟨(fun h => by cases h), rfl, hs⟩
      · obtain ⟨rfl, hs⟩ := hq
        exact TieX.ret ⟨(fun h => by cases h), rfl, hs⟩
    · exact TieS.exitOut rfl ⟨(fun h => by cases h), rfl, .of rfl rfl⟩
  rintro (s2 | r2) e σ' _ hq
  · obtain ⟨rfl, hs⟩ := hq
    refine TieX.exit rfl (TieX.sub hs ?_)
    refine TieS.seq ?_
    refine TieS.region ?_
    refine TieO.run 2 rfl ?_
    refine TieO.nil ?_
    exact TieS.ret ⟨.inl rfl, rfl⟩
  · obtain ⟨rfl, hs⟩ := hq
    exact TieX.ret ⟨.inl rfl, hs⟩
-- cmp.isNaN[int]
set_option maxRecDepth 100000 in
theorem tie_cmp_isNaN_int (x : Int) : TieF Try.prog 38 [.t (tI x)] (cmp_isNaN_int x) (fun r => .t (tB r)) := by
  refine TieF.intro htab 6 [.tmp 2] Try.call38 Try.func38 rfl rfl rfl (Nat.le_of_ble_eq_true rfl) fun w0 L => ?_
  refine TieS.seq ?_
  refine TieS.region ?_
  refine TieO.run 1 rfl ?_
  refine TieO.nil ?_
  refine TieS.seq ?_
  refine TieS.region ?_
  refine TieO.run 4 rfl ?_
  refine TieO.nil ?_
  exact TieS.ret ⟨.inl rfl, rfl⟩
-- cmp.Compare[int]
set_option maxRecDepth 100000 in
theorem tie_cmp_Compare_int (x : Int) (y : Int) : TieF Try.prog 32 [.t (tI x), .t (tI y)] (cmp_Compare_int x y) (fun r => .t (tI r)) := by
  refine TieF.intro htab 20 [.tmp 4] Try.call32 Try.func32 rfl rfl rfl (Nat.le_of_ble_eq_true rfl) fun w0 L => ?_
  refine TieS.seq ?_
  refine TieS.region ?_
  refine TieO.run 1 rfl ?_
  refine TieO.nil ?_
  refine TieS.seq ?_
  refine TieS.region ?_
  refine TieO.run 1 rfl ?_
  refine TieO.call _ rfl rfl rfl (tie_cmp_isNaN_int x) (fun _ => rfl) fun v => ?_
  refine TieO.run 1 rfl ?_
  refine TieO.nil ?_
  refine TieS.seq ?_
  refine TieS.region ?_
  refine TieO.run 1 rfl ?_
  refine TieO.call _ rfl rfl rfl (tie_cmp_isNaN_int y) (fun _ => rfl) fun v2 => ?_
  refine TieO.run 1 rfl ?_
  refine TieO.nil ?_
  refine TieS.seq ?_
  refine TieS.seq ?_
  refine TieS.region ?_
  refine TieO.run 1 rfl ?_
  refine TieO.nil ?_
  refine TieS.cond rfl ?_ ?_
  · refine TieS.seq ?_
    refine TieS.seq ?_
    refine TieS.region ?_
    refine TieO.run 1 rfl ?_
    refine TieO.nil ?_
    refine TieS.cond rfl ?_ ?_
    · refine TieS.seq ?_
      refine TieS.region ?_
      refine TieO.run 1 rfl ?_
      refine TieO.nil ?_
      exact TieS.ret ⟨.inl rfl, rfl⟩
    · refine TieS.skip ?_
      refine TieS.seq ?_
      refine TieS.region ?_
      refine TieO.run 1 rfl ?_
      refine TieO.nil ?_
      exact TieS.ret ⟨.inl rfl, rfl⟩
  · refine TieS.skip ?_
    refine TieS.seq ?_
    refine TieS.seq ?_
    refine TieS.region ?_
    refine TieO.run 1 rfl ?_
    refine TieO.nil ?_
    refine TieS.cond rfl ?_ ?_
    · refine TieS.seq ?_
      refine TieS.region ?_
      refine TieO.run 1 rfl ?_
      refine TieO.nil ?_
      exact TieS.ret ⟨.inl rfl, rfl⟩
    · refine TieS.skip ?_
      refine TieS.seq ?_
      refine TieS.seq ?_
      refine TieS.region ?_
      refine TieO.run 3 rfl ?_
      refine TieO.nil ?_
      refine TieS.cond rfl ?_ ?_
      · refine TieS.seq ?_
        refine TieS.region ?_
        refine TieO.run 1 rfl ?_
        refine TieO.nil ?_
        exact TieS.ret ⟨.inl rfl, rfl⟩
      · refine TieS.skip ?_
        refine TieS.seq ?_
        refine TieS.seq ?_
        refine TieS.region ?_
        refine TieO.run 3 rfl ?_
        refine TieO.nil ?_
        refine TieS.cond rfl ?_ ?_
        · refine TieS.seq ?_
          refine TieS.region ?_
          refine TieO.run 1 rfl ?_
          refine TieO.nil ?_
          exact TieS.ret ⟨.inl rfl, rfl⟩
        · refine TieS.skip ?_
          refine TieS.seq ?_
          refine TieS.region ?_
          refine TieO.run 1 rfl ?_
          refine TieO.nil ?_
          exact TieS.ret ⟨.inl rfl, rfl⟩
-- magneto/timer.Advance$1
set_option maxRecDepth 100000 in
theorem tie_timer_Advance_1 (a : SSwitch) (b2 : SSwitch) : TieF Try.prog 30 [A_SSwitch a, A_SSwitch b2] (timer_Advance_1 a b2) (fun r => .t (tI r)) := by
  refine TieF.intro htab 17 [.tmp 4] Try.call30 Try.func30 rfl rfl rfl (Nat.le_of_ble_eq_true rfl) fun w0 L => ?_
  refine TieS.seq ?_
  refine TieS.region ?_
  refine TieO.run 3 rfl ?_
  refine TieO.nil ?_
  refine TieS.seq ?_
  refine TieX.pre fun v hv => ?_
  refine TieX.pre fun v2 hv2 => ?_
  refine TieS.draw 10 [.ptr 2 0, .t (tI a.At), .ptr 3 0, .t (tI b2.At), .t (tI v), .ptr 2 1, .t (tI a.Channel), .ptr 3 1, .t (tI b2.Channel), .t (tI v2)] [(2, .ptr 2 0), (3, .ptr 3 0), (4, .t (tI 0))] [(2, .box [.t (tI a.At), .t (tI a.Channel), .t (tB a.Level)]), (3, .box [.t (tI b2.At), .t (tI b2.Channel), .t (tB b2.Level)])] mixed (.of rfl rfl) rfl rfl rfl rfl (.cons (.quiet rfl rfl rfl) (.cons (.quiet rfl rfl rfl) (.cons (.quiet rfl rfl rfl) (.cons (.quiet rfl rfl rfl) (.cons (.callV (tie_cmp_Compare_int a.At b2.At) hv rfl rfl rfl rfl) (.cons (.quiet rfl rfl rfl) (.cons (.quiet rfl rfl rfl) (.cons (.quiet rfl rfl rfl) (.cons (.quiet rfl rfl rfl) (.cons (.callV (tie_cmp_Compare_int a.Channel b2.Channel) hv2 rfl rfl rfl rfl) (.nil))))))))))) ?_
  refine TieO.run 1 rfl ?_
  refine TieO.callS _ rfl rfl rfl (tie_cmp_Or_int ([v, v2] : List Int)) (fun _ => rfl) (fun _ => rfl) fun v3 => ?_
  refine TieO.run 1 rfl ?_
  refine TieO.nil ?_
  exact TieS.ret ⟨.inl rfl, rfl⟩
-- magneto/timer.Advance
set_option maxRecDepth 100000 in
theorem tie_timer_Advance (t2 : STimer) (v_to : Int) : TieF Try.prog 11 [A_STimer t2, .t (tI v_to)] (timer_Advance t2 v_to) (fun r => .tup [A_STimer r.1, .t (tS enc_SSwitch r.2.1), .t (tI r.2.2)]) := by
  refine TieF.intro htab 77 [.cell 4 24, .tmp 5, .tmp 6] Try.call11 Try.func11 rfl rfl rfl (Nat.le_of_ble_eq_true rfl) fun w0 L => ?_
  refine TieS.seq ?_
  refine TieS.region ?_
  refine TieO.run 4 rfl ?_
  refine TieO.nil ?_
  refine TieS.seq ?_
  refine TieS.region ?_
  refine TieO.run 1 rfl ?_
  refine TieO.callG [] [(900000, 2112)] (fun r2 => ⟨[(0, .agg [.t (tI t2.Now), .t (tS enc_SChannel t2.Channels)]), (1, .t (tI v_to)), (2, .ptr 2 0), (4, .ptr 4 0), (5, .t (.v (.slice none 0 0))), (6, .t (tI 0)), (13, .agg [.t (tI t2.Now), .t (tS enc_SChannel t2.Channels)]), (14, .tup [.agg [.t (tI r2.1.Now), .own 2112], .t (tI r2.2)])], [(2, .box [.t (tI t2.Now), .t (tS enc_SChannel t2.Channels)]), (4, .box [.t (tI 0), .t (.v (.slice none 0 0))]), (2112, .rows 33 4 r2.1.Channels.length (r2.1.Channels.map enc_SChannel))]⟩) (tie_timer_begin t2 0) rfl rfl rfl rfl rfl rfl rfl (fun _ => rfl) (fun _ => rfl) (fun _ => rfl) (fun _ => .of rfl rfl) fun r2 hr2 => ?_
  refine TieO.run 6 rfl ?_
  refine TieO.nil ?_
  refine TieS.seq ?_
  refine TieS.block ?_
  refine TieS.seq ?_
  refine TieS.region ?_
  refine TieO.run 3 rfl ?_
  refine TieO.nil ?_
  refine TieS.cond rfl ?_ ?_
  · refine TieS.seq ?_
    refine TieS.region ?_
    refine TieO.run 5 rfl ?_
    refine TieO.nil ?_
    exact TieS.ret ⟨.inl rfl, rfl⟩
  · refine TieS.seq ?_
    refine TieS.region ?_
    refine TieO.run 5 rfl ?_
    refine TieO.nil ?_
    refine TieS.cond rfl ?_ ?_
    · refine TieS.seq ?_
      refine TieS.region ?_
      refine TieO.run 4 rfl ?_
      refine TieO.nil ?_
      exact TieS.ret ⟨.inl rfl, rfl⟩
    · refine TieS.seq ?_
      refine TieS.region ?_
      refine TieO.run 3 rfl ?_
      refine TieO.nil ?_
      refine TieS.cond rfl ?_ ?_
      · refine TieS.seq ?_
        refine TieS.region ?_
        refine TieO.run 4 rfl ?_
        refine TieO.nil ?_
        exact TieS.ret ⟨.inl rfl, rfl⟩
      · refine TieS.skip ?_
        refine TieS.endb ?_
        refine TieS.seq ?_
        refine TieS.region ?_
        refine TieO.run 1 rfl ?_
        refine TieO.nil ?_
        refine TieS.seq ?_
        refine TieS.seq ?_
        refine TieS.region ?_
        refine TieO.run 4 rfl ?_
        refine TieO.nil ?_
        refine TieS.block ?_
        refine TieX.nilP 9 2496 35 3 [] rfl rfl rfl rfl rfl ?_
        refine TieS.loop (fun p => ⟨[(1, .t (tI v_to)), (4, .ptr 4 0), (7, .ptr 7 0), (9, .own 2496), (33, .t (tS enc_SChannel t2.Channels)), (34, .t (tI (t2.Channels.length : Int))), (35, .t (tI p.1))], [(4, .box [.t (tI 0), .t (.v (.slice none 0 0))]), (7, .box [.t (tI r2.1.Now), .own 2112]), (2112, .rows 33 4 p.2.2.length (p.2.2.map enc_SChannel)), (2496, .rows 35 3 p.2.1.length (p.2.1.map enc_SSwitch))]⟩) (fun b e σ' => match b with | .inl t => e = .exit 1 ∧ Sub ⟨[(1, .t (tI v_to)), (4, .ptr 4 0), (7, .ptr 7 0), (9, .own 2496)], [(4, .box [.t (tI 0), .t (.v (.slice none 0 0))]), (7, .box [.t (tI r2.1.Now), .own 2112]), (2112, .rows 33 4 t.2.length (t.2.map enc_SChannel)), (2496, .rows 35 3 t.1.length (t.1.map enc_SSwitch))]⟩ σ' | .inr t => False) (.of rfl rfl) ?_ ?_
        · rintro ⟨i, s⟩
          refine TieS.seq ?_
          refine TieS.region ?_
          refine TieO.run 1 rfl ?_
          refine TieO.nil ?_
          refine TieS.seq ?_
          refine TieS.cond rfl ?_ ?_
          · refine TieS.skip ?_
            refine TieS.seq ?_
            refine TieX.sub (σ' := ⟨[(1, .t (tI v_to)), (4, .ptr 4 0), (7, .ptr 7 0), (9, .own 2496), (33, .t (tS enc_SChannel t2.Channels)), (34, .t (tI (t2.Channels.length : Int))), (35, .t (tI i))], [(4, .box [.t (tI 0), .t (.v (.slice none 0 0))]), (7, .box [.t (tI r2.1.Now), .own 2112]), (2112, .rows 33 4 s.2.length (s.2.map enc_SChannel)), (2496, .rows 35 3 s.1.length (s.1.map enc_SSwitch))]⟩) (.of rfl rfl) ?_
            refine TieS.bind (Q₁ := fun f e σ' => match f with | .next t => e = .normal ∧ Sub ⟨[(1, .t (tI v_to)), (4, .ptr 4 0), (7, .ptr 7 0), (9, .own 2496), (33, .t (tS enc_SChannel t2.Channels)), (34, .t (tI (t2.Channels.length : Int))), (35, .t (tI i))], [(4, .box [.t (tI 0), .t (.v (.slice none 0 0))]), (7, .box [.t (tI r2.1.Now), .own 2112]), (2112, .rows 33 4 t.2.length (t.2.map enc_SChannel)), (2496, .rows 35 3 t.1.length (t.1.map enc_SSwitch))]⟩ σ' | .brk t => e = .exit 1 ∧ Sub ⟨[(1, .t (tI v_to)), (4, .ptr 4 0), (7, .ptr 7 0), (9, .own 2496)], [(4, .box [.t (tI 0), .t (.v (.slice none 0 0))]), (7, .box [.t (tI r2.1.Now), .own 2112]), (2112, .rows 33 4 t.2.length (t.2.map enc_SChannel)), (2496, .rows 35 3 t.1.length (t.1.map enc_SSwitch))]⟩ σ' | .ret r => False) ?_ ?_
            · refine TieS.block ?_
              refine TieS.seq ?_
              refine TieS.region ?_
              refine TieO.run 1 rfl ?_
              refine TieO.index rfl rfl rfl rfl rfl rfl rfl rfl (fun _ => rfl) fun x hx => ?_
              refine TieO.run 4 rfl ?_
              refine TieO.nil ?_
              refine TieS.seq ?_
              refine TieS.seq ?_
              refine TieS.region ?_
              refine TieO.run 4 rfl ?_
              refine TieO.selOr (v := decide (x.At > v_to)) 5 43 (fun b => ⟨[(1, .t (tI v_to)), (4, .ptr 4 0), (7, .ptr 7 0), (9, .own 2496), (10, .t (tI i)), (11, .ptr 11 0), (33, .t (tS enc_SChannel t2.Channels)), (34, .t (tI (t2.Channels.length : Int))), (35, .t (tI i)), (48, .t (tB b))], [(4, .box [.t (tI 0), .t (.v (.slice none 0 0))]), (7, .box [.t (tI r2.1.Now), .own 2112]), (11, .box [.t (tB x.Armed), .t (tI x.At), .t (tB x.Next), .t (tB x.Level)]), (2112, .rows 33 4 s.2.length (s.2.map enc_SChannel)), (2496, .rows 35 3 s.1.length (s.1.map enc_SSwitch))]⟩) rfl ?_ ?_ ?_
              · refine TieO.run 5 rfl ?_
                refine TieO.nil ?_
                exact TieS.leaf ⟨rfl, .of rfl rfl⟩
              · refine TieO.run 5 rfl ?_
                refine TieO.nil ?_
                exact TieS.leaf ⟨rfl, .of rfl rfl⟩
              refine TieO.nil ?_
              refine TieS.cond rfl ?_ ?_
              · refine TieS.exit rfl ?_
                exact TieS.leaf ⟨rfl, .of rfl rfl⟩
              · refine TieS.skip ?_
                refine TieS.seq ?_
                refine TieS.seq ?_
                refine TieS.region ?_
                refine TieO.run 5 rfl ?_
                refine TieO.nil ?_
                refine TieS.bind (Q₁ := fun t e σ' => e = .normal ∧ Sub ⟨[(1, .t (tI v_to)), (4, .ptr 4 0), (7, .ptr 7 0), (9, .own 2496), (10, .t (tI i)), (11, .ptr 11 0), (33, .t (tS enc_SChannel t2.Channels)), (34, .t (tI (t2.Channels.length : Int))), (35, .t (tI i))], [(4, .box [.t (tI 0), .t (.v (.slice none 0 0))]), (7, .box [.t (tI r2.1.Now), .own 2112]), (11, .box [.t (tB x.Armed), .t (tI x.At), .t (tB x.Next), .t (tB x.Level)]), (2112, .rows 33 4 s.2.length (s.2.map enc_SChannel)), (2496, .rows 35 3 t.length (t.map enc_SSwitch))]⟩ σ') ?_ ?_
                · refine TieS.cond rfl ?_ ?_
                  · refine TieS.region ?_
                    refine TieO.run 8 rfl ?_
                    refine TieO.appendY (id := 2496) (l := s.1) (r := ([(⟨x.At, i, x.Next⟩ : SSwitch)] : List SSwitch)) (tm' := [(1, .t (tI v_to)), (4, .ptr 4 0), (7, .ptr 7 0), (10, .t (tI i)), (11, .ptr 11 0), (33, .t (tS enc_SChannel t2.Channels)), (34, .t (tI (t2.Channels.length : Int))), (35, .t (tI i)), (48, .t (tB ((!x.Armed) || (decide (x.At > v_to))))), (49, .ptr 11 2), (50, .t (tB x.Next)), (51, .ptr 11 3), (52, .t (tB x.Level)), (53, .t (tB (!(x.Next == x.Level)))), (55, .ptr 11 1), (56, .t (tI x.At)), (57, .t (tI i)), (58, .ptr 11 2), (59, .t (tB x.Next)), (60, .agg [.t (tI x.At), .t (tI i), .t (tB x.Next)]), (61, .own 61)]) (hp' := [(4, .box [.t (tI 0), .t (.v (.slice none 0 0))]), (7, .box [.t (tI r2.1.Now), .own 2112]), (11, .box [.t (tB x.Armed), .t (tI x.At), .t (tB x.Next), .t (tB x.Level)]), (61, .rows 35 3 ([(⟨x.At, i, x.Next⟩ : SSwitch)] : List SSwitch).length (([(⟨x.At, i, x.Next⟩ : SSwitch)] : List SSwitch).map enc_SSwitch)), (2112, .rows 33 4 s.2.length (s.2.map enc_SChannel))]) rfl rfl rfl rfl rfl rfl rfl (fun _ => rfl) (fun _ => rfl) (.inl ⟨rfl, rfl⟩) (.inr ⟨_, rfl, rfl⟩) (.of rfl rfl) rfl rfl rfl fun l => ?_
                    refine TieO.run 1 rfl ?_
                    refine TieO.nil ?_
                    exact TieS.leaf ⟨rfl, .of rfl rfl⟩
                  · refine TieS.skip ?_
                    exact TieS.leaf ⟨rfl, .of rfl rfl⟩
                rintro f2 e σ' _ ⟨rfl, hs⟩
                refine TieX.sub hs ?_
                refine TieS.region ?_
                refine TieO.run 6 rfl ?_
                refine TieO.indexO rfl rfl rfl rfl rfl rfl rfl rfl rfl rfl fun x2 hx2 => ?_
                refine TieO.storeY (⟨false, 0, false, x.Next⟩ : SChannel) [tB false, tI 0, tB false, tB x.Next] hx2 rfl rfl rfl rfl rfl rfl rfl rfl rfl rfl rfl rfl fun l2 hl2 => ?_
                refine TieO.nil ?_
                refine TieS.endb ?_
                exact TieS.leaf ⟨rfl, .of rfl rfl⟩
            rintro (t | t | r) e σ' _ hq
            · obtain ⟨rfl, hs⟩ := hq
              refine TieX.sub hs ?_
              refine TieS.region ?_
              refine TieO.run 2 rfl ?_
              refine TieO.nil ?_
              exact TieS.leaf ⟨rfl, .of rfl rfl⟩
            · obtain ⟨rfl, hs⟩ := hq
              exact TieX.exitOut rfl ⟨(fun h => by cases h), rfl, hs⟩
            · exact hq.elim
          · exact TieS.exitOut rfl ⟨(fun h => by cases h), rfl, .of rfl rfl⟩
        rintro (s2 | r) e σ' _ hq
        · obtain ⟨rfl, hs⟩ := hq
          refine TieX.exit rfl (TieX.sub hs ?_)
          refine TieS.seq ?_
          refine TieS.region ?_
          refine TieO.run 1 rfl ?_
          refine TieO.callG [(1000000, 2496)] [] (fun v => ⟨[(1, .t (tI v_to)), (4, .ptr 4 0), (7, .ptr 7 0), (9, .own 2496), (71, .own 2496), (72, .tup [])], [(4, .box [.t (tI 0), .t (.v (.slice none 0 0))]), (7, .box [.t (tI r2.1.Now), .own 2112]), (2112, .rows 33 4 s2.2.length (s2.2.map enc_SChannel)), (2496, .rows 35 3 v.length (v.map enc_SSwitch))]⟩) (tie_slices_SortFunc_sSwitch s2.1 30 [] timer_Advance_1 tie_timer_Advance_1) rfl rfl rfl rfl rfl rfl rfl (fun _ => rfl) (fun _ => rfl) (fun _ => rfl) (fun _ => .of rfl rfl) fun v hv => ?_
          refine TieO.nil ?_
          refine TieS.seq ?_
          refine TieS.region ?_
          refine TieO.run 3 rfl ?_
          refine TieO.nil ?_
          refine TieS.seq ?_
          refine TieS.region ?_
          refine TieO.run 5 rfl ?_
          refine TieO.nil ?_
          exact TieS.ret ⟨.inl rfl, rfl⟩
        · exact hq.elim
-- magneto/timer.New
set_option maxRecDepth 100000 in
theorem tie_timer_New (n2 : Int) : TieF Try.prog 14 [.t (tI n2)] (timer_New n2) (fun r => .tup [A_STimer r.1, .t (tI r.2)]) := by
  refine TieF.intro htab 14 [.cell 2 24, .tmp 3] Try.call14 Try.func14 rfl rfl rfl (Nat.le_of_ble_eq_true rfl) fun w0 L => ?_
  refine TieS.seq ?_
  refine TieS.region ?_
  refine TieO.run 2 rfl ?_
  refine TieO.nil ?_
  refine TieS.seq ?_
  refine TieS.seq ?_
  refine TieS.region ?_
  refine TieO.run 3 rfl ?_
  refine TieO.selOr (v := decide (n2 > 16)) 3 6 (fun b => ⟨[(0, .t (tI n2)), (2, .ptr 2 0), (9, .t (tB b))], [(2, .box [.t (tI 0), .t (.v (.slice none 0 0))])]⟩) rfl ?_ ?_ ?_
  · refine TieO.run 3 rfl ?_
    refine TieO.nil ?_
    exact TieS.leaf ⟨rfl, .of rfl rfl⟩
  · refine TieO.run 3 rfl ?_
    refine TieO.nil ?_
    exact TieS.leaf ⟨rfl, .of rfl rfl⟩
  refine TieO.nil ?_
  refine TieS.cond rfl ?_ ?_
  · refine TieS.seq ?_
    refine TieS.region ?_
    refine TieO.run 3 rfl ?_
    refine TieO.nil ?_
    exact TieS.ret ⟨.inl rfl, rfl⟩
  · refine TieS.skip ?_
    refine TieS.seq ?_
    refine TieS.region ?_
    refine TieO.run 1 rfl ?_
    refine TieO.makeO (enc := enc_SChannel) 2096 (⟨false, 0, false, false⟩ : SChannel) rfl rfl rfl rfl rfl rfl rfl rfl rfl rfl rfl rfl rfl fun l hl => ?_
    refine TieO.run 3 rfl ?_
    refine TieO.nil ?_
    exact TieS.ret ⟨.inl rfl, rfl⟩
-- magneto/timer.Arm
set_option maxRecDepth 100000 in
theorem tie_timer_Arm (t2 : STimer) (channel : Int) (v_at : Int) (level : Bool) : TieF Try.prog 16 [A_STimer t2, .t (tI channel), .t (tI v_at), .t (tB level)] (timer_Arm t2 channel v_at level) (fun r => .tup [A_STimer r.1, .t (tI r.2)]) := by
  refine TieF.intro htab 47 [.cell 8 24, .tmp 9] Try.call16 Try.func16 rfl rfl rfl (Nat.le_of_ble_eq_true rfl) fun w0 L => ?_
  refine TieS.seq ?_
  refine TieS.region ?_
  refine TieO.run 3 rfl ?_
  refine TieO.nil ?_
  refine TieS.seq ?_
  refine TieS.region ?_
  refine TieO.run 2 rfl ?_
  refine TieO.callG [] [(900000, 2120)] (fun r2 => ⟨[(0, .agg [.t (tI t2.Now), .t (tS enc_SChannel t2.Channels)]), (1, .t (tI channel)), (2, .t (tI v_at)), (3, .t (tB level)), (4, .ptr 4 0), (8, .ptr 8 0), (9, .t (tI 0)), (13, .agg [.t (tI t2.Now), .t (tS enc_SChannel t2.Channels)]), (14, .t (tI channel)), (15, .tup [.agg [.t (tI r2.1.Now), .own 2120], .t (tI r2.2)])], [(4, .box [.t (tI t2.Now), .t (tS enc_SChannel t2.Channels)]), (8, .box [.t (tI 0), .t (.v (.slice none 0 0))]), (2120, .rows 33 4 r2.1.Channels.length (r2.1.Channels.map enc_SChannel))]⟩) (tie_timer_begin t2 channel) rfl rfl rfl rfl rfl rfl rfl (fun _ => rfl) (fun _ => rfl) (fun _ => rfl) (fun _ => .of rfl rfl) fun r2 hr2 => ?_
  refine TieO.run 6 rfl ?_
  refine TieO.nil ?_
  refine TieS.seq ?_
  refine TieS.block ?_
  refine TieS.seq ?_
  refine TieS.region ?_
  refine TieO.run 3 rfl ?_
  refine TieO.nil ?_
  refine TieS.cond rfl ?_ ?_
  · refine TieS.seq ?_
    refine TieS.region ?_
    refine TieO.run 4 rfl ?_
    refine TieO.nil ?_
    exact TieS.ret ⟨.inl rfl, rfl⟩
  · refine TieS.seq ?_
    refine TieS.region ?_
    refine TieO.run 5 rfl ?_
    refine TieO.nil ?_
    refine TieS.cond rfl ?_ ?_
    · refine TieS.seq ?_
      refine TieS.region ?_
      refine TieO.run 3 rfl ?_
      refine TieO.nil ?_
      exact TieS.ret ⟨.inl rfl, rfl⟩
    · refine TieS.seq ?_
      refine TieS.region ?_
      refine TieO.run 3 rfl ?_
      refine TieO.nil ?_
      refine TieS.cond rfl ?_ ?_
      · refine TieS.seq ?_
        refine TieS.region ?_
        refine TieO.run 3 rfl ?_
        refine TieO.nil ?_
        exact TieS.ret ⟨.inl rfl, rfl⟩
      · refine TieS.skip ?_
        refine TieS.endb ?_
        refine TieS.seq ?_
        refine TieX.pre fun x hx => ?_
        refine TieX.pre fun x2 hx2 => ?_
        refine TieS.draw 13 [.ptr 10 1, .own 2120, .t (tI channel), .t (tI v_at), .t (tB level), .ptr 4 1, .t (tS enc_SChannel t2.Channels), .t (tI channel), .el (enc_SChannel x), .el (List.drop 3 (enc_SChannel x)), .t (tB x.Level), .agg [.t (tB true), .t (tI v_at), .t (tB level), .t (tB x.Level)], .pe 2120 (Int.toNat channel) 4 0] [(1, .t (tI channel)), (2, .t (tI v_at)), (3, .t (tB level)), (4, .ptr 4 0), (8, .ptr 8 0), (10, .ptr 10 0)] [(4, .box [.t (tI t2.Now), .t (tS enc_SChannel t2.Channels)]), (8, .box [.t (tI 0), .t (.v (.slice none 0 0))]), (10, .box [.t (tI r2.1.Now), .own 2120]), (2120, .rows 33 4 r2.1.Channels.length (r2.1.Channels.map enc_SChannel))] mixed (.of rfl rfl) rfl rfl rfl rfl (.cons (.quiet rfl rfl rfl) (.cons (.quiet rfl rfl rfl) (.cons (.quiet rfl rfl rfl) (.cons (.quiet rfl rfl rfl) (.cons (.quiet rfl rfl rfl) (.cons (.quiet rfl rfl rfl) (.cons (.quiet rfl rfl rfl) (.cons (.quiet rfl rfl rfl) (.cons (.index hx rfl rfl rfl rfl rfl rfl (fun _ => rfl)) (.cons (.quiet rfl rfl rfl) (.cons (.quiet rfl rfl rfl) (.cons (.quiet rfl rfl rfl) (.cons (.indexO (sz := 4) hx2 rfl rfl rfl rfl rfl rfl rfl rfl) (.nil)))))))))))))) ?_
        refine TieO.storeY (⟨true, v_at, level, x.Level⟩ : SChannel) [tB true, tI v_at, tB level, tB x.Level] hx2 rfl rfl rfl rfl rfl rfl rfl rfl rfl rfl rfl rfl fun l hl => ?_
        refine TieO.nil ?_
        refine TieS.seq ?_
        refine TieS.region ?_
        refine TieO.run 3 rfl ?_
        refine TieO.nil ?_
        exact TieS.ret ⟨.inl rfl, rfl⟩
-- slices.Equal[[]magneto/api.Switch,magneto/api.Switch]
set_option maxRecDepth 100000 in
theorem tie_slices_Equal_sSwitch (s1 : List SSwitch) (s2 : List SSwitch) : TieF Try.prog 22 [.t (tS enc_SSwitch s1), .t (tS enc_SSwitch s2)] (slices_Equal_sSwitch s1 s2) (fun r => .t (tB r)) := by
  refine TieF.intro htab 26 [.tmp 4] Try.call22 Try.func22 rfl rfl rfl (Nat.le_of_ble_eq_true rfl) fun w0 L => ?_
  refine TieS.seq ?_
  refine TieS.region ?_
  refine TieO.run 1 rfl ?_
  refine TieO.nil ?_
  refine TieS.seq ?_
  refine TieS.seq ?_
  refine TieS.region ?_
  refine TieO.run 5 rfl ?_
  refine TieO.nil ?_
  refine TieS.cond rfl ?_ ?_
  · refine TieS.seq ?_
    refine TieS.region ?_
    refine TieO.run 1 rfl ?_
    refine TieO.nil ?_
    exact TieS.ret ⟨.inl rfl, rfl⟩
  · refine TieS.skip ?_
    refine TieS.seq ?_
    refine TieS.seq ?_
    refine TieS.region ?_
    refine TieO.run 3 rfl ?_
    refine TieO.nil ?_
    refine TieS.block ?_
    refine TieS.loop (fun p => ⟨[(0, .t (tS enc_SSwitch s1)), (1, .t (tS enc_SSwitch s2)), (12, .t (tI (s1.length : Int))), (13, .t (tI p.1))], []⟩) (fun b e σ' => match b with | .inl t => e = .exit 0 ∧ Sub ⟨[], []⟩ σ' | .inr t => e = .ret ∧ retT tab σ' [.tmp 4] = some (((fun r => .t (tB r)) : Bool → T) t)) (.of rfl rfl) ?_ ?_
    · rintro ⟨i, s⟩
      refine TieS.seq ?_
      refine TieS.region ?_
      refine TieO.run 1 rfl ?_
      refine TieO.nil ?_
      refine TieS.seq ?_
      refine TieS.cond rfl ?_ ?_
      · refine TieS.skip ?_
        refine TieS.seq ?_
        refine TieX.sub (σ' := ⟨[(0, .t (tS enc_SSwitch s1)), (1, .t (tS enc_SSwitch s2)), (12, .t (tI (s1.length : Int))), (13, .t (tI i))], []⟩) (.of rfl rfl) ?_
        refine TieS.bind (Q₁ := fun f e σ' => match f with | .next t => e = .normal ∧ Sub ⟨[(0, .t (tS enc_SSwitch s1)), (1, .t (tS enc_SSwitch s2)), (12, .t (tI (s1.length : Int))), (13, .t (tI i))], []⟩ σ' | .brk t => e = .exit 0 ∧ Sub ⟨[], []⟩ σ' | .ret t => e = .ret ∧ retT tab σ' [.tmp 4] = some (((fun r => .t (tB r)) : Bool → T) t)) ?_ ?_
        · refine TieS.block ?_
          refine TieS.seq ?_
          refine TieS.region ?_
          refine TieO.run 2 rfl ?_
          refine TieO.nil ?_
          refine TieS.seq ?_
          refine TieX.pre fun x hx => ?_
          refine TieX.pre fun x2 hx2 => ?_
          refine TieS.draw 9 [.t (tS enc_SSwitch s1), .t (tI i), .el (enc_SSwitch x), .agg [.t (tI x.At), .t (tI x.Channel), .t (tB x.Level)], .t (tS enc_SSwitch s2), .t (tI i), .el (enc_SSwitch x2), .agg [.t (tI x2.At), .t (tI x2.Channel), .t (tB x2.Level)], .t (tB (!((x.At == x2.At) && ((x.Channel == x2.Channel) && ((x.Level == x2.Level) && true)))))] [(0, .t (tS enc_SSwitch s1)), (1, .t (tS enc_SSwitch s2)), (5, .t (tI i)), (12, .t (tI (s1.length : Int))), (13, .t (tI i))] [] mixed (.of rfl rfl) rfl rfl rfl rfl (.cons (.quiet rfl rfl rfl) (.cons (.quiet rfl rfl rfl) (.cons (.index hx rfl rfl rfl rfl rfl rfl (fun _ => rfl)) (.cons (.quiet rfl rfl rfl) (.cons (.quiet rfl rfl rfl) (.cons (.quiet rfl rfl rfl) (.cons (.index hx2 rfl rfl rfl rfl rfl rfl (fun _ => rfl)) (.cons (.quiet rfl rfl rfl) (.cons (.neS [.int .i64 x.At, .int .i64 x.Channel, .bool x.Level] [.int .i64 x2.At, .int .i64 x2.Channel, .bool x2.Level] (eqv_35 x.At x.Channel x.Level x2.At x2.Channel x2.Level) rfl rfl rfl rfl) (.nil)))))))))) ?_
          refine TieO.nil ?_
          refine TieS.cond rfl ?_ ?_
          · refine TieS.seq ?_
            refine TieS.region ?_
            refine TieO.run 1 rfl ?_
            refine TieO.nil ?_
            exact TieS.ret ⟨rfl, rfl⟩
          · refine TieS.skip ?_
            refine TieS.endb ?_
            exact TieS.leaf ⟨rfl, .of rfl rfl⟩
        rintro (t | t | t) e σ' _ hq
        · obtain ⟨rfl, hs⟩ := hq
          refine TieX.sub hs ?_
          refine TieS.region ?_
          refine TieO.run 2 rfl ?_
          refine TieO.nil ?_
          exact TieS.leaf ⟨rfl, .of rfl rfl⟩
        · obtain ⟨rfl, hs⟩ := hq
          exact TieX.exitOut rfl ⟨(fun h => by cases h), rfl, hs⟩
        · obtain ⟨rfl, hs⟩ := hq
          exact TieX.ret ⟨(fun h => by cases h), rfl, hs⟩
      · exact TieS.exitOut rfl ⟨(fun h => by cases h), rfl, .of rfl rfl⟩
    rintro (s3 | r2) e σ' _ hq
    · obtain ⟨rfl, hs⟩ := hq
      refine TieX.exit rfl (TieX.sub hs ?_)
      refine TieS.seq ?_
      refine TieS.region ?_
      refine TieO.run 1 rfl ?_
      refine TieO.nil ?_
      exact TieS.ret ⟨.inl rfl, rfl⟩
    · obtain ⟨rfl, hs⟩ := hq
      exact TieX.ret ⟨.inl rfl, hs⟩
-- magneto/magnetolaw24.awake
set_option maxRecDepth 100000 in
theorem tie_magnetolaw24_awake : TieF Try.prog 10 [] (magnetolaw24_awake) (fun r => .t (tB r)) := by
  refine TieF.intro htab 59 [.tmp 0] Try.call10 Try.func10 rfl rfl rfl (Nat.le_of_ble_eq_true rfl) fun w0 L => ?_
  refine TieS.seq ?_
  refine TieS.region ?_
  refine TieO.run 1 rfl ?_
  refine TieO.nil ?_
  refine TieS.seq ?_
  refine TieS.region ?_
  refine TieO.call _ rfl rfl rfl (tie_timer_New 2) (fun _ => rfl) fun r2 => ?_
  refine TieO.run 6 rfl ?_
  refine TieO.nil ?_
  refine TieS.seq ?_
  refine TieS.region ?_
  refine TieO.run 1 rfl ?_
  refine TieO.call _ rfl rfl rfl (tie_timer_Arm r2.1 1 10 true) (fun _ => rfl) fun r3 => ?_
  refine TieO.run 5 rfl ?_
  refine TieO.nil ?_
  refine TieS.seq ?_
  refine TieS.region ?_
  refine TieO.run 1 rfl ?_
  refine TieO.call _ rfl rfl rfl (tie_timer_Arm r3.1 0 10 true) (fun _ => rfl) fun r4 => ?_
  refine TieO.run 5 rfl ?_
  refine TieO.nil ?_
  refine TieS.seq ?_
  refine TieS.region ?_
  refine TieO.run 1 rfl ?_
  refine TieO.call _ rfl rfl rfl (tie_timer_Advance r4.1 20) (fun _ => rfl) fun r5 => ?_
  refine TieO.run 7 rfl ?_
  refine TieO.nil ?_
  refine TieS.seq ?_
  refine TieS.region ?_
  refine TieO.run 1 rfl ?_
  refine TieO.call _ rfl rfl rfl (tie_timer_Arm r5.1 1 20 false) (fun _ => rfl) fun r6 => ?_
  refine TieO.run 6 rfl ?_
  refine TieO.nil ?_
  refine TieS.seq ?_
  refine TieS.region ?_
  refine TieO.run 3 rfl ?_
  refine TieO.selAnd (v := (r3.2 == 0)) 3 36 (fun b => ⟨[(4, .t (tI r4.2)), (5, .t (tS enc_SSwitch r5.2.1)), (6, .t (tI r5.2.2)), (8, .t (tI r6.2)), (39, .t (tB b))], []⟩) rfl ?_ ?_ ?_
  · refine TieO.run 3 rfl ?_
    refine TieO.nil ?_
    exact TieS.leaf ⟨rfl, .of rfl rfl⟩
  · refine TieO.run 3 rfl ?_
    refine TieO.nil ?_
    exact TieS.leaf ⟨rfl, .of rfl rfl⟩
  refine TieO.run 1 rfl ?_
  refine TieO.selAnd (v := (r4.2 == 0)) 3 40 (fun b => ⟨[(5, .t (tS enc_SSwitch r5.2.1)), (6, .t (tI r5.2.2)), (8, .t (tI r6.2)), (43, .t (tB b))], []⟩) rfl ?_ ?_ ?_
  · refine TieO.run 3 rfl ?_
    refine TieO.nil ?_
    exact TieS.leaf ⟨rfl, .of rfl rfl⟩
  · refine TieO.run 3 rfl ?_
    refine TieO.nil ?_
    exact TieS.leaf ⟨rfl, .of rfl rfl⟩
  refine TieO.run 1 rfl ?_
  refine TieO.selAnd (v := (r5.2.2 == 0)) 3 44 (fun b => ⟨[(5, .t (tS enc_SSwitch r5.2.1)), (8, .t (tI r6.2)), (47, .t (tB b))], []⟩) rfl ?_ ?_ ?_
  · refine TieO.run 3 rfl ?_
    refine TieO.nil ?_
    exact TieS.leaf ⟨rfl, .of rfl rfl⟩
  · refine TieO.run 3 rfl ?_
    refine TieO.nil ?_
    exact TieS.leaf ⟨rfl, .of rfl rfl⟩
  refine TieO.run 1 rfl ?_
  refine TieO.bind 6 (fun b2 => ⟨[(8, .t (tI r6.2)), (54, .t (tB b2))], []⟩) (TieO.split 48 rfl ?_ ?_) fun b2 _ => ?_
  · refine TieO.run 4 rfl ?_
    refine TieO.callS _ rfl rfl rfl (tie_slices_Equal_sSwitch r5.2.1 ([(⟨10, 0, true⟩ : SSwitch), (⟨10, 1, true⟩ : SSwitch)] : List SSwitch)) (fun _ => rfl) (fun _ => rfl) fun v => ?_
    refine TieO.run 1 rfl ?_
    refine TieO.nil ?_
    exact TieS.leaf ⟨rfl, .of rfl rfl⟩
  · refine TieO.run 6 rfl ?_
    refine TieO.nil ?_
    exact TieS.leaf ⟨rfl, .of rfl rfl⟩
  refine TieO.run 1 rfl ?_
  refine TieO.selAnd (v := (r6.2 == 16)) 3 55 (fun b => ⟨[(58, .t (tB b))], []⟩) rfl ?_ ?_ ?_
  · refine TieO.run 3 rfl ?_
    refine TieO.nil ?_
    exact TieS.leaf ⟨rfl, .of rfl rfl⟩
  · refine TieO.run 3 rfl ?_
    refine TieO.nil ?_
    exact TieS.leaf ⟨rfl, .of rfl rfl⟩
  refine TieO.run 1 rfl ?_
  refine TieO.nil ?_
  exact TieS.ret ⟨.inl rfl, rfl⟩
-- magneto/magnetolaw24.none
set_option maxRecDepth 100000 in
theorem tie_magnetolaw24_none (t2 : STimer) : TieF Try.prog 12 [A_STimer t2] (magnetolaw24_none t2) (fun r => .t (tB r)) := by
  refine TieF.intro htab 12 [.tmp 2] Try.call12 Try.func12 rfl rfl rfl (Nat.le_of_ble_eq_true rfl) fun w0 L => ?_
  refine TieS.seq ?_
  refine TieS.region ?_
  refine TieO.run 2 rfl ?_
  refine TieO.nil ?_
  refine TieS.seq ?_
  refine TieS.region ?_
  refine TieO.run 4 rfl ?_
  refine TieO.selAnd (v := ((t2.Channels.length : Int) == 0)) 5 6 (fun b => ⟨[(11, .t (tB b))], []⟩) rfl ?_ ?_ ?_
  · refine TieO.run 5 rfl ?_
    refine TieO.nil ?_
    exact TieS.leaf ⟨rfl, .of rfl rfl⟩
  · refine TieO.run 5 rfl ?_
    refine TieO.nil ?_
    exact TieS.leaf ⟨rfl, .of rfl rfl⟩
  refine TieO.run 1 rfl ?_
  refine TieO.nil ?_
  exact TieS.ret ⟨.inl rfl, rfl⟩
-- magneto/magnetolaw24.TimerLevels
set_option maxRecDepth 100000 in
set_option maxHeartbeats 4000000 in
theorem tie_magnetolaw24_TimerLevels (t2 : STimer) (v_to : Int) : TieF Try.prog 3 [A_STimer t2, .t (tI v_to)] (magnetolaw24_TimerLevels t2 v_to) (fun r => .t (tB r)) := by
  refine TieF.intro htab 221 [.tmp 4] Try.call3 Try.func3 rfl rfl rfl (Nat.le_of_ble_eq_true rfl) fun w0 L => ?_
  refine TieS.seq ?_
  refine TieS.region ?_
  refine TieO.run 2 rfl ?_
  refine TieO.nil ?_
  refine TieS.seq ?_
  refine TieS.seq ?_
  refine TieS.region ?_
  refine TieO.call _ rfl rfl rfl (tie_magnetolaw24_awake) (fun _ => rfl) fun v => ?_
  refine TieO.run 2 rfl ?_
  refine TieO.selOr (v := decide ((t2.Channels.length : Int) > 100)) 5 18 (fun b => ⟨[(1, .t (tI v_to)), (2, .ptr 2 0), (23, .t (tB b))], [(2, .box [.t (tI t2.Now), .t (tS enc_SChannel t2.Channels)])]⟩) rfl ?_ ?_ ?_
  · refine TieO.run 5 rfl ?_
    refine TieO.nil ?_
    exact TieS.leaf ⟨rfl, .of rfl rfl⟩
  · refine TieO.run 5 rfl ?_
    refine TieO.nil ?_
    exact TieS.leaf ⟨rfl, .of rfl rfl⟩
  refine TieO.nil ?_
  refine TieS.cond rfl ?_ ?_
  · refine TieS.seq ?_
    refine TieS.region ?_
    refine TieO.call _ rfl rfl rfl (tie_magnetolaw24_awake) (fun _ => rfl) fun v2 => ?_
    refine TieO.run 1 rfl ?_
    refine TieO.nil ?_
    exact TieS.ret ⟨.inl rfl, rfl⟩
  · refine TieS.skip ?_
    refine TieS.seq ?_
    refine TieS.region ?_
    refine TieO.run 2 rfl ?_
    refine TieO.call _ rfl rfl rfl (tie_timer_Advance t2 v_to) (fun _ => rfl) fun r2 => ?_
    refine TieO.run 8 rfl ?_
    refine TieO.nil ?_
    refine TieS.seq ?_
    refine TieS.seq ?_
    refine TieS.region ?_
    refine TieO.run 2 rfl ?_
    refine TieO.nil ?_
    refine TieS.cond rfl ?_ ?_
    · refine TieS.seq ?_
      refine TieS.region ?_
      refine TieO.run 1 rfl ?_
      refine TieO.call _ rfl rfl rfl (tie_magnetolaw24_none r2.1) (fun _ => rfl) fun v3 => ?_
      refine TieO.run 1 rfl ?_
      refine TieO.selAnd (v := ((r2.2.1.length : Int) == 0)) 4 36 (fun b => ⟨[(40, .t (tB b))], []⟩) rfl ?_ ?_ ?_
      · refine TieO.run 4 rfl ?_
        refine TieO.nil ?_
        exact TieS.leaf ⟨rfl, .of rfl rfl⟩
      · refine TieO.run 4 rfl ?_
        refine TieO.nil ?_
        exact TieS.leaf ⟨rfl, .of rfl rfl⟩
      refine TieO.run 1 rfl ?_
      refine TieO.nil ?_
      exact TieS.ret ⟨.inl rfl, rfl⟩
    · refine TieS.skip ?_
      refine TieS.seq ?_
      refine TieS.seq ?_
      refine TieS.region ?_
      refine TieO.run 8 rfl ?_
      refine TieO.selOr (v := (r2.1.Now != v_to)) 5 48 (fun b => ⟨[(1, .t (tI v_to)), (2, .ptr 2 0), (5, .ptr 5 0), (6, .t (tS enc_SSwitch r2.2.1)), (53, .t (tB b))], [(2, .box [.t (tI t2.Now), .t (tS enc_SChannel t2.Channels)]), (5, .box [.t (tI r2.1.Now), .t (tS enc_SChannel r2.1.Channels)])]⟩) rfl ?_ ?_ ?_
      · refine TieO.run 5 rfl ?_
        refine TieO.nil ?_
        exact TieS.leaf ⟨rfl, .of rfl rfl⟩
      · refine TieO.run 5 rfl ?_
        refine TieO.nil ?_
        exact TieS.leaf ⟨rfl, .of rfl rfl⟩
      refine TieO.run 1 rfl ?_
      refine TieO.bind 4 (fun b2 => ⟨[(1, .t (tI v_to)), (2, .ptr 2 0), (5, .ptr 5 0), (6, .t (tS enc_SSwitch r2.2.1)), (58, .t (tB b2))], [(2, .box [.t (tI t2.Now), .t (tS enc_SChannel t2.Channels)]), (5, .box [.t (tI r2.1.Now), .t (tS enc_SChannel r2.1.Channels)])]⟩) (TieO.split 54 rfl ?_ ?_) fun b2 _ => ?_
      · refine TieO.run 4 rfl ?_
        refine TieO.nil ?_
        exact TieS.leaf ⟨rfl, .of rfl rfl⟩
      · refine TieO.run 1 rfl ?_
        refine TieO.call _ rfl rfl rfl (tie_timer_Valid r2.1) (fun _ => rfl) fun v4 => ?_
        refine TieO.run 2 rfl ?_
        refine TieO.nil ?_
        exact TieS.leaf ⟨rfl, .of rfl rfl⟩
      refine TieO.nil ?_
      refine TieS.cond rfl ?_ ?_
      · refine TieS.seq ?_
        refine TieS.region ?_
        refine TieO.run 1 rfl ?_
        refine TieO.nil ?_
        exact TieS.ret ⟨.inl rfl, rfl⟩
      · refine TieS.skip ?_
        refine TieS.seq ?_
        refine TieS.region ?_
        refine TieO.run 3 rfl ?_
        refine TieO.makeO (enc := Pv.encB) 2496 false rfl rfl rfl rfl rfl rfl rfl rfl rfl rfl rfl rfl rfl fun l hl => ?_
        refine TieO.run 1 rfl ?_
        refine TieO.nil ?_
        refine TieS.seq ?_
        refine TieS.seq ?_
        refine TieS.region ?_
        refine TieO.run 4 rfl ?_
        refine TieO.nil ?_
        refine TieS.block ?_
        refine TieS.loop (fun p => ⟨[(1, .t (tI v_to)), (2, .ptr 2 0), (5, .ptr 5 0), (6, .t (tS enc_SSwitch r2.2.1)), (8, .own 2496), (64, .t (tS enc_SChannel t2.Channels)), (65, .t (tI (t2.Channels.length : Int))), (66, .t (tI p.1))], [(2, .box [.t (tI t2.Now), .t (tS enc_SChannel t2.Channels)]), (5, .box [.t (tI r2.1.Now), .t (tS enc_SChannel r2.1.Channels)]), (2496, .rows 4 1 p.2.length (p.2.map Pv.encB))]⟩) (fun b e σ' => match b with | .inl t => e = .exit 0 ∧ Sub ⟨[(1, .t (tI v_to)), (2, .ptr 2 0), (5, .ptr 5 0), (6, .t (tS enc_SSwitch r2.2.1)), (8, .own 2496)], [(2, .box [.t (tI t2.Now), .t (tS enc_SChannel t2.Channels)]), (5, .box [.t (tI r2.1.Now), .t (tS enc_SChannel r2.1.Channels)]), (2496, .rows 4 1 t.length (t.map Pv.encB))]⟩ σ' | .inr t => False) (.of rfl rfl) ?_ ?_
        · rintro ⟨i, f2⟩
          refine TieS.seq ?_
          refine TieS.region ?_
          refine TieO.run 1 rfl ?_
          refine TieO.nil ?_
          refine TieS.seq ?_
          refine TieS.cond rfl ?_ ?_
          · refine TieS.skip ?_
            refine TieS.seq ?_
            refine TieX.sub (σ' := ⟨[(1, .t (tI v_to)), (2, .ptr 2 0), (5, .ptr 5 0), (6, .t (tS enc_SSwitch r2.2.1)), (8, .own 2496), (64, .t (tS enc_SChannel t2.Channels)), (65, .t (tI (t2.Channels.length : Int))), (66, .t (tI i))], [(2, .box [.t (tI t2.Now), .t (tS enc_SChannel t2.Channels)]), (5, .box [.t (tI r2.1.Now), .t (tS enc_SChannel r2.1.Channels)]), (2496, .rows 4 1 f2.length (f2.map Pv.encB))]⟩) (.of rfl rfl) ?_
            refine TieS.bind (Q₁ := fun f e σ' => match f with | .next t => e = .normal ∧ Sub ⟨[(1, .t (tI v_to)), (2, .ptr 2 0), (5, .ptr 5 0), (6, .t (tS enc_SSwitch r2.2.1)), (8, .own 2496), (64, .t (tS enc_SChannel t2.Channels)), (65, .t (tI (t2.Channels.length : Int))), (66, .t (tI i))], [(2, .box [.t (tI t2.Now), .t (tS enc_SChannel t2.Channels)]), (5, .box [.t (tI r2.1.Now), .t (tS enc_SChannel r2.1.Channels)]), (2496, .rows 4 1 t.length (t.map Pv.encB))]⟩ σ' | .brk t => e = .exit 0 ∧ Sub ⟨[(1, .t (tI v_to)), (2, .ptr 2 0), (5, .ptr 5 0), (6, .t (tS enc_SSwitch r2.2.1)), (8, .own 2496)], [(2, .box [.t (tI t2.Now), .t (tS enc_SChannel t2.Channels)]), (5, .box [.t (tI r2.1.Now), .t (tS enc_SChannel r2.1.Channels)]), (2496, .rows 4 1 t.length (t.map Pv.encB))]⟩ σ' | .ret r => False) ?_ ?_
            · refine TieS.block ?_
              refine TieS.seq ?_
              refine TieS.region ?_
              refine TieO.run 1 rfl ?_
              refine TieO.index rfl rfl rfl rfl rfl rfl rfl rfl (fun _ => rfl) fun x hx => ?_
              refine TieO.run 4 rfl ?_
              refine TieO.nil ?_
              refine TieS.region ?_
              refine TieO.run 4 rfl ?_
              refine TieO.indexO rfl rfl rfl rfl rfl rfl rfl rfl rfl rfl fun x2 hx2 => ?_
              refine TieO.storeY x.Level [tB x.Level] hx2 rfl rfl rfl rfl rfl rfl rfl rfl rfl rfl rfl rfl fun l2 hl2 => ?_
              refine TieO.nil ?_
              refine TieS.endb ?_
              exact TieS.leaf ⟨rfl, .of rfl rfl⟩
            rintro (t | t | r) e σ' _ hq
            · obtain ⟨rfl, hs⟩ := hq
              refine TieX.sub hs ?_
              refine TieS.region ?_
              refine TieO.run 2 rfl ?_
              refine TieO.nil ?_
              exact TieS.leaf ⟨rfl, .of rfl rfl⟩
            · obtain ⟨rfl, hs⟩ := hq
              exact TieX.exitOut rfl ⟨(fun h => by cases h), rfl, hs⟩
            · exact hq.elim
          · exact TieS.exitOut rfl ⟨(fun h => by cases h), rfl, .of rfl rfl⟩
        rintro (f3 | r) e σ' _ hq
        · obtain ⟨rfl, hs⟩ := hq
          refine TieX.exit rfl (TieX.sub hs ?_)
          refine TieS.seq ?_
          refine TieS.seq ?_
          refine TieS.region ?_
          refine TieO.run 3 rfl ?_
          refine TieO.nil ?_
          refine TieS.block ?_
          refine TieS.loop (fun p => ⟨[(1, .t (tI v_to)), (2, .ptr 2 0), (5, .ptr 5 0), (6, .t (tS enc_SSwitch r2.2.1)), (8, .own 2496), (77, .t (tS enc_SSwitch r2.2.1)), (78, .t (tI (r2.2.1.length : Int))), (79, .t (tI p.1))], [(2, .box [.t (tI t2.Now), .t (tS enc_SChannel t2.Channels)]), (5, .box [.t (tI r2.1.Now), .t (tS enc_SChannel r2.1.Channels)]), (2496, .rows 4 1 p.2.length (p.2.map Pv.encB))]⟩) (fun b e σ' => match b with | .inl t => e = .exit 2 ∧ Sub ⟨[(1, .t (tI v_to)), (2, .ptr 2 0), (5, .ptr 5 0), (8, .own 2496)], [(2, .box [.t (tI t2.Now), .t (tS enc_SChannel t2.Channels)]), (5, .box [.t (tI r2.1.Now), .t (tS enc_SChannel r2.1.Channels)]), (2496, .rows 4 1 t.length (t.map Pv.encB))]⟩ σ' | .inr t => e = .ret ∧ retT tab σ' [.tmp 4] = some (((fun r => .t (tB r)) : Bool → T) t)) (.of rfl rfl) ?_ ?_
          · rintro ⟨i2, f4⟩
            refine TieS.seq ?_
            refine TieS.region ?_
            refine TieO.run 1 rfl ?_
            refine TieO.nil ?_
            refine TieS.seq ?_
            refine TieS.cond rfl ?_ ?_
            · refine TieS.skip ?_
              refine TieS.seq ?_
              refine TieX.sub (σ' := ⟨[(1, .t (tI v_to)), (2, .ptr 2 0), (5, .ptr 5 0), (6, .t (tS enc_SSwitch r2.2.1)), (8, .own 2496), (77, .t (tS enc_SSwitch r2.2.1)), (78, .t (tI (r2.2.1.length : Int))), (79, .t (tI i2))], [(2, .box [.t (tI t2.Now), .t (tS enc_SChannel t2.Channels)]), (5, .box [.t (tI r2.1.Now), .t (tS enc_SChannel r2.1.Channels)]), (2496, .rows 4 1 f4.length (f4.map Pv.encB))]⟩) (.of rfl rfl) ?_
              refine TieS.bind (Q₁ := fun f e σ' => match f with | .next t => e = .normal ∧ Sub ⟨[(1, .t (tI v_to)), (2, .ptr 2 0), (5, .ptr 5 0), (6, .t (tS enc_SSwitch r2.2.1)), (8, .own 2496), (77, .t (tS enc_SSwitch r2.2.1)), (78, .t (tI (r2.2.1.length : Int))), (79, .t (tI i2))], [(2, .box [.t (tI t2.Now), .t (tS enc_SChannel t2.Channels)]), (5, .box [.t (tI r2.1.Now), .t (tS enc_SChannel r2.1.Channels)]), (2496, .rows 4 1 t.length (t.map Pv.encB))]⟩ σ' | .brk t => e = .exit 2 ∧ Sub ⟨[(1, .t (tI v_to)), (2, .ptr 2 0), (5, .ptr 5 0), (8, .own 2496)], [(2, .box [.t (tI t2.Now), .t (tS enc_SChannel t2.Channels)]), (5, .box [.t (tI r2.1.Now), .t (tS enc_SChannel r2.1.Channels)]), (2496, .rows 4 1 t.length (t.map Pv.encB))]⟩ σ' | .ret t => e = .ret ∧ retT tab σ' [.tmp 4] = some (((fun r => .t (tB r)) : Bool → T) t)) ?_ ?_
              · refine TieS.block ?_
                refine TieS.seq ?_
                refine TieS.region ?_
                refine TieO.run 1 rfl ?_
                refine TieO.index rfl rfl rfl rfl rfl rfl rfl rfl (fun _ => rfl) fun x3 hx3 => ?_
                refine TieO.run 4 rfl ?_
                refine TieO.nil ?_
                refine TieS.seq ?_
                refine TieS.seq ?_
                refine TieS.bind (Q₁ := fun t e σ' => e = .normal ∧ Sub ⟨[(1, .t (tI v_to)), (2, .ptr 2 0), (5, .ptr 5 0), (6, .t (tS enc_SSwitch r2.2.1)), (8, .own 2496), (12, .ptr 12 0), (77, .t (tS enc_SSwitch r2.2.1)), (78, .t (tI (r2.2.1.length : Int))), (79, .t (tI i2)), (153, .t (tB t))], [(2, .box [.t (tI t2.Now), .t (tS enc_SChannel t2.Channels)]), (5, .box [.t (tI r2.1.Now), .t (tS enc_SChannel r2.1.Channels)]), (12, .box [.t (tI x3.At), .t (tI x3.Channel), .t (tB x3.Level)]), (2496, .rows 4 1 f4.length (f4.map Pv.encB))]⟩ σ') ?_ ?_
                · refine TieX.split (fun hg => ?_) (fun hg2 => ?_)
                  · refine TieS.draw 70 [.ptr 12 1, .t (tI x3.Channel), .t (tB (decide (x3.Channel < 0))), .t (tB true), .t (.v undef), .t (.v undef), .t (.v undef), .t (.v undef), .t (.v undef), .t (tB true), .t (tB true), .t (.v undef), .t (.v undef), .t (.v undef), .t (.v undef), .t (.v undef), .t (tB true), .t (tB true), .t (.v undef), .t (.v undef), .t (.v undef), .t (.v undef), .t (tB true), .t (tB true), .t (.v undef), .t (.v undef), .t (.v undef), .t (.v undef), .t (.v undef), .t (.v undef), .t (.v undef), .t (.v undef), .t (tB true), .t (tB true), .t (.v undef), .t (.v undef), .t (.v undef), .t (.v undef), .t (.v undef), .t (.v undef), .t (.v undef), .t (.v undef), .t (.v undef), .t (.v undef), .t (.v undef), .t (.v undef), .t (.v undef), .t (.v undef), .t (.v undef), .t (.v undef), .t (.v undef), .t (.v undef), .t (.v undef), .t (.v undef), .t (.v undef), .t (.v undef), .t (.v undef), .t (.v undef), .t (.v undef), .t (.v undef), .t (.v undef), .t (.v undef), .t (.v undef), .t (.v undef), .t (.v undef), .t (.v undef), .t (.v undef), .t (.v undef), .t (.v undef), .t (tB true)] [(1, .t (tI v_to)), (2, .ptr 2 0), (5, .ptr 5 0), (6, .t (tS enc_SSwitch r2.2.1)), (8, .own 2496), (11, .t (tI i2)), (12, .ptr 12 0), (77, .t (tS enc_SSwitch r2.2.1)), (78, .t (tI (r2.2.1.length : Int))), (79, .t (tI i2))] [(2, .box [.t (tI t2.Now), .t (tS enc_SChannel t2.Channels)]), (5, .box [.t (tI r2.1.Now), .t (tS enc_SChannel r2.1.Channels)]), (12, .box [.t (tI x3.At), .t (tI x3.Channel), .t (tB x3.Level)]), (2496, .rows 4 1 f4.length (f4.map Pv.encB))] mixed (.of rfl rfl) rfl rfl rfl rfl (.cons (.quiet rfl rfl rfl) (.cons (.quiet rfl rfl rfl) (.cons (.quiet rfl rfl rfl) (.cons (.cast (congrArg T.B hg) (.quiet rfl rfl rfl)) (.cons (.skip rfl) (.cons (.skip rfl) (.cons (.skip rfl) (.cons (.skip rfl) (.cons (.skip rfl) (.cons (.quiet rfl rfl rfl) (.cons (.quiet rfl rfl rfl) (.cons (.skip rfl) (.cons (.skip rfl) (.cons (.skip rfl) (.cons (.skip rfl) (.cons (.skip rfl) (.cons (.quiet rfl rfl rfl) (.cons (.quiet rfl rfl rfl) (.cons (.skip rfl) (.cons (.skip rfl) (.cons (.skip rfl) (.cons (.skip rfl) (.cons (.quiet rfl rfl rfl) (.cons (.quiet rfl rfl rfl) (.cons (.skip rfl) (.cons (.skip rfl) (.cons (.skip rfl) (.cons (.skip rfl) (.cons (.skip rfl) (.cons (.skip rfl) (.cons (.skip rfl) (.cons (.skip rfl) (.cons (.quiet rfl rfl rfl) (.cons (.quiet rfl rfl rfl) (.cons (.skip rfl) (.cons (.skip rfl) (.cons (.skip rfl) (.cons (.skip rfl) (.cons (.skip rfl) (.cons (.skip rfl) (.cons (.skip rfl) (.cons (.skip rfl) (.cons (.skip rfl) (.cons (.skip rfl) (.cons (.skip rfl) (.cons (.skip rfl) (.cons (.skip rfl) (.cons (.skip rfl) (.cons (.skip rfl) (.cons (.skip rfl) (.cons (.skip rfl) (.cons (.skip rfl) (.cons (.skip rfl) (.cons (.skip rfl) (.cons (.skip rfl) (.cons (.skip rfl) (.cons (.skip rfl) (.cons (.skip rfl) (.cons (.skip rfl) (.cons (.skip rfl) (.cons (.skip rfl) (.cons (.skip rfl) (.cons (.skip rfl) (.cons (.skip rfl) (.cons (.skip rfl) (.cons (.skip rfl) (.cons (.skip rfl) (.cons (.skip rfl) (.cons (.skip rfl) (.cons (.quiet rfl rfl rfl) (.nil))))))))))))))))))))))))))))))))))))))))))))))))))))))))))))))))))))))) ?_
                    refine TieO.nil ?_
                    exact TieS.leaf ⟨rfl, .of rfl rfl⟩
                  · refine TieX.split (fun hg3 => ?_) (fun hg4 => ?_)
                    · refine TieS.draw 70 [.ptr 12 1, .t (tI x3.Channel), .t (tB (decide (x3.Channel < 0))), .t (tB false), .ptr 12 1, .t (tI x3.Channel), .own 2496, .t (tI (f4.length : Int)), .t (tB (decide (x3.Channel ≥ (f4.length : Int)))), .t (tB (decide (x3.Channel ≥ (f4.length : Int)))), .t (tB true), .t (.v undef), .t (.v undef), .t (.v undef), .t (.v undef), .t (.v undef), .t (tB true), .t (tB true), .t (.v undef), .t (.v undef), .t (.v undef), .t (.v undef), .t (tB true), .t (tB true), .t (.v undef), .t (.v undef), .t (.v undef), .t (.v undef), .t (.v undef), .t (.v undef), .t (.v undef), .t (.v undef), .t (tB true), .t (tB true), .t (.v undef), .t (.v undef), .t (.v undef), .t (.v undef), .t (.v undef), .t (.v undef), .t (.v undef), .t (.v undef), .t (.v undef), .t (.v undef), .t (.v undef), .t (.v undef), .t (.v undef), .t (.v undef), .t (.v undef), .t (.v undef), .t (.v undef), .t (.v undef), .t (.v undef), .t (.v undef), .t (.v undef), .t (.v undef), .t (.v undef), .t (.v undef), .t (.v undef), .t (.v undef), .t (.v undef), .t (.v undef), .t (.v undef), .t (.v undef), .t (.v undef), .t (.v undef), .t (.v undef), .t (.v undef), .t (.v undef), .t (tB true)] [(1, .t (tI v_to)), (2, .ptr 2 0), (5, .ptr 5 0), (6, .t (tS enc_SSwitch r2.2.1)), (8, .own 2496), (11, .t (tI i2)), (12, .ptr 12 0), (77, .t (tS enc_SSwitch r2.2.1)), (78, .t (tI (r2.2.1.length : Int))), (79, .t (tI i2))] [(2, .box [.t (tI t2.Now), .t (tS enc_SChannel t2.Channels)]), (5, .box [.t (tI r2.1.Now), .t (tS enc_SChannel r2.1.Channels)]), (12, .box [.t (tI x3.At), .t (tI x3.Channel), .t (tB x3.Level)]), (2496, .rows 4 1 f4.length (f4.map Pv.encB))] mixed (.of rfl rfl) rfl rfl rfl rfl (.cons (.quiet rfl rfl rfl) (.cons (.quiet rfl rfl rfl) (.cons (.quiet rfl rfl rfl) (.cons (.cast (congrArg T.B hg2) (.quiet rfl rfl rfl)) (.cons (.quiet rfl rfl rfl) (.cons (.quiet rfl rfl rfl) (.cons (.quiet rfl rfl rfl) (.cons (.quiet rfl rfl rfl) (.cons (.quiet rfl rfl rfl) (.cons (.quiet rfl rfl rfl) (.cons (.cast (congrArg T.B hg3) (.quiet rfl rfl rfl)) (.cons (.skip rfl) (.cons (.skip rfl) (.cons (.skip rfl) (.cons (.skip rfl) (.cons (.skip rfl) (.cons (.quiet rfl rfl rfl) (.cons (.quiet rfl rfl rfl) (.cons (.skip rfl) (.cons (.skip rfl) (.cons (.skip rfl) (.cons (.skip rfl) (.cons (.quiet rfl rfl rfl) (.cons (.quiet rfl rfl rfl) (.cons (.skip rfl) (.cons (.skip rfl) (.cons (.skip rfl) (.cons (.skip rfl) (.cons (.skip rfl) (.cons (.skip rfl) (.cons (.skip rfl) (.cons (.skip rfl) (.cons (.quiet rfl rfl rfl) (.cons (.quiet rfl rfl rfl) (.cons (.skip rfl) (.cons (.skip rfl) (.cons (.skip rfl) (.cons (.skip rfl) (.cons (.skip rfl) (.cons (.skip rfl) (.cons (.skip rfl) (.cons (.skip rfl) (.cons (.skip rfl) (.cons (.skip rfl) (.cons (.skip rfl) (.cons (.skip rfl) (.cons (.skip rfl) (.cons (.skip rfl) (.cons (.skip rfl) (.cons (.skip rfl) (.cons (.skip rfl) (.cons (.skip rfl) (.cons (.skip rfl) (.cons (.skip rfl) (.cons (.skip rfl) (.cons (.skip rfl) (.cons (.skip rfl) (.cons (.skip rfl) (.cons (.skip rfl) (.cons (.skip rfl) (.cons (.skip rfl) (.cons (.skip rfl) (.cons (.skip rfl) (.cons (.skip rfl) (.cons (.skip rfl) (.cons (.skip rfl) (.cons (.skip rfl) (.cons (.skip rfl) (.cons (.skip rfl) (.cons (.quiet rfl rfl rfl) (.nil))))))))))))))))))))))))))))))))))))))))))))))))))))))))))))))))))))))) ?_
                      refine TieO.nil ?_
                      exact TieS.leaf ⟨rfl, .of rfl rfl⟩
                    · refine TieX.split (fun hg5 => ?_) (fun hg6 => ?_)
                      · refine TieS.draw 70 [.ptr 12 1, .t (tI x3.Channel), .t (tB (decide (x3.Channel < 0))), .t (tB false), .ptr 12 1, .t (tI x3.Channel), .own 2496, .t (tI (f4.length : Int)), .t (tB (decide (x3.Channel ≥ (f4.length : Int)))), .t (tB (decide (x3.Channel ≥ (f4.length : Int)))), .t (tB false), .ptr 12 0, .t (tI x3.At), .ptr 2 0, .t (tI t2.Now), .t (tB (decide (x3.At ≤ t2.Now))), .t (tB (decide (x3.At ≤ t2.Now))), .t (tB true), .t (.v undef), .t (.v undef), .t (.v undef), .t (.v undef), .t (tB true), .t (tB true), .t (.v undef), .t (.v undef), .t (.v undef), .t (.v undef), .t (.v undef), .t (.v undef), .t (.v undef), .t (.v undef), .t (tB true), .t (tB true), .t (.v undef), .t (.v undef), .t (.v undef), .t (.v undef), .t (.v undef), .t (.v undef), .t (.v undef), .t (.v undef), .t (.v undef), .t (.v undef), .t (.v undef), .t (.v undef), .t (.v undef), .t (.v undef), .t (.v undef), .t (.v undef), .t (.v undef), .t (.v undef), .t (.v undef), .t (.v undef), .t (.v undef), .t (.v undef), .t (.v undef), .t (.v undef), .t (.v undef), .t (.v undef), .t (.v undef), .t (.v undef), .t (.v undef), .t (.v undef), .t (.v undef), .t (.v undef), .t (.v undef), .t (.v undef), .t (.v undef), .t (tB true)] [(1, .t (tI v_to)), (2, .ptr 2 0), (5, .ptr 5 0), (6, .t (tS enc_SSwitch r2.2.1)), (8, .own 2496), (11, .t (tI i2)), (12, .ptr 12 0), (77, .t (tS enc_SSwitch r2.2.1)), (78, .t (tI (r2.2.1.length : Int))), (79, .t (tI i2))] [(2, .box [.t (tI t2.Now), .t (tS enc_SChannel t2.Channels)]), (5, .box [.t (tI r2.1.Now), .t (tS enc_SChannel r2.1.Channels)]), (12, .box [.t (tI x3.At), .t (tI x3.Channel), .t (tB x3.Level)]), (2496, .rows 4 1 f4.length (f4.map Pv.encB))] mixed (.of rfl rfl) rfl rfl rfl rfl (.cons (.quiet rfl rfl rfl) (.cons (.quiet rfl rfl rfl) (.cons (.quiet rfl rfl rfl) (.cons (.cast (congrArg T.B hg2) (.quiet rfl rfl rfl)) (.cons (.quiet rfl rfl rfl) (.cons (.quiet rfl rfl rfl) (.cons (.quiet rfl rfl rfl) (.cons (.quiet rfl rfl rfl) (.cons (.quiet rfl rfl rfl) (.cons (.quiet rfl rfl rfl) (.cons (.cast (congrArg T.B hg4) (.quiet rfl rfl rfl)) (.cons (.quiet rfl rfl rfl) (.cons (.quiet rfl rfl rfl) (.cons (.quiet rfl rfl rfl) (.cons (.quiet rfl rfl rfl) (.cons (.quiet rfl rfl rfl) (.cons (.quiet rfl rfl rfl) (.cons (.cast (congrArg T.B hg5) (.quiet rfl rfl rfl)) (.cons (.skip rfl) (.cons (.skip rfl) (.cons (.skip rfl) (.cons (.skip rfl) (.cons (.quiet rfl rfl rfl) (.cons (.quiet rfl rfl rfl) (.cons (.skip rfl) (.cons (.skip rfl) (.cons (.skip rfl) (.cons (.skip rfl) (.cons (.skip rfl) (.cons (.skip rfl) (.cons (.skip rfl) (.cons (.skip rfl) (.cons (.quiet rfl rfl rfl) (.cons (.quiet rfl rfl rfl) (.cons (.skip rfl) (.cons (.skip rfl) (.cons (.skip rfl) (.cons (.skip rfl) (.cons (.skip rfl) (.cons (.skip rfl) (.cons (.skip rfl) (.cons (.skip rfl) (.cons (.skip rfl) (.cons (.skip rfl) (.cons (.skip rfl) (.cons (.skip rfl) (.cons (.skip rfl) (.cons (.skip rfl) (.cons (.skip rfl) (.cons (.skip rfl) (.cons (.skip rfl) (.cons (.skip rfl) (.cons (.skip rfl) (.cons (.skip rfl) (.cons (.skip rfl) (.cons (.skip rfl) (.cons (.skip rfl) (.cons (.skip rfl) (.cons (.skip rfl) (.cons (.skip rfl) (.cons (.skip rfl) (.cons (.skip rfl) (.cons (.skip rfl) (.cons (.skip rfl) (.cons (.skip rfl) (.cons (.skip rfl) (.cons (.skip rfl) (.cons (.skip rfl) (.cons (.skip rfl) (.cons (.quiet rfl rfl rfl) (.nil))))))))))))))))))))))))))))))))))))))))))))))))))))))))))))))))))))))) ?_
                        refine TieO.nil ?_
                        exact TieS.leaf ⟨rfl, .of rfl rfl⟩
                      · refine TieX.split (fun hg7 => ?_) (fun hg8 => ?_)
                        · refine TieS.draw 70 [.ptr 12 1, .t (tI x3.Channel), .t (tB (decide (x3.Channel < 0))), .t (tB false), .ptr 12 1, .t (tI x3.Channel), .own 2496, .t (tI (f4.length : Int)), .t (tB (decide (x3.Channel ≥ (f4.length : Int)))), .t (tB (decide (x3.Channel ≥ (f4.length : Int)))), .t (tB false), .ptr 12 0, .t (tI x3.At), .ptr 2 0, .t (tI t2.Now), .t (tB (decide (x3.At ≤ t2.Now))), .t (tB (decide (x3.At ≤ t2.Now))), .t (tB false), .ptr 12 0, .t (tI x3.At), .t (tI v_to), .t (tB (decide (x3.At > v_to))), .t (tB (decide (x3.At > v_to))), .t (tB true), .t (.v undef), .t (.v undef), .t (.v undef), .t (.v undef), .t (.v undef), .t (.v undef), .t (.v undef), .t (.v undef), .t (tB true), .t (tB true), .t (.v undef), .t (.v undef), .t (.v undef), .t (.v undef), .t (.v undef), .t (.v undef), .t (.v undef), .t (.v undef), .t (.v undef), .t (.v undef), .t (.v undef), .t (.v undef), .t (.v undef), .t (.v undef), .t (.v undef), .t (.v undef), .t (.v undef), .t (.v undef), .t (.v undef), .t (.v undef), .t (.v undef), .t (.v undef), .t (.v undef), .t (.v undef), .t (.v undef), .t (.v undef), .t (.v undef), .t (.v undef), .t (.v undef), .t (.v undef), .t (.v undef), .t (.v undef), .t (.v undef), .t (.v undef), .t (.v undef), .t (tB true)] [(1, .t (tI v_to)), (2, .ptr 2 0), (5, .ptr 5 0), (6, .t (tS enc_SSwitch r2.2.1)), (8, .own 2496), (11, .t (tI i2)), (12, .ptr 12 0), (77, .t (tS enc_SSwitch r2.2.1)), (78, .t (tI (r2.2.1.length : Int))), (79, .t (tI i2))] [(2, .box [.t (tI t2.Now), .t (tS enc_SChannel t2.Channels)]), (5, .box [.t (tI r2.1.Now), .t (tS enc_SChannel r2.1.Channels)]), (12, .box [.t (tI x3.At), .t (tI x3.Channel), .t (tB x3.Level)]), (2496, .rows 4 1 f4.length (f4.map Pv.encB))] mixed (.of rfl rfl) rfl rfl rfl rfl (.cons (.quiet rfl rfl rfl) (.cons (.quiet rfl rfl rfl) (.cons (.quiet rfl rfl rfl) (.cons (.cast (congrArg T.B hg2) (.quiet rfl rfl rfl)) (.cons (.quiet rfl rfl rfl) (.cons (.quiet rfl rfl rfl) (.cons (.quiet rfl rfl rfl) (.cons (.quiet rfl rfl rfl) (.cons (.quiet rfl rfl rfl) (.cons (.quiet rfl rfl rfl) (.cons (.cast (congrArg T.B hg4) (.quiet rfl rfl rfl)) (.cons (.quiet rfl rfl rfl) (.cons (.quiet rfl rfl rfl) (.cons (.quiet rfl rfl rfl) (.cons (.quiet rfl rfl rfl) (.cons (.quiet rfl rfl rfl) (.cons (.quiet rfl rfl rfl) (.cons (.cast (congrArg T.B hg6) (.quiet rfl rfl rfl)) (.cons (.quiet rfl rfl rfl) (.cons (.quiet rfl rfl rfl) (.cons (.quiet rfl rfl rfl) (.cons (.quiet rfl rfl rfl) (.cons (.quiet rfl rfl rfl) (.cons (.cast (congrArg T.B hg7) (.quiet rfl rfl rfl)) (.cons (.skip rfl) (.cons (.skip rfl) (.cons (.skip rfl) (.cons (.skip rfl) (.cons (.skip rfl) (.cons (.skip rfl) (.cons (.skip rfl) (.cons (.skip rfl) (.cons (.quiet rfl rfl rfl) (.cons (.quiet rfl rfl rfl) (.cons (.skip rfl) (.cons (.skip rfl) (.cons (.skip rfl) (.cons (.skip rfl) (.cons (.skip rfl) (.cons (.skip rfl) (.cons (.skip rfl) (.cons (.skip rfl) (.cons (.skip rfl) (.cons (.skip rfl) (.cons (.skip rfl) (.cons (.skip rfl) (.cons (.skip rfl) (.cons (.skip rfl) (.cons (.skip rfl) (.cons (.skip rfl) (.cons (.skip rfl) (.cons (.skip rfl) (.cons (.skip rfl) (.cons (.skip rfl) (.cons (.skip rfl) (.cons (.skip rfl) (.cons (.skip rfl) (.cons (.skip rfl) (.cons (.skip rfl) (.cons (.skip rfl) (.cons (.skip rfl) (.cons (.skip rfl) (.cons (.skip rfl) (.cons (.skip rfl) (.cons (.skip rfl) (.cons (.skip rfl) (.cons (.skip rfl) (.cons (.skip rfl) (.cons (.skip rfl) (.cons (.quiet rfl rfl rfl) (.nil))))))))))))))))))))))))))))))))))))))))))))))))))))))))))))))))))))))) ?_
                          refine TieO.nil ?_
                          exact TieS.leaf ⟨rfl, .of rfl rfl⟩
                        · refine TieX.pre fun x4 hx4 => ?_
                          refine TieX.split (fun hg9 => ?_) (fun hg10 => ?_)
                          · refine TieS.draw 70 [.ptr 12 1, .t (tI x3.Channel), .t (tB (decide (x3.Channel < 0))), .t (tB false), .ptr 12 1, .t (tI x3.Channel), .own 2496, .t (tI (f4.length : Int)), .t (tB (decide (x3.Channel ≥ (f4.length : Int)))), .t (tB (decide (x3.Channel ≥ (f4.length : Int)))), .t (tB false), .ptr 12 0, .t (tI x3.At), .ptr 2 0, .t (tI t2.Now), .t (tB (decide (x3.At ≤ t2.Now))), .t (tB (decide (x3.At ≤ t2.Now))), .t (tB false), .ptr 12 0, .t (tI x3.At), .t (tI v_to), .t (tB (decide (x3.At > v_to))), .t (tB (decide (x3.At > v_to))), .t (tB false), .own 2496, .ptr 12 1, .t (tI x3.Channel), .pe 2496 (Int.toNat x3.Channel) 1 0, .t (tB x4), .ptr 12 2, .t (tB x3.Level), .t (tB (x4 == x3.Level)), .t (tB (x4 == x3.Level)), .t (tB true), .t (.v undef), .t (.v undef), .t (.v undef), .t (.v undef), .t (.v undef), .t (.v undef), .t (.v undef), .t (.v undef), .t (.v undef), .t (.v undef), .t (.v undef), .t (.v undef), .t (.v undef), .t (.v undef), .t (.v undef), .t (.v undef), .t (.v undef), .t (.v undef), .t (.v undef), .t (.v undef), .t (.v undef), .t (.v undef), .t (.v undef), .t (.v undef), .t (.v undef), .t (.v undef), .t (.v undef), .t (.v undef), .t (.v undef), .t (.v undef), .t (.v undef), .t (.v undef), .t (.v undef), .t (.v undef), .t (.v undef), .t (tB true)] [(1, .t (tI v_to)), (2, .ptr 2 0), (5, .ptr 5 0), (6, .t (tS enc_SSwitch r2.2.1)), (8, .own 2496), (11, .t (tI i2)), (12, .ptr 12 0), (77, .t (tS enc_SSwitch r2.2.1)), (78, .t (tI (r2.2.1.length : Int))), (79, .t (tI i2))] [(2, .box [.t (tI t2.Now), .t (tS enc_SChannel t2.Channels)]), (5, .box [.t (tI r2.1.Now), .t (tS enc_SChannel r2.1.Channels)]), (12, .box [.t (tI x3.At), .t (tI x3.Channel), .t (tB x3.Level)]), (2496, .rows 4 1 f4.length (f4.map Pv.encB))] mixed (.of rfl rfl) rfl rfl rfl rfl (.cons (.quiet rfl rfl rfl) (.cons (.quiet rfl rfl rfl) (.cons (.quiet rfl rfl rfl) (.cons (.cast (congrArg T.B hg2) (.quiet rfl rfl rfl)) (.cons (.quiet rfl rfl rfl) (.cons (.quiet rfl rfl rfl) (.cons (.quiet rfl rfl rfl) (.cons (.quiet rfl rfl rfl) (.cons (.quiet rfl rfl rfl) (.cons (.quiet rfl rfl rfl) (.cons (.cast (congrArg T.B hg4) (.quiet rfl rfl rfl)) (.cons (.quiet rfl rfl rfl) (.cons (.quiet rfl rfl rfl) (.cons (.quiet rfl rfl rfl) (.cons (.quiet rfl rfl rfl) (.cons (.quiet rfl rfl rfl) (.cons (.quiet rfl rfl rfl) (.cons (.cast (congrArg T.B hg6) (.quiet rfl rfl rfl)) (.cons (.quiet rfl rfl rfl) (.cons (.quiet rfl rfl rfl) (.cons (.quiet rfl rfl rfl) (.cons (.quiet rfl rfl rfl) (.cons (.quiet rfl rfl rfl) (.cons (.cast (congrArg T.B hg8) (.quiet rfl rfl rfl)) (.cons (.quiet rfl rfl rfl) (.cons (.quiet rfl rfl rfl) (.cons (.quiet rfl rfl rfl) (.cons (.indexO (sz := 1) hx4 rfl rfl rfl rfl rfl rfl rfl rfl) (.cons (.loadY hx4 rfl rfl rfl rfl rfl rfl) (.cons (.quiet rfl rfl rfl) (.cons (.quiet rfl rfl rfl) (.cons (.quiet rfl rfl rfl) (.cons (.quiet rfl rfl rfl) (.cons (.cast (congrArg T.B hg9) (.quiet rfl rfl rfl)) (.cons (.skip rfl) (.cons (.skip rfl) (.cons (.skip rfl) (.cons (.skip rfl) (.cons (.skip rfl) (.cons (.skip rfl) (.cons (.skip rfl) (.cons (.skip rfl) (.cons (.skip rfl) (.cons (.skip rfl) (.cons (.skip rfl) (.cons (.skip rfl) (.cons (.skip rfl) (.cons (.skip rfl) (.cons (.skip rfl) (.cons (.skip rfl) (.cons (.skip rfl) (.cons (.skip rfl) (.cons (.skip rfl) (.cons (.skip rfl) (.cons (.skip rfl) (.cons (.skip rfl) (.cons (.skip rfl) (.cons (.skip rfl) (.cons (.skip rfl) (.cons (.skip rfl) (.cons (.skip rfl) (.cons (.skip rfl) (.cons (.skip rfl) (.cons (.skip rfl) (.cons (.skip rfl) (.cons (.skip rfl) (.cons (.skip rfl) (.cons (.skip rfl) (.cons (.skip rfl) (.cons (.quiet rfl rfl rfl) (.nil))))))))))))))))))))))))))))))))))))))))))))))))))))))))))))))))))))))) ?_
                            refine TieO.nil ?_
                            exact TieS.leaf ⟨rfl, .of rfl rfl⟩
                          · refine TieX.split (fun hg11 => ?_) (fun hg16 => ?_)
                            · refine TieX.pre fun x5 hx5 => ?_
                              refine TieX.split (fun hg12 => ?_) (fun hg13 => ?_)
                              · refine TieS.draw 70 [.ptr 12 1, .t (tI x3.Channel), .t (tB (decide (x3.Channel < 0))), .t (tB false), .ptr 12 1, .t (tI x3.Channel), .own 2496, .t (tI (f4.length : Int)), .t (tB (decide (x3.Channel ≥ (f4.length : Int)))), .t (tB (decide (x3.Channel ≥ (f4.length : Int)))), .t (tB false), .ptr 12 0, .t (tI x3.At), .ptr 2 0, .t (tI t2.Now), .t (tB (decide (x3.At ≤ t2.Now))), .t (tB (decide (x3.At ≤ t2.Now))), .t (tB false), .ptr 12 0, .t (tI x3.At), .t (tI v_to), .t (tB (decide (x3.At > v_to))), .t (tB (decide (x3.At > v_to))), .t (tB false), .own 2496, .ptr 12 1, .t (tI x3.Channel), .pe 2496 (Int.toNat x3.Channel) 1 0, .t (tB x4), .ptr 12 2, .t (tB x3.Level), .t (tB (x4 == x3.Level)), .t (tB (x4 == x3.Level)), .t (tB false), .t (tI i2), .t (tB (decide (i2 > 0))), .t (tB true), .t (tS enc_SSwitch r2.2.1), .t (tI i2), .t (tI (w64 (i2 - 1))), .el (enc_SSwitch x5), .el (List.drop 0 (enc_SSwitch x5)), .t (tI x5.At), .ptr 12 0, .t (tI x3.At), .t (tB (decide (x5.At > x3.At))), .t (tB true), .t (.v undef), .t (.v undef), .t (.v undef), .t (.v undef), .t (.v undef), .t (.v undef), .t (.v undef), .t (.v undef), .t (.v undef), .t (.v undef), .t (.v undef), .t (.v undef), .t (.v undef), .t (.v undef), .t (.v undef), .t (.v undef), .t (.v undef), .t (.v undef), .t (.v undef), .t (.v undef), .t (tB true), .t (tB true), .t (tB true)] [(1, .t (tI v_to)), (2, .ptr 2 0), (5, .ptr 5 0), (6, .t (tS enc_SSwitch r2.2.1)), (8, .own 2496), (11, .t (tI i2)), (12, .ptr 12 0), (77, .t (tS enc_SSwitch r2.2.1)), (78, .t (tI (r2.2.1.length : Int))), (79, .t (tI i2))] [(2, .box [.t (tI t2.Now), .t (tS enc_SChannel t2.Channels)]), (5, .box [.t (tI r2.1.Now), .t (tS enc_SChannel r2.1.Channels)]), (12, .box [.t (tI x3.At), .t (tI x3.Channel), .t (tB x3.Level)]), (2496, .rows 4 1 f4.length (f4.map Pv.encB))] mixed (.of rfl rfl) rfl rfl rfl rfl (.cons (.quiet rfl rfl rfl) (.cons (.quiet rfl rfl rfl) (.cons (.quiet rfl rfl rfl) (.cons (.cast (congrArg T.B hg2) (.quiet rfl rfl rfl)) (.cons (.quiet rfl rfl rfl) (.cons (.quiet rfl rfl rfl) (.cons (.quiet rfl rfl rfl) (.cons (.quiet rfl rfl rfl) (.cons (.quiet rfl rfl rfl) (.cons (.quiet rfl rfl rfl) (.cons (.cast (congrArg T.B hg4) (.quiet rfl rfl rfl)) (.cons (.quiet rfl rfl rfl) (.cons (.quiet rfl rfl rfl) (.cons (.quiet rfl rfl rfl) (.cons (.quiet rfl rfl rfl) (.cons (.quiet rfl rfl rfl) (.cons (.quiet rfl rfl rfl) (.cons (.cast (congrArg T.B hg6) (.quiet rfl rfl rfl)) (.cons (.quiet rfl rfl rfl) (.cons (.quiet rfl rfl rfl) (.cons (.quiet rfl rfl rfl) (.cons (.quiet rfl rfl rfl) (.cons (.quiet rfl rfl rfl) (.cons (.cast (congrArg T.B hg8) (.quiet rfl rfl rfl)) (.cons (.quiet rfl rfl rfl) (.cons (.quiet rfl rfl rfl) (.cons (.quiet rfl rfl rfl) (.cons (.indexO (sz := 1) hx4 rfl rfl rfl rfl rfl rfl rfl rfl) (.cons (.loadY hx4 rfl rfl rfl rfl rfl rfl) (.cons (.quiet rfl rfl rfl) (.cons (.quiet rfl rfl rfl) (.cons (.quiet rfl rfl rfl) (.cons (.quiet rfl rfl rfl) (.cons (.cast (congrArg T.B hg10) (.quiet rfl rfl rfl)) (.cons (.quiet rfl rfl rfl) (.cons (.quiet rfl rfl rfl) (.cons (.cast (congrArg T.B hg11) (.quiet rfl rfl rfl)) (.cons (.quiet rfl rfl rfl) (.cons (.quiet rfl rfl rfl) (.cons (.quiet rfl rfl rfl) (.cons (.index hx5 rfl rfl rfl rfl rfl rfl (fun _ => rfl)) (.cons (.quiet rfl rfl rfl) (.cons (.quiet rfl rfl rfl) (.cons (.quiet rfl rfl rfl) (.cons (.quiet rfl rfl rfl) (.cons (.quiet rfl rfl rfl) (.cons (.cast (congrArg T.B hg12) (.quiet rfl rfl rfl)) (.cons (.skip rfl) (.cons (.skip rfl) (.cons (.skip rfl) (.cons (.skip rfl) (.cons (.skip rfl) (.cons (.skip rfl) (.cons (.skip rfl) (.cons (.skip rfl) (.cons (.skip rfl) (.cons (.skip rfl) (.cons (.skip rfl) (.cons (.skip rfl) (.cons (.skip rfl) (.cons (.skip rfl) (.cons (.skip rfl) (.cons (.skip rfl) (.cons (.skip rfl) (.cons (.skip rfl) (.cons (.skip rfl) (.cons (.skip rfl) (.cons (.quiet rfl rfl rfl) (.cons (.quiet rfl rfl rfl) (.cons (.quiet rfl rfl rfl) (.nil))))))))))))))))))))))))))))))))))))))))))))))))))))))))))))))))))))))) ?_
                                refine TieO.nil ?_
                                exact TieS.leaf ⟨rfl, .of rfl rfl⟩
                              · refine TieX.split (fun hg14 => ?_) (fun hg15 => ?_)
                                · refine TieS.draw 70 [.ptr 12 1, .t (tI x3.Channel), .t (tB (decide (x3.Channel < 0))), .t (tB false), .ptr 12 1, .t (tI x3.Channel), .own 2496, .t (tI (f4.length : Int)), .t (tB (decide (x3.Channel ≥ (f4.length : Int)))), .t (tB (decide (x3.Channel ≥ (f4.length : Int)))), .t (tB false), .ptr 12 0, .t (tI x3.At), .ptr 2 0, .t (tI t2.Now), .t (tB (decide (x3.At ≤ t2.Now))), .t (tB (decide (x3.At ≤ t2.Now))), .t (tB false), .ptr 12 0, .t (tI x3.At), .t (tI v_to), .t (tB (decide (x3.At > v_to))), .t (tB (decide (x3.At > v_to))), .t (tB false), .own 2496, .ptr 12 1, .t (tI x3.Channel), .pe 2496 (Int.toNat x3.Channel) 1 0, .t (tB x4), .ptr 12 2, .t (tB x3.Level), .t (tB (x4 == x3.Level)), .t (tB (x4 == x3.Level)), .t (tB false), .t (tI i2), .t (tB (decide (i2 > 0))), .t (tB true), .t (tS enc_SSwitch r2.2.1), .t (tI i2), .t (tI (w64 (i2 - 1))), .el (enc_SSwitch x5), .el (List.drop 0 (enc_SSwitch x5)), .t (tI x5.At), .ptr 12 0, .t (tI x3.At), .t (tB (decide (x5.At > x3.At))), .t (tB false), .t (tS enc_SSwitch r2.2.1), .t (tI i2), .t (tI (w64 (i2 - 1))), .el (enc_SSwitch x5), .el (List.drop 0 (enc_SSwitch x5)), .t (tI x5.At), .ptr 12 0, .t (tI x3.At), .t (tB (x5.At == x3.At)), .t (tB true), .t (tS enc_SSwitch r2.2.1), .t (tI i2), .t (tI (w64 (i2 - 1))), .el (enc_SSwitch x5), .el (List.drop 1 (enc_SSwitch x5)), .t (tI x5.Channel), .ptr 12 1, .t (tI x3.Channel), .t (tB (decide (x5.Channel ≥ x3.Channel))), .t (tB (decide (x5.Channel ≥ x3.Channel))), .t (tB (decide (x5.Channel ≥ x3.Channel))), .t (tB (decide (x5.Channel ≥ x3.Channel))), .t (tB (decide (x5.Channel ≥ x3.Channel)))] [(1, .t (tI v_to)), (2, .ptr 2 0), (5, .ptr 5 0), (6, .t (tS enc_SSwitch r2.2.1)), (8, .own 2496), (11, .t (tI i2)), (12, .ptr 12 0), (77, .t (tS enc_SSwitch r2.2.1)), (78, .t (tI (r2.2.1.length : Int))), (79, .t (tI i2))] [(2, .box [.t (tI t2.Now), .t (tS enc_SChannel t2.Channels)]), (5, .box [.t (tI r2.1.Now), .t (tS enc_SChannel r2.1.Channels)]), (12, .box [.t (tI x3.At), .t (tI x3.Channel), .t (tB x3.Level)]), (2496, .rows 4 1 f4.length (f4.map Pv.encB))] mixed (.of rfl rfl) rfl rfl rfl rfl (.cons (.quiet rfl rfl rfl) (.cons (.quiet rfl rfl rfl) (.cons (.quiet rfl rfl rfl) (.cons (.cast (congrArg T.B hg2) (.quiet rfl rfl rfl)) (.cons (.quiet rfl rfl rfl) (.cons (.quiet rfl rfl rfl) (.cons (.quiet rfl rfl rfl) (.cons (.quiet rfl rfl rfl) (.cons (.quiet rfl rfl rfl) (.cons (.quiet rfl rfl rfl) (.cons (.cast (congrArg T.B hg4) (.quiet rfl rfl rfl)) (.cons (.quiet rfl rfl rfl) (.cons (.quiet rfl rfl rfl) (.cons (.quiet rfl rfl rfl) (.cons (.quiet rfl rfl rfl) (.cons (.quiet rfl rfl rfl) (.cons (.quiet rfl rfl rfl) (.cons (.cast (congrArg T.B hg6) (.quiet rfl rfl rfl)) (.cons (.quiet rfl rfl rfl) (.cons (.quiet rfl rfl rfl) (.cons (.quiet rfl rfl rfl) (.cons (.quiet rfl rfl rfl) (.cons (.quiet rfl rfl rfl) (.cons (.cast (congrArg T.B hg8) (.quiet rfl rfl rfl)) (.cons (.quiet rfl rfl rfl) (.cons (.quiet rfl rfl rfl) (.cons (.quiet rfl rfl rfl) (.cons (.indexO (sz := 1) hx4 rfl rfl rfl rfl rfl rfl rfl rfl) (.cons (.loadY hx4 rfl rfl rfl rfl rfl rfl) (.cons (.quiet rfl rfl rfl) (.cons (.quiet rfl rfl rfl) (.cons (.quiet rfl rfl rfl) (.cons (.quiet rfl rfl rfl) (.cons (.cast (congrArg T.B hg10) (.quiet rfl rfl rfl)) (.cons (.quiet rfl rfl rfl) (.cons (.quiet rfl rfl rfl) (.cons (.cast (congrArg T.B hg11) (.quiet rfl rfl rfl)) (.cons (.quiet rfl rfl rfl) (.cons (.quiet rfl rfl rfl) (.cons (.quiet rfl rfl rfl) (.cons (.index hx5 rfl rfl rfl rfl rfl rfl (fun _ => rfl)) (.cons (.quiet rfl rfl rfl) (.cons (.quiet rfl rfl rfl) (.cons (.quiet rfl rfl rfl) (.cons (.quiet rfl rfl rfl) (.cons (.quiet rfl rfl rfl) (.cons (.cast (congrArg T.B hg13) (.quiet rfl rfl rfl)) (.cons (.quiet rfl rfl rfl) (.cons (.quiet rfl rfl rfl) (.cons (.quiet rfl rfl rfl) (.cons (.index hx5 rfl rfl rfl rfl rfl rfl (fun _ => rfl)) (.cons (.quiet rfl rfl rfl) (.cons (.quiet rfl rfl rfl) (.cons (.quiet rfl rfl rfl) (.cons (.quiet rfl rfl rfl) (.cons (.quiet rfl rfl rfl) (.cons (.cast (congrArg T.B hg14) (.quiet rfl rfl rfl)) (.cons (.quiet rfl rfl rfl) (.cons (.quiet rfl rfl rfl) (.cons (.quiet rfl rfl rfl) (.cons (.index hx5 rfl rfl rfl rfl rfl rfl (fun _ => rfl)) (.cons (.quiet rfl rfl rfl) (.cons (.quiet rfl rfl rfl) (.cons (.quiet rfl rfl rfl) (.cons (.quiet rfl rfl rfl) (.cons (.quiet rfl rfl rfl) (.cons (.quiet rfl rfl rfl) (.cons (.quiet rfl rfl rfl) (.cons (.quiet rfl rfl rfl) (.cons (.quiet rfl rfl rfl) (.nil))))))))))))))))))))))))))))))))))))))))))))))))))))))))))))))))))))))) ?_
                                  refine TieO.nil ?_
                                  exact TieS.leaf ⟨rfl, .of rfl rfl⟩
                                · refine TieS.draw 70 [.ptr 12 1, .t (tI x3.Channel), .t (tB (decide (x3.Channel < 0))), .t (tB false), .ptr 12 1, .t (tI x3.Channel), .own 2496, .t (tI (f4.length : Int)), .t (tB (decide (x3.Channel ≥ (f4.length : Int)))), .t (tB (decide (x3.Channel ≥ (f4.length : Int)))), .t (tB false), .ptr 12 0, .t (tI x3.At), .ptr 2 0, .t (tI t2.Now), .t (tB (decide (x3.At ≤ t2.Now))), .t (tB (decide (x3.At ≤ t2.Now))), .t (tB false), .ptr 12 0, .t (tI x3.At), .t (tI v_to), .t (tB (decide (x3.At > v_to))), .t (tB (decide (x3.At > v_to))), .t (tB false), .own 2496, .ptr 12 1, .t (tI x3.Channel), .pe 2496 (Int.toNat x3.Channel) 1 0, .t (tB x4), .ptr 12 2, .t (tB x3.Level), .t (tB (x4 == x3.Level)), .t (tB (x4 == x3.Level)), .t (tB false), .t (tI i2), .t (tB (decide (i2 > 0))), .t (tB true), .t (tS enc_SSwitch r2.2.1), .t (tI i2), .t (tI (w64 (i2 - 1))), .el (enc_SSwitch x5), .el (List.drop 0 (enc_SSwitch x5)), .t (tI x5.At), .ptr 12 0, .t (tI x3.At), .t (tB (decide (x5.At > x3.At))), .t (tB false), .t (tS enc_SSwitch r2.2.1), .t (tI i2), .t (tI (w64 (i2 - 1))), .el (enc_SSwitch x5), .el (List.drop 0 (enc_SSwitch x5)), .t (tI x5.At), .ptr 12 0, .t (tI x3.At), .t (tB (x5.At == x3.At)), .t (tB false), .t (.v undef), .t (.v undef), .t (.v undef), .t (.v undef), .t (.v undef), .t (.v undef), .t (.v undef), .t (.v undef), .t (.v undef), .t (tB false), .t (tB false), .t (tB false), .t (tB false)] [(1, .t (tI v_to)), (2, .ptr 2 0), (5, .ptr 5 0), (6, .t (tS enc_SSwitch r2.2.1)), (8, .own 2496), (11, .t (tI i2)), (12, .ptr 12 0), (77, .t (tS enc_SSwitch r2.2.1)), (78, .t (tI (r2.2.1.length : Int))), (79, .t (tI i2))] [(2, .box [.t (tI t2.Now), .t (tS enc_SChannel t2.Channels)]), (5, .box [.t (tI r2.1.Now), .t (tS enc_SChannel r2.1.Channels)]), (12, .box [.t (tI x3.At), .t (tI x3.Channel), .t (tB x3.Level)]), (2496, .rows 4 1 f4.length (f4.map Pv.encB))] mixed (.of rfl rfl) rfl rfl rfl rfl (.cons (.quiet rfl rfl rfl) (.cons (.quiet rfl rfl rfl) (.cons (.quiet rfl rfl rfl) (.cons (.cast (congrArg T.B hg2) (.quiet rfl rfl rfl)) (.cons (.quiet rfl rfl rfl) (.cons (.quiet rfl rfl rfl) (.cons (.quiet rfl rfl rfl) (.cons (.quiet rfl rfl rfl) (.cons (.quiet rfl rfl rfl) (.cons (.quiet rfl rfl rfl) (.cons (.cast (congrArg T.B hg4) (.quiet rfl rfl rfl)) (.cons (.quiet rfl rfl rfl) (.cons (.quiet rfl rfl rfl) (.cons (.quiet rfl rfl rfl) (.cons (.quiet rfl rfl rfl) (.cons (.quiet rfl rfl rfl) (.cons (.quiet rfl rfl rfl) (.cons (.cast (congrArg T.B hg6) (.quiet rfl rfl rfl)) (.cons (.quiet rfl rfl rfl) (.cons (.quiet rfl rfl rfl) (.cons (.quiet rfl rfl rfl) (.cons (.quiet rfl rfl rfl) (.cons (.quiet rfl rfl rfl) (.cons (.cast (congrArg T.B hg8) (.quiet rfl rfl rfl)) (.cons (.quiet rfl rfl rfl) (.cons (.quiet rfl rfl rfl) (.cons (.quiet rfl rfl rfl) (.cons (.indexO (sz := 1) hx4 rfl rfl rfl rfl rfl rfl rfl rfl) (.cons (.loadY hx4 rfl rfl rfl rfl rfl rfl) (.cons (.quiet rfl rfl rfl) (.cons (.quiet rfl rfl rfl) (.cons (.quiet rfl rfl rfl) (.cons (.quiet rfl rfl rfl) (.cons (.cast (congrArg T.B hg10) (.quiet rfl rfl rfl)) (.cons (.quiet rfl rfl rfl) (.cons (.quiet rfl rfl rfl) (.cons (.cast (congrArg T.B hg11) (.quiet rfl rfl rfl)) (.cons (.quiet rfl rfl rfl) (.cons (.quiet rfl rfl rfl) (.cons (.quiet rfl rfl rfl) (.cons (.index hx5 rfl rfl rfl rfl rfl rfl (fun _ => rfl)) (.cons (.quiet rfl rfl rfl) (.cons (.quiet rfl rfl rfl) (.cons (.quiet rfl rfl rfl) (.cons (.quiet rfl rfl rfl) (.cons (.quiet rfl rfl rfl) (.cons (.cast (congrArg T.B hg13) (.quiet rfl rfl rfl)) (.cons (.quiet rfl rfl rfl) (.cons (.quiet rfl rfl rfl) (.cons (.quiet rfl rfl rfl) (.cons (.index hx5 rfl rfl rfl rfl rfl rfl (fun _ => rfl)) (.cons (.quiet rfl rfl rfl) (.cons (.quiet rfl rfl rfl) (.cons (.quiet rfl rfl rfl) (.cons (.quiet rfl rfl rfl) (.cons (.quiet rfl rfl rfl) (.cons (.cast (congrArg T.B hg15) (.quiet rfl rfl rfl)) (.cons (.skip rfl) (.cons (.skip rfl) (.cons (.skip rfl) (.cons (.skip rfl) (.cons (.skip rfl) (.cons (.skip rfl) (.cons (.skip rfl) (.cons (.skip rfl) (.cons (.skip rfl) (.cons (.quiet rfl rfl rfl) (.cons (.quiet rfl rfl rfl) (.cons (.quiet rfl rfl rfl) (.cons (.quiet rfl rfl rfl) (.nil))))))))))))))))))))))))))))))))))))))))))))))))))))))))))))))))))))))) ?_
                                  refine TieO.nil ?_
                                  exact TieS.leaf ⟨rfl, .of rfl rfl⟩
                            · refine TieS.draw 70 [.ptr 12 1, .t (tI x3.Channel), .t (tB (decide (x3.Channel < 0))), .t (tB false), .ptr 12 1, .t (tI x3.Channel), .own 2496, .t (tI (f4.length : Int)), .t (tB (decide (x3.Channel ≥ (f4.length : Int)))), .t (tB (decide (x3.Channel ≥ (f4.length : Int)))), .t (tB false), .ptr 12 0, .t (tI x3.At), .ptr 2 0, .t (tI t2.Now), .t (tB (decide (x3.At ≤ t2.Now))), .t (tB (decide (x3.At ≤ t2.Now))), .t (tB false), .ptr 12 0, .t (tI x3.At), .t (tI v_to), .t (tB (decide (x3.At > v_to))), .t (tB (decide (x3.At > v_to))), .t (tB false), .own 2496, .ptr 12 1, .t (tI x3.Channel), .pe 2496 (Int.toNat x3.Channel) 1 0, .t (tB x4), .ptr 12 2, .t (tB x3.Level), .t (tB (x4 == x3.Level)), .t (tB (x4 == x3.Level)), .t (tB false), .t (tI i2), .t (tB (decide (i2 > 0))), .t (tB false), .t (.v undef), .t (.v undef), .t (.v undef), .t (.v undef), .t (.v undef), .t (.v undef), .t (.v undef), .t (.v undef), .t (.v undef), .t (.v undef), .t (.v undef), .t (.v undef), .t (.v undef), .t (.v undef), .t (.v undef), .t (.v undef), .t (.v undef), .t (.v undef), .t (.v undef), .t (.v undef), .t (.v undef), .t (.v undef), .t (.v undef), .t (.v undef), .t (.v undef), .t (.v undef), .t (.v undef), .t (.v undef), .t (.v undef), .t (.v undef), .t (.v undef), .t (tB false), .t (tB false)] [(1, .t (tI v_to)), (2, .ptr 2 0), (5, .ptr 5 0), (6, .t (tS enc_SSwitch r2.2.1)), (8, .own 2496), (11, .t (tI i2)), (12, .ptr 12 0), (77, .t (tS enc_SSwitch r2.2.1)), (78, .t (tI (r2.2.1.length : Int))), (79, .t (tI i2))] [(2, .box [.t (tI t2.Now), .t (tS enc_SChannel t2.Channels)]), (5, .box [.t (tI r2.1.Now), .t (tS enc_SChannel r2.1.Channels)]), (12, .box [.t (tI x3.At), .t (tI x3.Channel), .t (tB x3.Level)]), (2496, .rows 4 1 f4.length (f4.map Pv.encB))] mixed (.of rfl rfl) rfl rfl rfl rfl (.cons (.quiet rfl rfl rfl) (.cons (.quiet rfl rfl rfl) (.cons (.quiet rfl rfl rfl) (.cons (.cast (congrArg T.B hg2) (.quiet rfl rfl rfl)) (.cons (.quiet rfl rfl rfl) (.cons (.quiet rfl rfl rfl) (.cons (.quiet rfl rfl rfl) (.cons (.quiet rfl rfl rfl) (.cons (.quiet rfl rfl rfl) (.cons (.quiet rfl rfl rfl) (.cons (.cast (congrArg T.B hg4) (.quiet rfl rfl rfl)) (.cons (.quiet rfl rfl rfl) (.cons (.quiet rfl rfl rfl) (.cons (.quiet rfl rfl rfl) (.cons (.quiet rfl rfl rfl) (.cons (.quiet rfl rfl rfl) (.cons (.quiet rfl rfl rfl) (.cons (.cast (congrArg T.B hg6) (.quiet rfl rfl rfl)) (.cons (.quiet rfl rfl rfl) (.cons (.quiet rfl rfl rfl) (.cons (.quiet rfl rfl rfl) (.cons (.quiet rfl rfl rfl) (.cons (.quiet rfl rfl rfl) (.cons (.cast (congrArg T.B hg8) (.quiet rfl rfl rfl)) (.cons (.quiet rfl rfl rfl) (.cons (.quiet rfl rfl rfl) (.cons (.quiet rfl rfl rfl) (.cons (.indexO (sz := 1) hx4 rfl rfl rfl rfl rfl rfl rfl rfl) (.cons (.loadY hx4 rfl rfl rfl rfl rfl rfl) (.cons (.quiet rfl rfl rfl) (.cons (.quiet rfl rfl rfl) (.cons (.quiet rfl rfl rfl) (.cons (.quiet rfl rfl rfl) (.cons (.cast (congrArg T.B hg10) (.quiet rfl rfl rfl)) (.cons (.quiet rfl rfl rfl) (.cons (.quiet rfl rfl rfl) (.cons (.cast (congrArg T.B hg16) (.quiet rfl rfl rfl)) (.cons (.skip rfl) (.cons (.skip rfl) (.cons (.skip rfl) (.cons (.skip rfl) (.cons (.skip rfl) (.cons (.skip rfl) (.cons (.skip rfl) (.cons (.skip rfl) (.cons (.skip rfl) (.cons (.skip rfl) (.cons (.skip rfl) (.cons (.skip rfl) (.cons (.skip rfl) (.cons (.skip rfl) (.cons (.skip rfl) (.cons (.skip rfl) (.cons (.skip rfl) (.cons (.skip rfl) (.cons (.skip rfl) (.cons (.skip rfl) (.cons (.skip rfl) (.cons (.skip rfl) (.cons (.skip rfl) (.cons (.skip rfl) (.cons (.skip rfl) (.cons (.skip rfl) (.cons (.skip rfl) (.cons (.skip rfl) (.cons (.skip rfl) (.cons (.skip rfl) (.cons (.skip rfl) (.cons (.quiet rfl rfl rfl) (.cons (.quiet rfl rfl rfl) (.nil))))))))))))))))))))))))))))))))))))))))))))))))))))))))))))))))))))))) ?_
                              refine TieO.nil ?_
                              exact TieS.leaf ⟨rfl, .of rfl rfl⟩
                rintro v5 e σ' _ ⟨rfl, hs⟩
                refine TieX.sub hs ?_
                refine TieS.cond rfl ?_ ?_
                · refine TieS.seq ?_
                  refine TieS.region ?_
                  refine TieO.run 1 rfl ?_
                  refine TieO.nil ?_
                  exact TieS.ret ⟨rfl, rfl⟩
                · refine TieS.skip ?_
                  refine TieS.seq ?_
                  refine TieS.region ?_
                  refine TieO.run 5 rfl ?_
                  refine TieO.indexO rfl rfl rfl rfl rfl rfl rfl rfl rfl rfl fun x6 hx6 => ?_
                  refine TieO.storeY x3.Level [tB x3.Level] hx6 rfl rfl rfl rfl rfl rfl rfl rfl rfl rfl rfl rfl fun l3 hl3 => ?_
                  refine TieO.nil ?_
                  refine TieS.seq ?_
                  refine TieS.region ?_
                  refine TieO.run 4 rfl ?_
                  refine TieO.index rfl rfl rfl rfl rfl rfl rfl rfl (fun _ => rfl) fun x7 hx7 => ?_
                  refine TieO.run 3 rfl ?_
                  refine TieO.nil ?_
                  refine TieS.seq ?_
                  refine TieS.region ?_
                  refine TieO.run 4 rfl ?_
                  refine TieO.selOr (v := (x7.At != x3.At)) 6 169 (fun b => ⟨[(1, .t (tI v_to)), (2, .ptr 2 0), (5, .ptr 5 0), (6, .t (tS enc_SSwitch r2.2.1)), (8, .own 2496), (12, .ptr 12 0), (13, .ptr 13 0), (77, .t (tS enc_SSwitch r2.2.1)), (78, .t (tI (r2.2.1.length : Int))), (79, .t (tI i2)), (175, .t (tB b))], [(2, .box [.t (tI t2.Now), .t (tS enc_SChannel t2.Channels)]), (5, .box [.t (tI r2.1.Now), .t (tS enc_SChannel r2.1.Channels)]), (12, .box [.t (tI x3.At), .t (tI x3.Channel), .t (tB x3.Level)]), (13, .box [.t (tB x7.Armed), .t (tI x7.At), .t (tB x7.Next), .t (tB x7.Level)]), (2496, .rows 4 1 l3.length (l3.map Pv.encB))]⟩) rfl ?_ ?_ ?_
                  · refine TieO.run 6 rfl ?_
                    refine TieO.nil ?_
                    exact TieS.leaf ⟨rfl, .of rfl rfl⟩
                  · refine TieO.run 6 rfl ?_
                    refine TieO.nil ?_
                    exact TieS.leaf ⟨rfl, .of rfl rfl⟩
                  refine TieO.run 1 rfl ?_
                  refine TieO.selOr (v := (!(x7.Next == x3.Level))) 6 176 (fun b => ⟨[(1, .t (tI v_to)), (2, .ptr 2 0), (5, .ptr 5 0), (6, .t (tS enc_SSwitch r2.2.1)), (8, .own 2496), (77, .t (tS enc_SSwitch r2.2.1)), (78, .t (tI (r2.2.1.length : Int))), (79, .t (tI i2)), (182, .t (tB b))], [(2, .box [.t (tI t2.Now), .t (tS enc_SChannel t2.Channels)]), (5, .box [.t (tI r2.1.Now), .t (tS enc_SChannel r2.1.Channels)]), (2496, .rows 4 1 l3.length (l3.map Pv.encB))]⟩) rfl ?_ ?_ ?_
                  · refine TieO.run 6 rfl ?_
                    refine TieO.nil ?_
                    exact TieS.leaf ⟨rfl, .of rfl rfl⟩
                  · refine TieO.run 6 rfl ?_
                    refine TieO.nil ?_
                    exact TieS.leaf ⟨rfl, .of rfl rfl⟩
                  refine TieO.nil ?_
                  refine TieS.cond rfl ?_ ?_
                  · refine TieS.seq ?_
                    refine TieS.region ?_
                    refine TieO.run 1 rfl ?_
                    refine TieO.nil ?_
                    exact TieS.ret ⟨rfl, rfl⟩
                  · refine TieS.skip ?_
                    refine TieS.endb ?_
                    exact TieS.leaf ⟨rfl, .of rfl rfl⟩
              rintro (t | t | t) e σ' _ hq
              · obtain ⟨rfl, hs⟩ := hq
                refine TieX.sub hs ?_
                refine TieS.region ?_
                refine TieO.run 2 rfl ?_
                refine TieO.nil ?_
                exact TieS.leaf ⟨rfl, .of rfl rfl⟩
              · obtain ⟨rfl, hs⟩ := hq
                exact TieX.exitOut rfl ⟨(fun h => by cases h), rfl, hs⟩
              · obtain ⟨rfl, hs⟩ := hq
                exact TieX.ret ⟨(fun h => by cases h), rfl, hs⟩
            · exact TieS.exitOut rfl ⟨(fun h => by cases h), rfl, .of rfl rfl⟩
          rintro (f5 | r4) e σ' _ hq
          · obtain ⟨rfl, hs⟩ := hq
            refine TieX.exit rfl (TieX.sub hs ?_)
            refine TieS.seq ?_
            refine TieS.seq ?_
            refine TieS.region ?_
            refine TieO.run 4 rfl ?_
            refine TieO.nil ?_
            refine TieS.block ?_
            refine TieS.loop (fun p => ⟨[(1, .t (tI v_to)), (2, .ptr 2 0), (8, .own 2496), (185, .t (tS enc_SChannel r2.1.Channels)), (186, .t (tI (r2.1.Channels.length : Int))), (187, .t (tI p.1))], [(2, .box [.t (tI t2.Now), .t (tS enc_SChannel t2.Channels)]), (2496, .rows 4 1 f5.length (f5.map Pv.encB))]⟩) (fun b e σ' => match b with | .inl t => e = .exit 4 ∧ Sub ⟨[], []⟩ σ' | .inr t => e = .ret ∧ retT tab σ' [.tmp 4] = some (((fun r => .t (tB r)) : Bool → T) t)) (.of rfl rfl) ?_ ?_
            · rintro ⟨i3, s⟩
              refine TieS.seq ?_
              refine TieS.region ?_
              refine TieO.run 1 rfl ?_
              refine TieO.nil ?_
              refine TieS.seq ?_
              refine TieS.cond rfl ?_ ?_
              · refine TieS.skip ?_
                refine TieS.seq ?_
                refine TieX.sub (σ' := ⟨[(1, .t (tI v_to)), (2, .ptr 2 0), (8, .own 2496), (185, .t (tS enc_SChannel r2.1.Channels)), (186, .t (tI (r2.1.Channels.length : Int))), (187, .t (tI i3))], [(2, .box [.t (tI t2.Now), .t (tS enc_SChannel t2.Channels)]), (2496, .rows 4 1 f5.length (f5.map Pv.encB))]⟩) (.of rfl rfl) ?_
                refine TieS.bind (Q₁ := fun f e σ' => match f with | .next t => e = .normal ∧ Sub ⟨[(1, .t (tI v_to)), (2, .ptr 2 0), (8, .own 2496), (185, .t (tS enc_SChannel r2.1.Channels)), (186, .t (tI (r2.1.Channels.length : Int))), (187, .t (tI i3))], [(2, .box [.t (tI t2.Now), .t (tS enc_SChannel t2.Channels)]), (2496, .rows 4 1 f5.length (f5.map Pv.encB))]⟩ σ' | .brk t => e = .exit 4 ∧ Sub ⟨[], []⟩ σ' | .ret t => e = .ret ∧ retT tab σ' [.tmp 4] = some (((fun r => .t (tB r)) : Bool → T) t)) ?_ ?_
                · refine TieS.block ?_
                  refine TieS.seq ?_
                  refine TieS.region ?_
                  refine TieO.run 1 rfl ?_
                  refine TieO.index rfl rfl rfl rfl rfl rfl rfl rfl (fun _ => rfl) fun x8 hx8 => ?_
                  refine TieO.run 4 rfl ?_
                  refine TieO.nil ?_
                  refine TieS.seq ?_
                  refine TieX.pre fun x9 hx9 => ?_
                  refine TieX.split (fun hg17 => ?_) (fun hg18 => ?_)
                  · refine TieS.draw 28 [.ptr 15 3, .t (tB x8.Level), .own 2496, .t (tI i3), .pe 2496 (Int.toNat i3) 1 0, .t (tB x9), .t (tB (!(x8.Level == x9))), .t (tB true), .t (.v undef), .t (.v undef), .t (.v undef), .t (.v undef), .t (.v undef), .t (.v undef), .t (.v undef), .t (.v undef), .t (.v undef), .t (.v undef), .t (.v undef), .t (.v undef), .t (.v undef), .t (.v undef), .t (.v undef), .t (.v undef), .t (.v undef), .t (.v undef), .t (.v undef), .t (tB true)] [(1, .t (tI v_to)), (2, .ptr 2 0), (8, .own 2496), (14, .t (tI i3)), (15, .ptr 15 0), (185, .t (tS enc_SChannel r2.1.Channels)), (186, .t (tI (r2.1.Channels.length : Int))), (187, .t (tI i3))] [(2, .box [.t (tI t2.Now), .t (tS enc_SChannel t2.Channels)]), (15, .box [.t (tB x8.Armed), .t (tI x8.At), .t (tB x8.Next), .t (tB x8.Level)]), (2496, .rows 4 1 f5.length (f5.map Pv.encB))] mixed (.of rfl rfl) rfl rfl rfl rfl (.cons (.quiet rfl rfl rfl) (.cons (.quiet rfl rfl rfl) (.cons (.quiet rfl rfl rfl) (.cons (.quiet rfl rfl rfl) (.cons (.indexO (sz := 1) hx9 rfl rfl rfl rfl rfl rfl rfl rfl) (.cons (.loadY hx9 rfl rfl rfl rfl rfl rfl) (.cons (.quiet rfl rfl rfl) (.cons (.cast (congrArg T.B hg17) (.quiet rfl rfl rfl)) (.cons (.skip rfl) (.cons (.skip rfl) (.cons (.skip rfl) (.cons (.skip rfl) (.cons (.skip rfl) (.cons (.skip rfl) (.cons (.skip rfl) (.cons (.skip rfl) (.cons (.skip rfl) (.cons (.skip rfl) (.cons (.skip rfl) (.cons (.skip rfl) (.cons (.skip rfl) (.cons (.skip rfl) (.cons (.skip rfl) (.cons (.skip rfl) (.cons (.skip rfl) (.cons (.skip rfl) (.cons (.skip rfl) (.cons (.quiet rfl rfl rfl) (.nil))))))))))))))))))))))))))))) ?_
                    refine TieO.nil ?_
                    refine TieS.condL rfl ?_
                    refine TieS.seq ?_
                    refine TieS.region ?_
                    refine TieO.run 1 rfl ?_
                    refine TieO.nil ?_
                    exact TieS.ret ⟨rfl, rfl⟩
                  · refine TieX.pre fun x10 hx10 => ?_
                    refine TieX.split (fun hg19 => ?_) (fun hg20 => ?_)
                    · refine TieS.draw 28 [.ptr 15 3, .t (tB x8.Level), .own 2496, .t (tI i3), .pe 2496 (Int.toNat i3) 1 0, .t (tB x9), .t (tB (!(x8.Level == x9))), .t (tB false), .ptr 15 0, .t (tB x8.Armed), .ptr 2 1, .t (tS enc_SChannel t2.Channels), .t (tI i3), .el (enc_SChannel x10), .el (List.drop 0 (enc_SChannel x10)), .t (tB x10.Armed), .t (tB true), .ptr 2 1, .t (tS enc_SChannel t2.Channels), .t (tI i3), .el (enc_SChannel x10), .el (List.drop 1 (enc_SChannel x10)), .t (tI x10.At), .t (tI v_to), .t (tB (decide (x10.At > v_to))), .t (tB (decide (x10.At > v_to))), .t (tB (!(x8.Armed == (decide (x10.At > v_to))))), .t (tB (!(x8.Armed == (decide (x10.At > v_to)))))] [(1, .t (tI v_to)), (2, .ptr 2 0), (8, .own 2496), (14, .t (tI i3)), (15, .ptr 15 0), (185, .t (tS enc_SChannel r2.1.Channels)), (186, .t (tI (r2.1.Channels.length : Int))), (187, .t (tI i3))] [(2, .box [.t (tI t2.Now), .t (tS enc_SChannel t2.Channels)]), (15, .box [.t (tB x8.Armed), .t (tI x8.At), .t (tB x8.Next), .t (tB x8.Level)]), (2496, .rows 4 1 f5.length (f5.map Pv.encB))] mixed (.of rfl rfl) rfl rfl rfl rfl (.cons (.quiet rfl rfl rfl) (.cons (.quiet rfl rfl rfl) (.cons (.quiet rfl rfl rfl) (.cons (.quiet rfl rfl rfl) (.cons (.indexO (sz := 1) hx9 rfl rfl rfl rfl rfl rfl rfl rfl) (.cons (.loadY hx9 rfl rfl rfl rfl rfl rfl) (.cons (.quiet rfl rfl rfl) (.cons (.cast (congrArg T.B hg18) (.quiet rfl rfl rfl)) (.cons (.quiet rfl rfl rfl) (.cons (.quiet rfl rfl rfl) (.cons (.quiet rfl rfl rfl) (.cons (.quiet rfl rfl rfl) (.cons (.quiet rfl rfl rfl) (.cons (.index hx10 rfl rfl rfl rfl rfl rfl (fun _ => rfl)) (.cons (.quiet rfl rfl rfl) (.cons (.quiet rfl rfl rfl) (.cons (.cast (congrArg T.B hg19) (.quiet rfl rfl rfl)) (.cons (.quiet rfl rfl rfl) (.cons (.quiet rfl rfl rfl) (.cons (.quiet rfl rfl rfl) (.cons (.index hx10 rfl rfl rfl rfl rfl rfl (fun _ => rfl)) (.cons (.quiet rfl rfl rfl) (.cons (.quiet rfl rfl rfl) (.cons (.quiet rfl rfl rfl) (.cons (.quiet rfl rfl rfl) (.cons (.quiet rfl rfl rfl) (.cons (.quiet rfl rfl rfl) (.cons (.quiet rfl rfl rfl) (.nil))))))))))))))))))))))))))))) ?_
                      refine TieO.nil ?_
                      refine TieS.cond rfl ?_ ?_
                      · refine TieS.seq ?_
                        refine TieS.region ?_
                        refine TieO.run 1 rfl ?_
                        refine TieO.nil ?_
                        exact TieS.ret ⟨rfl, rfl⟩
                      · refine TieS.skip ?_
                        refine TieS.endb ?_
                        exact TieS.leaf ⟨rfl, .of rfl rfl⟩
                    · refine TieS.draw 28 [.ptr 15 3, .t (tB x8.Level), .own 2496, .t (tI i3), .pe 2496 (Int.toNat i3) 1 0, .t (tB x9), .t (tB (!(x8.Level == x9))), .t (tB false), .ptr 15 0, .t (tB x8.Armed), .ptr 2 1, .t (tS enc_SChannel t2.Channels), .t (tI i3), .el (enc_SChannel x10), .el (List.drop 0 (enc_SChannel x10)), .t (tB x10.Armed), .t (tB false), .t (.v undef), .t (.v undef), .t (.v undef), .t (.v undef), .t (.v undef), .t (.v undef), .t (.v undef), .t (.v undef), .t (tB false), .t (tB (!(x8.Armed == false))), .t (tB (!(x8.Armed == false)))] [(1, .t (tI v_to)), (2, .ptr 2 0), (8, .own 2496), (14, .t (tI i3)), (15, .ptr 15 0), (185, .t (tS enc_SChannel r2.1.Channels)), (186, .t (tI (r2.1.Channels.length : Int))), (187, .t (tI i3))] [(2, .box [.t (tI t2.Now), .t (tS enc_SChannel t2.Channels)]), (15, .box [.t (tB x8.Armed), .t (tI x8.At), .t (tB x8.Next), .t (tB x8.Level)]), (2496, .rows 4 1 f5.length (f5.map Pv.encB))] mixed (.of rfl rfl) rfl rfl rfl rfl (.cons (.quiet rfl rfl rfl) (.cons (.quiet rfl rfl rfl) (.cons (.quiet rfl rfl rfl) (.cons (.quiet rfl rfl rfl) (.cons (.indexO (sz := 1) hx9 rfl rfl rfl rfl rfl rfl rfl rfl) (.cons (.loadY hx9 rfl rfl rfl rfl rfl rfl) (.cons (.quiet rfl rfl rfl) (.cons (.cast (congrArg T.B hg18) (.quiet rfl rfl rfl)) (.cons (.quiet rfl rfl rfl) (.cons (.quiet rfl rfl rfl) (.cons (.quiet rfl rfl rfl) (.cons (.quiet rfl rfl rfl) (.cons (.quiet rfl rfl rfl) (.cons (.index hx10 rfl rfl rfl rfl rfl rfl (fun _ => rfl)) (.cons (.quiet rfl rfl rfl) (.cons (.quiet rfl rfl rfl) (.cons (.cast (congrArg T.B hg20) (.quiet rfl rfl rfl)) (.cons (.skip rfl) (.cons (.skip rfl) (.cons (.skip rfl) (.cons (.skip rfl) (.cons (.skip rfl) (.cons (.skip rfl) (.cons (.skip rfl) (.cons (.skip rfl) (.cons (.quiet rfl rfl rfl) (.cons (.quiet rfl rfl rfl) (.cons (.quiet rfl rfl rfl) (.nil))))))))))))))))))))))))))))) ?_
                      refine TieO.nil ?_
                      refine TieS.cond rfl ?_ ?_
                      · refine TieS.seq ?_
                        refine TieS.region ?_
                        refine TieO.run 1 rfl ?_
                        refine TieO.nil ?_
                        exact TieS.ret ⟨rfl, rfl⟩
                      · refine TieS.skip ?_
                        refine TieS.endb ?_
                        exact TieS.leaf ⟨rfl, .of rfl rfl⟩
                rintro (t | t | t) e σ' _ hq
                · obtain ⟨rfl, hs⟩ := hq
                  refine TieX.sub hs ?_
                  refine TieS.region ?_
                  refine TieO.run 2 rfl ?_
                  refine TieO.nil ?_
                  exact TieS.leaf ⟨rfl, .of rfl rfl⟩
                · obtain ⟨rfl, hs⟩ := hq
                  exact TieX.exitOut rfl ⟨(fun h => by cases h), rfl, hs⟩
                · obtain ⟨rfl, hs⟩ := hq
                  exact TieX.ret ⟨(fun h => by cases h), rfl, hs⟩
              · exact TieS.exitOut rfl ⟨(fun h => by cases h), rfl, .of rfl rfl⟩
            rintro (s2 | r3) e σ' _ hq
            · obtain ⟨rfl, hs⟩ := hq
              refine TieX.exit rfl (TieX.sub hs ?_)
              refine TieS.seq ?_
              refine TieS.region ?_
              refine TieO.run 1 rfl ?_
              refine TieO.nil ?_
              exact TieS.ret ⟨.inl rfl, rfl⟩
            · obtain ⟨rfl, hs⟩ := hq
              exact TieX.ret ⟨.inl rfl, hs⟩
          · obtain ⟨rfl, hs⟩ := hq
            exact TieX.ret ⟨.inl rfl, hs⟩
        · exact hq.elim
-- magneto/magnetoref24.Same
set_option maxRecDepth 100000 in
theorem tie_magnetoref24_Same (a : STimer) (b2 : STimer) : TieF Try.prog 15 [A_STimer a, A_STimer b2] (magnetoref24_Same a b2) (fun r => .t (tB r)) := by
  refine TieF.intro htab 38 [.tmp 4] Try.call15 Try.func15 rfl rfl rfl (Nat.le_of_ble_eq_true rfl) fun w0 L => ?_
  refine TieS.seq ?_
  refine TieS.region ?_
  refine TieO.run 3 rfl ?_
  refine TieO.nil ?_
  refine TieS.seq ?_
  refine TieS.seq ?_
  refine TieS.region ?_
  refine TieO.run 6 rfl ?_
  refine TieO.selOr (v := ((a.Channels.length : Int) != (b2.Channels.length : Int))) 8 11 (fun b => ⟨[(2, .ptr 2 0), (3, .ptr 3 0), (19, .t (tB b))], [(2, .box [.t (tI a.Now), .t (tS enc_SChannel a.Channels)]), (3, .box [.t (tI b2.Now), .t (tS enc_SChannel b2.Channels)])]⟩) rfl ?_ ?_ ?_
  · refine TieO.run 8 rfl ?_
    refine TieO.nil ?_
    exact TieS.leaf ⟨rfl, .of rfl rfl⟩
  · refine TieO.run 8 rfl ?_
    refine TieO.nil ?_
    exact TieS.leaf ⟨rfl, .of rfl rfl⟩
  refine TieO.nil ?_
  refine TieS.cond rfl ?_ ?_
  · refine TieS.seq ?_
    refine TieS.region ?_
    refine TieO.run 1 rfl ?_
    refine TieO.nil ?_
    exact TieS.ret ⟨.inl rfl, rfl⟩
  · refine TieS.skip ?_
    refine TieS.seq ?_
    refine TieS.seq ?_
    refine TieS.region ?_
    refine TieO.run 1 rfl ?_
    refine TieO.nil ?_
    refine TieS.block ?_
    refine TieS.loop (fun t => ⟨[(2, .ptr 2 0), (3, .ptr 3 0), (5, .t (tI t))], [(2, .box [.t (tI a.Now), .t (tS enc_SChannel a.Channels)]), (3, .box [.t (tI b2.Now), .t (tS enc_SChannel b2.Channels)])]⟩) (fun b e σ' => match b with | .inl t => e = .exit 0 ∧ Sub ⟨[], []⟩ σ' | .inr t => e = .ret ∧ retT tab σ' [.tmp 4] = some (((fun r => .t (tB r)) : Bool → T) t)) (.of rfl rfl) ?_ ?_
    · intro i
      refine TieS.seq ?_
      refine TieS.seq ?_
      refine TieS.region ?_
      refine TieO.run 5 rfl ?_
      refine TieO.nil ?_
      refine TieS.cond rfl ?_ ?_
      · refine TieS.skip ?_
        refine TieS.seq ?_
        refine TieS.block ?_
        refine TieS.seq ?_
        refine TieX.pre fun x hx => ?_
        refine TieX.pre fun x2 hx2 => ?_
        refine TieS.draw 11 [.ptr 2 1, .t (tS enc_SChannel a.Channels), .t (tI i), .el (enc_SChannel x), .agg [.t (tB x.Armed), .t (tI x.At), .t (tB x.Next), .t (tB x.Level)], .ptr 3 1, .t (tS enc_SChannel b2.Channels), .t (tI i), .el (enc_SChannel x2), .agg [.t (tB x2.Armed), .t (tI x2.At), .t (tB x2.Next), .t (tB x2.Level)], .t (tB (!((x.Armed == x2.Armed) && ((x.At == x2.At) && ((x.Next == x2.Next) && ((x.Level == x2.Level) && true))))))] [(2, .ptr 2 0), (3, .ptr 3 0), (5, .t (tI i))] [(2, .box [.t (tI a.Now), .t (tS enc_SChannel a.Channels)]), (3, .box [.t (tI b2.Now), .t (tS enc_SChannel b2.Channels)])] mixed (.of rfl rfl) rfl rfl rfl rfl (.cons (.quiet rfl rfl rfl) (.cons (.quiet rfl rfl rfl) (.cons (.quiet rfl rfl rfl) (.cons (.index hx rfl rfl rfl rfl rfl rfl (fun _ => rfl)) (.cons (.quiet rfl rfl rfl) (.cons (.quiet rfl rfl rfl) (.cons (.quiet rfl rfl rfl) (.cons (.quiet rfl rfl rfl) (.cons (.index hx2 rfl rfl rfl rfl rfl rfl (fun _ => rfl)) (.cons (.quiet rfl rfl rfl) (.cons (.neS [.bool x.Armed, .int .i64 x.At, .bool x.Next, .bool x.Level] [.bool x2.Armed, .int .i64 x2.At, .bool x2.Next, .bool x2.Level] (eqv_33 x.Armed x.At x.Next x.Level x2.Armed x2.At x2.Next x2.Level) rfl rfl rfl rfl) (.nil)))))))))))) ?_
        refine TieO.nil ?_
        refine TieS.cond rfl ?_ ?_
        · refine TieS.seq ?_
          refine TieS.region ?_
          refine TieO.run 1 rfl ?_
          refine TieO.nil ?_
          exact TieS.ret ⟨(fun h => by cases h), rfl, rfl⟩
        · refine TieS.skip ?_
          refine TieS.endb ?_
          refine TieS.region ?_
          refine TieO.run 3 rfl ?_
          refine TieO.nil ?_
          exact TieS.leaf ⟨rfl, .of rfl rfl⟩
      · exact TieS.exitOut rfl ⟨(fun h => by cases h), rfl, .of rfl rfl⟩
    rintro (i2 | r2) e σ' _ hq
    · obtain ⟨rfl, hs⟩ := hq
      refine TieX.exit rfl (TieX.sub hs ?_)
      refine TieS.seq ?_
      refine TieS.region ?_
      refine TieO.run 1 rfl ?_
      refine TieO.nil ?_
      exact TieS.ret ⟨.inl rfl, rfl⟩
    · obtain ⟨rfl, hs⟩ := hq
      exact TieX.ret ⟨.inl rfl, hs⟩
-- magneto/timer.Disarm
set_option maxRecDepth 100000 in
theorem tie_timer_Disarm (t2 : STimer) (channel : Int) : TieF Try.prog 17 [A_STimer t2, .t (tI channel)] (timer_Disarm t2 channel) (fun r => .tup [A_STimer r.1, .t (tI r.2)]) := by
  refine TieF.intro htab 30 [.cell 4 24, .tmp 5] Try.call17 Try.func17 rfl rfl rfl (Nat.le_of_ble_eq_true rfl) fun w0 L => ?_
  refine TieS.seq ?_
  refine TieS.region ?_
  refine TieO.run 3 rfl ?_
  refine TieO.nil ?_
  refine TieS.seq ?_
  refine TieS.region ?_
  refine TieO.run 2 rfl ?_
  refine TieO.callG [] [(900000, 2088)] (fun r2 => ⟨[(0, .agg [.t (tI t2.Now), .t (tS enc_SChannel t2.Channels)]), (1, .t (tI channel)), (2, .ptr 2 0), (4, .ptr 4 0), (5, .t (tI 0)), (9, .agg [.t (tI t2.Now), .t (tS enc_SChannel t2.Channels)]), (10, .t (tI channel)), (11, .tup [.agg [.t (tI r2.1.Now), .own 2088], .t (tI r2.2)])], [(2, .box [.t (tI t2.Now), .t (tS enc_SChannel t2.Channels)]), (4, .box [.t (tI 0), .t (.v (.slice none 0 0))]), (2088, .rows 33 4 r2.1.Channels.length (r2.1.Channels.map enc_SChannel))]⟩) (tie_timer_begin t2 channel) rfl rfl rfl rfl rfl rfl rfl (fun _ => rfl) (fun _ => rfl) (fun _ => rfl) (fun _ => .of rfl rfl) fun r2 hr2 => ?_
  refine TieO.run 6 rfl ?_
  refine TieO.nil ?_
  refine TieS.seq ?_
  refine TieS.seq ?_
  refine TieS.region ?_
  refine TieO.run 2 rfl ?_
  refine TieO.nil ?_
  refine TieS.cond rfl ?_ ?_
  · refine TieS.seq ?_
    refine TieS.region ?_
    refine TieO.run 4 rfl ?_
    refine TieO.nil ?_
    exact TieS.ret ⟨.inl rfl, rfl⟩
  · refine TieS.skip ?_
    refine TieS.seq ?_
    refine TieX.pre fun x hx => ?_
    refine TieX.pre fun x2 hx2 => ?_
    refine TieS.draw 11 [.ptr 6 1, .own 2088, .t (tI channel), .ptr 2 1, .t (tS enc_SChannel t2.Channels), .t (tI channel), .el (enc_SChannel x), .el (List.drop 3 (enc_SChannel x)), .t (tB x.Level), .agg [.t (tB false), .t (tI 0), .t (tB false), .t (tB x.Level)], .pe 2088 (Int.toNat channel) 4 0] [(1, .t (tI channel)), (2, .ptr 2 0), (4, .ptr 4 0), (6, .ptr 6 0)] [(2, .box [.t (tI t2.Now), .t (tS enc_SChannel t2.Channels)]), (4, .box [.t (tI 0), .t (.v (.slice none 0 0))]), (6, .box [.t (tI r2.1.Now), .own 2088]), (2088, .rows 33 4 r2.1.Channels.length (r2.1.Channels.map enc_SChannel))] mixed (.of rfl rfl) rfl rfl rfl rfl (.cons (.quiet rfl rfl rfl) (.cons (.quiet rfl rfl rfl) (.cons (.quiet rfl rfl rfl) (.cons (.quiet rfl rfl rfl) (.cons (.quiet rfl rfl rfl) (.cons (.quiet rfl rfl rfl) (.cons (.index hx rfl rfl rfl rfl rfl rfl (fun _ => rfl)) (.cons (.quiet rfl rfl rfl) (.cons (.quiet rfl rfl rfl) (.cons (.quiet rfl rfl rfl) (.cons (.indexO (sz := 4) hx2 rfl rfl rfl rfl rfl rfl rfl rfl) (.nil)))))))))))) ?_
    refine TieO.storeY (⟨false, 0, false, x.Level⟩ : SChannel) [tB false, tI 0, tB false, tB x.Level] hx2 rfl rfl rfl rfl rfl rfl rfl rfl rfl rfl rfl rfl fun l hl => ?_
    refine TieO.nil ?_
    refine TieS.seq ?_
    refine TieS.region ?_
    refine TieO.run 3 rfl ?_
    refine TieO.nil ?_
    exact TieS.ret ⟨.inl rfl, rfl⟩
-- magneto/magnetoref24.Valid
set_option maxRecDepth 100000 in
theorem tie_magnetoref24_Valid (t2 : STimer) : TieF Try.prog 18 [A_STimer t2] (magnetoref24_Valid t2) (fun r => .t (tB r)) := by
  refine TieF.intro htab 65 [.tmp 2] Try.call18 Try.func18 rfl rfl rfl (Nat.le_of_ble_eq_true rfl) fun w0 L => ?_
  refine TieS.seq ?_
  refine TieS.region ?_
  refine TieO.run 2 rfl ?_
  refine TieO.nil ?_
  refine TieS.seq ?_
  refine TieS.seq ?_
  refine TieS.region ?_
  refine TieO.run 4 rfl ?_
  refine TieO.selOr (v := decide (t2.Now > 1099511627776)) 4 8 (fun b => ⟨[(1, .ptr 1 0), (12, .t (tB b))], [(1, .box [.t (tI t2.Now), .t (tS enc_SChannel t2.Channels)])]⟩) rfl ?_ ?_ ?_
  · refine TieO.run 4 rfl ?_
    refine TieO.nil ?_
    exact TieS.leaf ⟨rfl, .of rfl rfl⟩
  · refine TieO.run 4 rfl ?_
    refine TieO.nil ?_
    exact TieS.leaf ⟨rfl, .of rfl rfl⟩
  refine TieO.run 1 rfl ?_
  refine TieO.selOr (v := decide ((t2.Channels.length : Int) < 1)) 5 13 (fun b => ⟨[(1, .ptr 1 0), (18, .t (tB b))], [(1, .box [.t (tI t2.Now), .t (tS enc_SChannel t2.Channels)])]⟩) rfl ?_ ?_ ?_
  · refine TieO.run 5 rfl ?_
    refine TieO.nil ?_
    exact TieS.leaf ⟨rfl, .of rfl rfl⟩
  · refine TieO.run 5 rfl ?_
    refine TieO.nil ?_
    exact TieS.leaf ⟨rfl, .of rfl rfl⟩
  refine TieO.run 1 rfl ?_
  refine TieO.selOr (v := decide ((t2.Channels.length : Int) > 16)) 5 19 (fun b => ⟨[(1, .ptr 1 0), (24, .t (tB b))], [(1, .box [.t (tI t2.Now), .t (tS enc_SChannel t2.Channels)])]⟩) rfl ?_ ?_ ?_
  · refine TieO.run 5 rfl ?_
    refine TieO.nil ?_
    exact TieS.leaf ⟨rfl, .of rfl rfl⟩
  · refine TieO.run 5 rfl ?_
    refine TieO.nil ?_
    exact TieS.leaf ⟨rfl, .of rfl rfl⟩
  refine TieO.nil ?_
  refine TieS.cond rfl ?_ ?_
  · refine TieS.seq ?_
    refine TieS.region ?_
    refine TieO.run 1 rfl ?_
    refine TieO.nil ?_
    exact TieS.ret ⟨.inl rfl, rfl⟩
  · refine TieS.skip ?_
    refine TieS.seq ?_
    refine TieS.seq ?_
    refine TieS.region ?_
    refine TieO.run 1 rfl ?_
    refine TieO.nil ?_
    refine TieS.block ?_
    refine TieS.loop (fun t => ⟨[(1, .ptr 1 0), (3, .t (tI t))], [(1, .box [.t (tI t2.Now), .t (tS enc_SChannel t2.Channels)])]⟩) (fun b e σ' => match b with | .inl t => e = .exit 0 ∧ Sub ⟨[], []⟩ σ' | .inr t => e = .ret ∧ retT tab σ' [.tmp 2] = some (((fun r => .t (tB r)) : Bool → T) t)) (.of rfl rfl) ?_ ?_
    · intro i
      refine TieS.seq ?_
      refine TieS.seq ?_
      refine TieS.region ?_
      refine TieO.run 5 rfl ?_
      refine TieO.nil ?_
      refine TieS.cond rfl ?_ ?_
      · refine TieS.skip ?_
        refine TieS.seq ?_
        refine TieS.block ?_
        refine TieS.seq ?_
        refine TieS.region ?_
        refine TieO.run 3 rfl ?_
        refine TieO.index rfl rfl rfl rfl rfl rfl rfl rfl (fun _ => rfl) fun x hx => ?_
        refine TieO.run 3 rfl ?_
        refine TieO.nil ?_
        refine TieS.seq ?_
        refine TieS.region ?_
        refine TieO.run 3 rfl ?_
        refine TieO.bind 11 (fun b2 => ⟨[(1, .ptr 1 0), (3, .t (tI i)), (4, .ptr 4 0), (50, .t (tB b2))], [(1, .box [.t (tI t2.Now), .t (tS enc_SChannel t2.Channels)]), (4, .box [.t (tB x.Armed), .t (tI x.At), .t (tB x.Next), .t (tB x.Level)])]⟩) (TieO.split 39 rfl ?_ ?_) fun b2 _ => ?_
        · refine TieO.run 6 rfl ?_
          refine TieO.selOr (v := decide (x.At > 1099511627776)) 4 45 (fun b => ⟨[(1, .ptr 1 0), (3, .t (tI i)), (4, .ptr 4 0), (39, .t (tB true)), (49, .t (tB b))], [(1, .box [.t (tI t2.Now), .t (tS enc_SChannel t2.Channels)]), (4, .box [.t (tB x.Armed), .t (tI x.At), .t (tB x.Next), .t (tB x.Level)])]⟩) rfl ?_ ?_ ?_
          · refine TieO.run 4 rfl ?_
            refine TieO.nil ?_
            exact TieS.leaf ⟨rfl, .of rfl rfl⟩
          · refine TieO.run 4 rfl ?_
            refine TieO.nil ?_
            exact TieS.leaf ⟨rfl, .of rfl rfl⟩
          refine TieO.run 1 rfl ?_
          refine TieO.nil ?_
          exact TieS.leaf ⟨rfl, .of rfl rfl⟩
        · refine TieO.run 11 rfl ?_
          refine TieO.nil ?_
          exact TieS.leaf ⟨rfl, .of rfl rfl⟩
        refine TieO.run 1 rfl ?_
        refine TieO.bind 13 (fun b4 => ⟨[(1, .ptr 1 0), (3, .t (tI i)), (64, .t (tB b4))], [(1, .box [.t (tI t2.Now), .t (tS enc_SChannel t2.Channels)])]⟩) (TieO.split 51 rfl ?_ ?_) fun b4 _ => ?_
        · refine TieO.run 13 rfl ?_
          refine TieO.nil ?_
          exact TieS.leaf ⟨rfl, .of rfl rfl⟩
        · refine TieO.run 4 rfl ?_
          refine TieO.bind 8 (fun b3 => ⟨[(1, .ptr 1 0), (3, .t (tI i)), (51, .t (tB false)), (63, .t (tB b3))], [(1, .box [.t (tI t2.Now), .t (tS enc_SChannel t2.Channels)])]⟩) (TieO.split 55 rfl ?_ ?_) fun b3 _ => ?_
          · refine TieO.run 4 rfl ?_
            refine TieO.selOr (v := x.Next) 3 59 (fun b => ⟨[(1, .ptr 1 0), (3, .t (tI i)), (51, .t (tB false)), (55, .t (tB true)), (62, .t (tB b))], [(1, .box [.t (tI t2.Now), .t (tS enc_SChannel t2.Channels)])]⟩) rfl ?_ ?_ ?_
            · refine TieO.run 3 rfl ?_
              refine TieO.nil ?_
              exact TieS.leaf ⟨rfl, .of rfl rfl⟩
            · refine TieO.run 3 rfl ?_
              refine TieO.nil ?_
              exact TieS.leaf ⟨rfl, .of rfl rfl⟩
            refine TieO.run 1 rfl ?_
            refine TieO.nil ?_
            exact TieS.leaf ⟨rfl, .of rfl rfl⟩
          · refine TieO.run 8 rfl ?_
            refine TieO.nil ?_
            exact TieS.leaf ⟨rfl, .of rfl rfl⟩
          refine TieO.run 1 rfl ?_
          refine TieO.nil ?_
          exact TieS.leaf ⟨rfl, .of rfl rfl⟩
        refine TieO.nil ?_
        refine TieS.cond rfl ?_ ?_
        · refine TieS.seq ?_
          refine TieS.region ?_
          refine TieO.run 1 rfl ?_
          refine TieO.nil ?_
          exact TieS.ret ⟨(fun h => by cases h), rfl, rfl⟩
        · refine TieS.skip ?_
          refine TieS.endb ?_
          refine TieS.region ?_
          refine TieO.run 3 rfl ?_
          refine TieO.nil ?_
          exact TieS.leaf ⟨rfl, .of rfl rfl⟩
      · exact TieS.exitOut rfl ⟨(fun h => by cases h), rfl, .of rfl rfl⟩
    rintro (i2 | r2) e σ' _ hq
    · obtain ⟨rfl, hs⟩ := hq
      refine TieX.exit rfl (TieX.sub hs ?_)
      refine TieS.seq ?_
      refine TieS.region ?_
      refine TieO.run 1 rfl ?_
      refine TieO.nil ?_
      exact TieS.ret ⟨.inl rfl, rfl⟩
    · obtain ⟨rfl, hs⟩ := hq
      exact TieX.ret ⟨.inl rfl, hs⟩
-- magneto/magnetolaw24.first
set_option maxRecDepth 100000 in
theorem tie_magnetolaw24_first (t2 : STimer) (channel : Int) : TieF Try.prog 19 [A_STimer t2, .t (tI channel)] (magnetolaw24_first t2 channel) (fun r => .t (tI r)) := by
  refine TieF.intro htab 19 [.tmp 4] Try.call19 Try.func19 rfl rfl rfl (Nat.le_of_ble_eq_true rfl) fun w0 L => ?_
  refine TieS.seq ?_
  refine TieS.region ?_
  refine TieO.run 2 rfl ?_
  refine TieO.nil ?_
  refine TieS.seq ?_
  refine TieS.block ?_
  refine TieS.seq ?_
  refine TieS.region ?_
  refine TieO.run 1 rfl ?_
  refine TieO.call _ rfl rfl rfl (tie_magnetoref24_Valid t2) (fun _ => rfl) fun v => ?_
  refine TieO.run 2 rfl ?_
  refine TieO.nil ?_
  refine TieS.cond rfl ?_ ?_
  · refine TieS.seq ?_
    refine TieS.region ?_
    refine TieO.run 1 rfl ?_
    refine TieO.nil ?_
    exact TieS.ret ⟨.inl rfl, rfl⟩
  · refine TieS.seq ?_
    refine TieS.region ?_
    refine TieO.run 3 rfl ?_
    refine TieO.selOr (v := decide (channel ≥ (t2.Channels.length : Int))) 6 12 (fun b => ⟨[(18, .t (tB b))], []⟩) rfl ?_ ?_ ?_
    · refine TieO.run 6 rfl ?_
      refine TieO.nil ?_
      exact TieS.leaf ⟨rfl, .of rfl rfl⟩
    · refine TieO.run 6 rfl ?_
      refine TieO.nil ?_
      exact TieS.leaf ⟨rfl, .of rfl rfl⟩
    refine TieO.run 1 rfl ?_
    refine TieO.nil ?_
    refine TieS.cond rfl ?_ ?_
    · refine TieS.seq ?_
      refine TieS.region ?_
      refine TieO.run 1 rfl ?_
      refine TieO.nil ?_
      exact TieS.ret ⟨.inl rfl, rfl⟩
    · refine TieS.skip ?_
      refine TieS.endb ?_
      refine TieS.seq ?_
      refine TieS.region ?_
      refine TieO.run 1 rfl ?_
      refine TieO.nil ?_
      exact TieS.ret ⟨.inl rfl, rfl⟩
-- magneto/magnetoref24.Copy
set_option maxRecDepth 100000 in
theorem tie_magnetoref24_Copy (t2 : STimer) : TieG Try.prog 20 [A_STimer t2] [] (magnetoref24_Copy t2) (fun r => .agg [.t (tI r.Now), .own 900000]) (fun r => [(900000, .rows 33 4 r.Channels.length (r.Channels.map enc_SChannel))]) := by
  refine TieG.intro htab 10 [.cell 2 24] Try.call20 Try.func20 rfl rfl rfl (Nat.le_of_ble_eq_true rfl) fun w0 L => ?_
  refine TieS.seq ?_
  refine TieS.region ?_
  refine TieO.run 2 rfl ?_
  refine TieO.nil ?_
  refine TieS.seq ?_
  refine TieS.bind (Q₁ := fun t e σ' => e = .normal ∧ Sub ⟨[(2, .ptr 2 0)], [(2, .box [.t (tI t.Now), .own 5]), (5, .rows 33 4 t.Channels.length (t.Channels.map enc_SChannel))]⟩ σ') ?_ ?_
  · refine TieX.pre fun l hl => ?_
    refine TieS.draws 6 [false, false, false, false, false, false, false, false] [true, true, true, true, true, true, false, false] ⟨[(1, .ptr 1 0), (2, .ptr 2 0), (3, .ptr 1 0), (4, .t (tI t2.Now)), (6, .ptr 1 1), (7, .t (tS enc_SChannel t2.Channels)), (8, .own 5)], [(1, .box [.t (tI t2.Now), .t (tS enc_SChannel t2.Channels)]), (2, .box [.t (tI 0), .t (.v (.slice none 0 0))]), (5, .rows 33 4 l.length (l.map enc_SChannel))]⟩ mixed (fun _ _ _ h => by cases h.1) rfl rfl rfl rfl ?_ ?_
    · refine TieA.have_ (fuel₁ := 2) (l₁ := [true, true, true, true, true, true, false, false]) (σ₁ := ⟨[(1, .ptr 1 0), (2, .ptr 2 0), (3, .ptr 1 0), (4, .t (tI t2.Now)), (6, .ptr 1 1), (7, .t (tS enc_SChannel t2.Channels)), (8, .own 5)], [(1, .box [.t (tI t2.Now), .t (tS enc_SChannel t2.Channels)]), (2, .box [.t (tI 0), .t (.v (.slice none 0 0))]), (5, .rows 33 4 l.length (l.map enc_SChannel))]⟩) ?_ fun A_4 => ?_
      · exact TieA.done (.of rfl rfl)
      refine TieA.have_ (fuel₁ := 3) (l₁ := [true, true, true, true, true, false, false, false]) (σ₁ := ⟨[(1, .ptr 1 0), (2, .ptr 2 0), (3, .ptr 1 0), (4, .t (tI t2.Now)), (5, .own 5), (6, .ptr 1 1), (7, .t (tS enc_SChannel t2.Channels))], [(1, .box [.t (tI t2.Now), .t (tS enc_SChannel t2.Channels)]), (2, .box [.t (tI 0), .t (.v (.slice none 0 0))]), (5, .rows 33 4 ([] : List SChannel).length (([] : List SChannel).map enc_SChannel))]⟩) ?_ fun A_3 => ?_
      · refine TieA.all [5] (by kernel_rfl) rfl ?_
        refine AllA.cons (σ₁ := ⟨[(1, .ptr 1 0), (2, .ptr 2 0), (3, .ptr 1 0), (4, .t (tI t2.Now)), (6, .ptr 1 1), (7, .t (tS enc_SChannel t2.Channels)), (8, .own 5)], [(1, .box [.t (tI t2.Now), .t (tS enc_SChannel t2.Channels)]), (2, .box [.t (tI 0), .t (.v (.slice none 0 0))]), (5, .rows 33 4 l.length (l.map enc_SChannel))]⟩) [true, true, true, true, true, true, false, false] rfl rfl ?_ A_4 ?_
        · refine TieO.withH hl (TieO.appendY (id := 5) (e' := 0) (l := ([] : List SChannel)) (r := t2.Channels) (tm' := [(1, .ptr 1 0), (2, .ptr 2 0), (3, .ptr 1 0), (4, .t (tI t2.Now)), (6, .ptr 1 1), (7, .t (tS enc_SChannel t2.Channels))]) (hp' := [(1, .box [.t (tI t2.Now), .t (tS enc_SChannel t2.Channels)]), (2, .box [.t (tI 0), .t (.v (.slice none 0 0))])]) rfl rfl rfl rfl rfl rfl rfl (fun _ => rfl) (fun _ => rfl) (.inl ⟨rfl, rfl⟩) (.inl rfl) (.of rfl rfl) rfl rfl rfl (TieO.ifH ?_))
          exact TieO.nil (TieS.leaf ⟨rfl, .of rfl rfl⟩)
        exact AllA.nil
      refine TieA.have_ (fuel₁ := 4) (l₁ := [true, true, true, true, false, false, false, false]) (σ₁ := ⟨[(1, .ptr 1 0), (2, .ptr 2 0), (3, .ptr 1 0), (4, .t (tI t2.Now)), (5, .own 5), (6, .ptr 1 1)], [(1, .box [.t (tI t2.Now), .t (tS enc_SChannel t2.Channels)]), (2, .box [.t (tI 0), .t (.v (.slice none 0 0))]), (5, .rows 33 4 ([] : List SChannel).length (([] : List SChannel).map enc_SChannel))]⟩) ?_ fun A_2 => ?_
      · refine TieA.all [4] (by kernel_rfl) rfl ?_
        refine AllA.cons (σ₁ := ⟨[(1, .ptr 1 0), (2, .ptr 2 0), (3, .ptr 1 0), (4, .t (tI t2.Now)), (5, .own 5), (6, .ptr 1 1), (7, .t (tS enc_SChannel t2.Channels))], [(1, .box [.t (tI t2.Now), .t (tS enc_SChannel t2.Channels)]), (2, .box [.t (tI 0), .t (.v (.slice none 0 0))]), (5, .rows 33 4 ([] : List SChannel).length (([] : List SChannel).map enc_SChannel))]⟩) [true, true, true, true, true, false, false, false] rfl rfl ?_ A_3 ?_
        · refine TieO.run 1 rfl ?_
          exact TieO.nil (TieS.leaf ⟨rfl, .of rfl rfl⟩)
        exact AllA.nil
      refine TieA.have_ (fuel₁ := 4) (l₁ := [true, true, false, true, true, false, false, false]) (σ₁ := ⟨[(1, .ptr 1 0), (2, .ptr 2 0), (3, .ptr 1 0), (4, .t (tI t2.Now)), (6, .ptr 1 1), (7, .t (tS enc_SChannel t2.Channels))], [(1, .box [.t (tI t2.Now), .t (tS enc_SChannel t2.Channels)]), (2, .box [.t (tI 0), .t (.v (.slice none 0 0))])]⟩) ?_ fun A_5 => ?_
      · refine TieA.all [2] (by kernel_rfl) rfl ?_
        refine AllA.cons (σ₁ := ⟨[(1, .ptr 1 0), (2, .ptr 2 0), (3, .ptr 1 0), (4, .t (tI t2.Now)), (5, .own 5), (6, .ptr 1 1), (7, .t (tS enc_SChannel t2.Channels))], [(1, .box [.t (tI t2.Now), .t (tS enc_SChannel t2.Channels)]), (2, .box [.t (tI 0), .t (.v (.slice none 0 0))]), (5, .rows 33 4 ([] : List SChannel).length (([] : List SChannel).map enc_SChannel))]⟩) [true, true, true, true, true, false, false, false] rfl rfl ?_ A_3 ?_
        · refine TieO.run 1 rfl ?_
          exact TieO.nil (TieS.leaf ⟨rfl, .of rfl rfl⟩)
        exact AllA.nil
      refine TieA.have_ (fuel₁ := 5) (l₁ := [true, true, false, true, false, false, false, false]) (σ₁ := ⟨[(1, .ptr 1 0), (2, .ptr 2 0), (3, .ptr 1 0), (4, .t (tI t2.Now)), (6, .ptr 1 1)], [(1, .box [.t (tI t2.Now), .t (tS enc_SChannel t2.Channels)]), (2, .box [.t (tI 0), .t (.v (.slice none 0 0))])]⟩) ?_ fun A_1 => ?_
      · refine TieA.all [2, 4] (by kernel_rfl) rfl ?_
        refine AllA.cons (σ₁ := ⟨[(1, .ptr 1 0), (2, .ptr 2 0), (3, .ptr 1 0), (4, .t (tI t2.Now)), (5, .own 5), (6, .ptr 1 1)], [(1, .box [.t (tI t2.Now), .t (tS enc_SChannel t2.Channels)]), (2, .box [.t (tI 0), .t (.v (.slice none 0 0))]), (5, .rows 33 4 ([] : List SChannel).length (([] : List SChannel).map enc_SChannel))]⟩) [true, true, true, true, false, false, false, false] rfl rfl ?_ A_2 ?_
        · refine TieO.run 1 rfl ?_
          exact TieO.nil (TieS.leaf ⟨rfl, .of rfl rfl⟩)
        refine AllA.cons (σ₁ := ⟨[(1, .ptr 1 0), (2, .ptr 2 0), (3, .ptr 1 0), (4, .t (tI t2.Now)), (6, .ptr 1 1), (7, .t (tS enc_SChannel t2.Channels))], [(1, .box [.t (tI t2.Now), .t (tS enc_SChannel t2.Channels)]), (2, .box [.t (tI 0), .t (.v (.slice none 0 0))])]⟩) [true, true, false, true, true, false, false, false] rfl rfl ?_ A_5 ?_
        · refine TieO.run 1 rfl ?_
          exact TieO.nil (TieS.leaf ⟨rfl, .of rfl rfl⟩)
        exact AllA.nil
      refine TieA.have_ (fuel₁ := 3) (l₁ := [true, false, true, true, true, true, false, false]) (σ₁ := ⟨[(1, .ptr 1 0), (2, .ptr 2 0), (3, .ptr 1 0), (6, .ptr 1 1), (7, .t (tS enc_SChannel t2.Channels)), (8, .own 5)], [(1, .box [.t (tI t2.Now), .t (tS enc_SChannel t2.Channels)]), (2, .box [.t (tI 0), .t (.v (.slice none 0 0))]), (5, .rows 33 4 l.length (l.map enc_SChannel))]⟩) ?_ fun A_8 => ?_
      · refine TieA.all [1] (by kernel_rfl) rfl ?_
        refine AllA.cons (σ₁ := ⟨[(1, .ptr 1 0), (2, .ptr 2 0), (3, .ptr 1 0), (4, .t (tI t2.Now)), (6, .ptr 1 1), (7, .t (tS enc_SChannel t2.Channels)), (8, .own 5)], [(1, .box [.t (tI t2.Now), .t (tS enc_SChannel t2.Channels)]), (2, .box [.t (tI 0), .t (.v (.slice none 0 0))]), (5, .rows 33 4 l.length (l.map enc_SChannel))]⟩) [true, true, true, true, true, true, false, false] rfl rfl ?_ A_4 ?_
        · refine TieO.run 1 rfl ?_
          exact TieO.nil (TieS.leaf ⟨rfl, .of rfl rfl⟩)
        exact AllA.nil
      refine TieA.have_ (fuel₁ := 4) (l₁ := [true, false, true, true, true, false, false, false]) (σ₁ := ⟨[(1, .ptr 1 0), (2, .ptr 2 0), (3, .ptr 1 0), (5, .own 5), (6, .ptr 1 1), (7, .t (tS enc_SChannel t2.Channels))], [(1, .box [.t (tI t2.Now), .t (tS enc_SChannel t2.Channels)]), (2, .box [.t (tI 0), .t (.v (.slice none 0 0))]), (5, .rows 33 4 ([] : List SChannel).length (([] : List SChannel).map enc_SChannel))]⟩) ?_ fun A_7 => ?_
      · refine TieA.all [1, 5] (by kernel_rfl) rfl ?_
        refine AllA.cons (σ₁ := ⟨[(1, .ptr 1 0), (2, .ptr 2 0), (3, .ptr 1 0), (4, .t (tI t2.Now)), (5, .own 5), (6, .ptr 1 1), (7, .t (tS enc_SChannel t2.Channels))], [(1, .box [.t (tI t2.Now), .t (tS enc_SChannel t2.Channels)]), (2, .box [.t (tI 0), .t (.v (.slice none 0 0))]), (5, .rows 33 4 ([] : List SChannel).length (([] : List SChannel).map enc_SChannel))]⟩) [true, true, true, true, true, false, false, false] rfl rfl ?_ A_3 ?_
        · refine TieO.run 1 rfl ?_
          exact TieO.nil (TieS.leaf ⟨rfl, .of rfl rfl⟩)
        refine AllA.cons (σ₁ := ⟨[(1, .ptr 1 0), (2, .ptr 2 0), (3, .ptr 1 0), (6, .ptr 1 1), (7, .t (tS enc_SChannel t2.Channels)), (8, .own 5)], [(1, .box [.t (tI t2.Now), .t (tS enc_SChannel t2.Channels)]), (2, .box [.t (tI 0), .t (.v (.slice none 0 0))]), (5, .rows 33 4 l.length (l.map enc_SChannel))]⟩) [true, false, true, true, true, true, false, false] rfl rfl ?_ A_8 ?_
        · refine TieO.withH hl (TieO.appendY (id := 5) (e' := 0) (l := ([] : List SChannel)) (r := t2.Channels) (tm' := [(1, .ptr 1 0), (2, .ptr 2 0), (3, .ptr 1 0), (6, .ptr 1 1), (7, .t (tS enc_SChannel t2.Channels))]) (hp' := [(1, .box [.t (tI t2.Now), .t (tS enc_SChannel t2.Channels)]), (2, .box [.t (tI 0), .t (.v (.slice none 0 0))])]) rfl rfl rfl rfl rfl rfl rfl (fun _ => rfl) (fun _ => rfl) (.inl ⟨rfl, rfl⟩) (.inl rfl) (.of rfl rfl) rfl rfl rfl (TieO.ifH ?_))
          exact TieO.nil (TieS.leaf ⟨rfl, .of rfl rfl⟩)
        exact AllA.nil
      refine TieA.have_ (fuel₁ := 5) (l₁ := [true, false, true, true, false, false, false, false]) (σ₁ := ⟨[(1, .ptr 1 0), (2, .ptr 2 0), (3, .ptr 1 0), (5, .own 5), (6, .ptr 1 1)], [(1, .box [.t (tI t2.Now), .t (tS enc_SChannel t2.Channels)]), (2, .box [.t (tI 0), .t (.v (.slice none 0 0))]), (5, .rows 33 4 ([] : List SChannel).length (([] : List SChannel).map enc_SChannel))]⟩) ?_ fun A_6 => ?_
      · refine TieA.all [1, 4] (by kernel_rfl) rfl ?_
        refine AllA.cons (σ₁ := ⟨[(1, .ptr 1 0), (2, .ptr 2 0), (3, .ptr 1 0), (4, .t (tI t2.Now)), (5, .own 5), (6, .ptr 1 1)], [(1, .box [.t (tI t2.Now), .t (tS enc_SChannel t2.Channels)]), (2, .box [.t (tI 0), .t (.v (.slice none 0 0))]), (5, .rows 33 4 ([] : List SChannel).length (([] : List SChannel).map enc_SChannel))]⟩) [true, true, true, true, false, false, false, false] rfl rfl ?_ A_2 ?_
        · refine TieO.run 1 rfl ?_
          exact TieO.nil (TieS.leaf ⟨rfl, .of rfl rfl⟩)
        refine AllA.cons (σ₁ := ⟨[(1, .ptr 1 0), (2, .ptr 2 0), (3, .ptr 1 0), (5, .own 5), (6, .ptr 1 1), (7, .t (tS enc_SChannel t2.Channels))], [(1, .box [.t (tI t2.Now), .t (tS enc_SChannel t2.Channels)]), (2, .box [.t (tI 0), .t (.v (.slice none 0 0))]), (5, .rows 33 4 ([] : List SChannel).length (([] : List SChannel).map enc_SChannel))]⟩) [true, false, true, true, true, false, false, false] rfl rfl ?_ A_7 ?_
        · refine TieO.run 1 rfl ?_
          exact TieO.nil (TieS.leaf ⟨rfl, .of rfl rfl⟩)
        exact AllA.nil
      refine TieA.have_ (fuel₁ := 5) (l₁ := [true, false, false, true, true, false, false, false]) (σ₁ := ⟨[(1, .ptr 1 0), (2, .ptr 2 0), (3, .ptr 1 0), (6, .ptr 1 1), (7, .t (tS enc_SChannel t2.Channels))], [(1, .box [.t (tI t2.Now), .t (tS enc_SChannel t2.Channels)]), (2, .box [.t (tI 0), .t (.v (.slice none 0 0))])]⟩) ?_ fun A_9 => ?_
      · refine TieA.all [1, 2] (by kernel_rfl) rfl ?_
        refine AllA.cons (σ₁ := ⟨[(1, .ptr 1 0), (2, .ptr 2 0), (3, .ptr 1 0), (4, .t (tI t2.Now)), (6, .ptr 1 1), (7, .t (tS enc_SChannel t2.Channels))], [(1, .box [.t (tI t2.Now), .t (tS enc_SChannel t2.Channels)]), (2, .box [.t (tI 0), .t (.v (.slice none 0 0))])]⟩) [true, true, false, true, true, false, false, false] rfl rfl ?_ A_5 ?_
        · refine TieO.run 1 rfl ?_
          exact TieO.nil (TieS.leaf ⟨rfl, .of rfl rfl⟩)
        refine AllA.cons (σ₁ := ⟨[(1, .ptr 1 0), (2, .ptr 2 0), (3, .ptr 1 0), (5, .own 5), (6, .ptr 1 1), (7, .t (tS enc_SChannel t2.Channels))], [(1, .box [.t (tI t2.Now), .t (tS enc_SChannel t2.Channels)]), (2, .box [.t (tI 0), .t (.v (.slice none 0 0))]), (5, .rows 33 4 ([] : List SChannel).length (([] : List SChannel).map enc_SChannel))]⟩) [true, false, true, true, true, false, false, false] rfl rfl ?_ A_7 ?_
        · refine TieO.run 1 rfl ?_
          exact TieO.nil (TieS.leaf ⟨rfl, .of rfl rfl⟩)
        exact AllA.nil
      refine TieA.fieldP 0 [true, false, false, false, false, false, false, false] rfl rfl rfl rfl rfl rfl (by kernel_rfl) (by kernel_rfl) (by kernel_rfl) rfl rfl rfl ?_
      refine TieA.fieldP 3 [true, false, false, true, false, false, false, false] rfl rfl rfl rfl rfl rfl (by kernel_rfl) (by kernel_rfl) (by kernel_rfl) rfl rfl rfl ?_
      refine TieA.all [1, 2, 4] (by kernel_rfl) rfl ?_
      refine AllA.cons (σ₁ := ⟨[(1, .ptr 1 0), (2, .ptr 2 0), (3, .ptr 1 0), (4, .t (tI t2.Now)), (6, .ptr 1 1)], [(1, .box [.t (tI t2.Now), .t (tS enc_SChannel t2.Channels)]), (2, .box [.t (tI 0), .t (.v (.slice none 0 0))])]⟩) [true, true, false, true, false, false, false, false] rfl rfl ?_ A_1 ?_
      · refine TieO.run 1 rfl ?_
        exact TieO.nil (TieS.leaf ⟨rfl, .of rfl rfl⟩)
      refine AllA.cons (σ₁ := ⟨[(1, .ptr 1 0), (2, .ptr 2 0), (3, .ptr 1 0), (5, .own 5), (6, .ptr 1 1)], [(1, .box [.t (tI t2.Now), .t (tS enc_SChannel t2.Channels)]), (2, .box [.t (tI 0), .t (.v (.slice none 0 0))]), (5, .rows 33 4 ([] : List SChannel).length (([] : List SChannel).map enc_SChannel))]⟩) [true, false, true, true, false, false, false, false] rfl rfl ?_ A_6 ?_
      · refine TieO.run 1 rfl ?_
        exact TieO.nil (TieS.leaf ⟨rfl, .of rfl rfl⟩)
      refine AllA.cons (σ₁ := ⟨[(1, .ptr 1 0), (2, .ptr 2 0), (3, .ptr 1 0), (6, .ptr 1 1), (7, .t (tS enc_SChannel t2.Channels))], [(1, .box [.t (tI t2.Now), .t (tS enc_SChannel t2.Channels)]), (2, .box [.t (tI 0), .t (.v (.slice none 0 0))])]⟩) [true, false, false, true, true, false, false, false] rfl rfl ?_ A_9 ?_
      · refine TieO.run 1 rfl ?_
        exact TieO.nil (TieS.leaf ⟨rfl, .of rfl rfl⟩)
      exact AllA.nil
    refine TieO.run 2 rfl ?_
    refine TieO.nil ?_
    exact TieS.leaf ⟨rfl, .of rfl rfl⟩
  rintro f2 e σ' _ ⟨rfl, hs⟩
  refine TieX.sub hs ?_
  exact TieS.ret ⟨.inl rfl, ⟨[(5, 900000)], _, _, rfl, rfl, rfl, rfl, rfl⟩⟩
end Go.Proofs.Ytbkjebepjcnklaa

/- Ties, printed by gen.py: each function of the loaded program computes its model. -/
import Derived.Test.YtoiamgpgodcioaaTiesA
import Derived.Test.YtoiamgpgodcioaaPvXj
import Derived.Test.YtoiamgpgodcioaaProg
import Derived.KernelRfl
namespace Go.Proofs.Ytoiamgpgodcioaa
open Go Go.Pv Go.Proofs
-- magneto/magnetolaw36.ArbiterSteps
set_option maxRecDepth 100000 in
theorem tie_magnetolaw36_ArbiterSteps (g : SGrant) (l : List SRequest) (low : Int) (high : Int) (up : Int) (down : Int) : TieF Try.prog 7 [A_SGrant g, .t (tS enc_SRequest l), .t (tI low), .t (tI high), .t (tI up), .t (tI down)] (magnetolaw36_ArbiterSteps g l low high up down) (fun r => .t (tB r)) := by
  refine TieF.intro htab 156 [.tmp 12] Try.call7 Try.func7 rfl rfl rfl (Nat.le_of_ble_eq_true rfl) fun w0 L => ?_
  refine TieS.seq ?_
  refine TieS.region ?_
  refine TieO.run 2 rfl ?_
  refine TieO.nil ?_
  refine TieS.seq ?_
  refine TieS.seq ?_
  refine TieS.region ?_
  refine TieO.call _ rfl rfl rfl (tie_magnetolaw36_awake) (fun _ => rfl) fun v => ?_
  refine TieO.run 2 rfl ?_
  refine TieO.selOr (v := decide ((l.length : Int) > 100)) 4 23 (fun b => ⟨[(1, .t (tS enc_SRequest l)), (2, .t (tI low)), (3, .t (tI high)), (4, .t (tI up)), (5, .t (tI down)), (6, .ptr 6 0), (27, .t (tB b))], [(6, .box [.t (tI g.Torque), .t (tI g.Source)])]⟩) rfl ?_ ?_ ?_
  · refine TieO.run 4 rfl ?_
    refine TieO.nil ?_
    exact TieS.leaf ⟨rfl, .of rfl rfl⟩
  · refine TieO.run 4 rfl ?_
    refine TieO.nil ?_
    exact TieS.leaf ⟨rfl, .of rfl rfl⟩
  refine TieO.nil ?_
  refine TieS.cond rfl ?_ ?_
  · refine TieS.seq ?_
    refine TieS.region ?_
    refine TieO.call _ rfl rfl rfl (tie_magnetolaw36_awake) (fun _ => rfl) fun v2 => ?_
    refine TieO.run 1 rfl ?_
    refine TieO.nil ?_
    exact TieS.ret ⟨.inl rfl, rfl⟩
  · refine TieS.skip ?_
    refine TieS.seq ?_
    refine TieS.region ?_
    refine TieO.run 6 rfl ?_
    refine TieO.call _ rfl rfl rfl (tie_arbiter_Step g l low high up down) (fun _ => rfl) fun r2 => ?_
    refine TieO.run 6 rfl ?_
    refine TieO.nil ?_
    refine TieS.seq ?_
    refine TieS.seq ?_
    refine TieS.region ?_
    refine TieO.run 2 rfl ?_
    refine TieO.call _ rfl rfl rfl (tie_magnetoref36_Torque g.Torque) (fun _ => rfl) fun v3 => ?_
    refine TieO.run 2 rfl ?_
    refine TieO.selOr (v := decide (g.Source < (-1))) 4 43 (fun b => ⟨[(1, .t (tS enc_SRequest l)), (2, .t (tI low)), (3, .t (tI high)), (4, .t (tI up)), (5, .t (tI down)), (6, .ptr 6 0), (13, .ptr 13 0), (14, .t (tI r2.2)), (47, .t (tB b))], [(6, .box [.t (tI g.Torque), .t (tI g.Source)]), (13, .box [.t (tI r2.1.Torque), .t (tI r2.1.Source)])]⟩) rfl ?_ ?_ ?_
    · refine TieO.run 4 rfl ?_
      refine TieO.nil ?_
      exact TieS.leaf ⟨rfl, .of rfl rfl⟩
    · refine TieO.run 4 rfl ?_
      refine TieO.nil ?_
      exact TieS.leaf ⟨rfl, .of rfl rfl⟩
    refine TieO.run 1 rfl ?_
    refine TieO.selOr (v := decide (g.Source > 15)) 4 48 (fun b => ⟨[(1, .t (tS enc_SRequest l)), (2, .t (tI low)), (3, .t (tI high)), (4, .t (tI up)), (5, .t (tI down)), (6, .ptr 6 0), (13, .ptr 13 0), (14, .t (tI r2.2)), (52, .t (tB b))], [(6, .box [.t (tI g.Torque), .t (tI g.Source)]), (13, .box [.t (tI r2.1.Torque), .t (tI r2.1.Source)])]⟩) rfl ?_ ?_ ?_
    · refine TieO.run 4 rfl ?_
      refine TieO.nil ?_
      exact TieS.leaf ⟨rfl, .of rfl rfl⟩
    · refine TieO.run 4 rfl ?_
      refine TieO.nil ?_
      exact TieS.leaf ⟨rfl, .of rfl rfl⟩
    refine TieO.nil ?_
    refine TieS.cond rfl ?_ ?_
    · refine TieS.seq ?_
      refine TieS.region ?_
      refine TieO.run 2 rfl ?_
      refine TieO.eqS [.int .i64 r2.1.Torque, .int .i64 r2.1.Source] [.int .i64 0, .int .i64 0] (eqv_43 r2.1.Torque r2.1.Source 0 0) rfl rfl rfl rfl rfl rfl ?_
      refine TieO.run 1 rfl ?_
      refine TieO.selAnd (v := (r2.2 == 1)) 3 56 (fun b => ⟨[(59, .t (tB b))], []⟩) rfl ?_ ?_ ?_
      · refine TieO.run 3 rfl ?_
        refine TieO.nil ?_
        exact TieS.leaf ⟨rfl, .of rfl rfl⟩
      · refine TieO.run 3 rfl ?_
        refine TieO.nil ?_
        exact TieS.leaf ⟨rfl, .of rfl rfl⟩
      refine TieO.run 1 rfl ?_
      refine TieO.nil ?_
      exact TieS.ret ⟨.inl rfl, rfl⟩
    · refine TieS.skip ?_
      refine TieS.seq ?_
      refine TieS.seq ?_
      refine TieS.region ?_
      refine TieO.run 3 rfl ?_
      refine TieO.call _ rfl rfl rfl (tie_magnetoref36_Check l low high) (fun _ => rfl) fun v4 => ?_
      refine TieO.run 1 rfl ?_
      refine TieO.nil ?_
      refine TieS.seq ?_
      refine TieS.region ?_
      refine TieO.run 2 rfl ?_
      refine TieO.nil ?_
      refine TieS.cond rfl ?_ ?_
      · refine TieS.seq ?_
        refine TieS.region ?_
        refine TieO.run 2 rfl ?_
        refine TieO.eqS [.int .i64 r2.1.Torque, .int .i64 r2.1.Source] [.int .i64 0, .int .i64 0] (eqv_43 r2.1.Torque r2.1.Source 0 0) rfl rfl rfl rfl rfl rfl ?_
        refine TieO.run 1 rfl ?_
        refine TieO.selAnd (v := (r2.2 == v4)) 4 69 (fun b => ⟨[(73, .t (tB b))], []⟩) rfl ?_ ?_ ?_
        · refine TieO.run 4 rfl ?_
          refine TieO.nil ?_
          exact TieS.leaf ⟨rfl, .of rfl rfl⟩
        · refine TieO.run 4 rfl ?_
          refine TieO.nil ?_
          exact TieS.leaf ⟨rfl, .of rfl rfl⟩
        refine TieO.run 1 rfl ?_
        refine TieO.nil ?_
        exact TieS.ret ⟨.inl rfl, rfl⟩
      · refine TieS.skip ?_
        refine TieS.seq ?_
        refine TieS.seq ?_
        refine TieS.region ?_
        refine TieO.run 3 rfl ?_
        refine TieO.selOr (v := decide (up > 20000)) 3 76 (fun b => ⟨[(1, .t (tS enc_SRequest l)), (2, .t (tI low)), (3, .t (tI high)), (4, .t (tI up)), (5, .t (tI down)), (6, .ptr 6 0), (13, .ptr 13 0), (14, .t (tI r2.2)), (79, .t (tB b))], [(6, .box [.t (tI g.Torque), .t (tI g.Source)]), (13, .box [.t (tI r2.1.Torque), .t (tI r2.1.Source)])]⟩) rfl ?_ ?_ ?_
        · refine TieO.run 3 rfl ?_
          refine TieO.nil ?_
          exact TieS.leaf ⟨rfl, .of rfl rfl⟩
        · refine TieO.run 3 rfl ?_
          refine TieO.nil ?_
          exact TieS.leaf ⟨rfl, .of rfl rfl⟩
        refine TieO.run 1 rfl ?_
        refine TieO.selOr (v := decide (down < 0)) 3 80 (fun b => ⟨[(1, .t (tS enc_SRequest l)), (2, .t (tI low)), (3, .t (tI high)), (4, .t (tI up)), (5, .t (tI down)), (6, .ptr 6 0), (13, .ptr 13 0), (14, .t (tI r2.2)), (83, .t (tB b))], [(6, .box [.t (tI g.Torque), .t (tI g.Source)]), (13, .box [.t (tI r2.1.Torque), .t (tI r2.1.Source)])]⟩) rfl ?_ ?_ ?_
        · refine TieO.run 3 rfl ?_
          refine TieO.nil ?_
          exact TieS.leaf ⟨rfl, .of rfl rfl⟩
        · refine TieO.run 3 rfl ?_
          refine TieO.nil ?_
          exact TieS.leaf ⟨rfl, .of rfl rfl⟩
        refine TieO.run 1 rfl ?_
        refine TieO.selOr (v := decide (down > 20000)) 3 84 (fun b => ⟨[(1, .t (tS enc_SRequest l)), (2, .t (tI low)), (3, .t (tI high)), (4, .t (tI up)), (5, .t (tI down)), (6, .ptr 6 0), (13, .ptr 13 0), (14, .t (tI r2.2)), (87, .t (tB b))], [(6, .box [.t (tI g.Torque), .t (tI g.Source)]), (13, .box [.t (tI r2.1.Torque), .t (tI r2.1.Source)])]⟩) rfl ?_ ?_ ?_
        · refine TieO.run 3 rfl ?_
          refine TieO.nil ?_
          exact TieS.leaf ⟨rfl, .of rfl rfl⟩
        · refine TieO.run 3 rfl ?_
          refine TieO.nil ?_
          exact TieS.leaf ⟨rfl, .of rfl rfl⟩
        refine TieO.nil ?_
        refine TieS.cond rfl ?_ ?_
        · refine TieS.seq ?_
          refine TieS.region ?_
          refine TieO.run 2 rfl ?_
          refine TieO.eqS [.int .i64 r2.1.Torque, .int .i64 r2.1.Source] [.int .i64 0, .int .i64 0] (eqv_43 r2.1.Torque r2.1.Source 0 0) rfl rfl rfl rfl rfl rfl ?_
          refine TieO.run 1 rfl ?_
          refine TieO.selAnd (v := (r2.2 == 2)) 3 91 (fun b => ⟨[(94, .t (tB b))], []⟩) rfl ?_ ?_ ?_
          · refine TieO.run 3 rfl ?_
            refine TieO.nil ?_
            exact TieS.leaf ⟨rfl, .of rfl rfl⟩
          · refine TieO.run 3 rfl ?_
            refine TieO.nil ?_
            exact TieS.leaf ⟨rfl, .of rfl rfl⟩
          refine TieO.run 1 rfl ?_
          refine TieO.nil ?_
          exact TieS.ret ⟨.inl rfl, rfl⟩
        · refine TieS.skip ?_
          refine TieS.seq ?_
          refine TieS.region ?_
          refine TieO.run 3 rfl ?_
          refine TieO.call _ rfl rfl rfl (tie_arbiter_Decide l low high) (fun _ => rfl) fun r3 => ?_
          refine TieO.run 6 rfl ?_
          refine TieO.nil ?_
          refine TieS.seq ?_
          refine TieS.region ?_
          refine TieO.run 3 rfl ?_
          refine TieO.call _ rfl rfl rfl (tie_arbiter_Bounds l low high) (fun _ => rfl) fun r4 => ?_
          refine TieO.run 6 rfl ?_
          refine TieO.nil ?_
          refine TieS.seq ?_
          refine TieS.seq ?_
          refine TieS.region ?_
          refine TieO.run 3 rfl ?_
          refine TieO.selOr (v := (r3.2 != 0)) 3 111 (fun b => ⟨[(2, .t (tI low)), (4, .t (tI up)), (5, .t (tI down)), (6, .ptr 6 0), (13, .ptr 13 0), (16, .ptr 16 0), (18, .ptr 18 0), (19, .t (tI r4.2)), (114, .t (tB b))], [(6, .box [.t (tI g.Torque), .t (tI g.Source)]), (13, .box [.t (tI r2.1.Torque), .t (tI r2.1.Source)]), (16, .box [.t (tI r3.1.Torque), .t (tI r3.1.Source)]), (18, .box [.t (tI r4.1.Low), .t (tI r4.1.High)])]⟩) rfl ?_ ?_ ?_
          · refine TieO.run 3 rfl ?_
            refine TieO.nil ?_
            exact TieS.leaf ⟨rfl, .of rfl rfl⟩
          · refine TieO.run 3 rfl ?_
            refine TieO.nil ?_
            exact TieS.leaf ⟨rfl, .of rfl rfl⟩
          refine TieO.run 1 rfl ?_
          refine TieO.selOr (v := (r4.2 != 0)) 3 115 (fun b => ⟨[(2, .t (tI low)), (4, .t (tI up)), (5, .t (tI down)), (6, .ptr 6 0), (13, .ptr 13 0), (16, .ptr 16 0), (18, .ptr 18 0), (118, .t (tB b))], [(6, .box [.t (tI g.Torque), .t (tI g.Source)]), (13, .box [.t (tI r2.1.Torque), .t (tI r2.1.Source)]), (16, .box [.t (tI r3.1.Torque), .t (tI r3.1.Source)]), (18, .box [.t (tI r4.1.Low), .t (tI r4.1.High)])]⟩) rfl ?_ ?_ ?_
          · refine TieO.run 3 rfl ?_
            refine TieO.nil ?_
            exact TieS.leaf ⟨rfl, .of rfl rfl⟩
          · refine TieO.run 3 rfl ?_
            refine TieO.nil ?_
            exact TieS.leaf ⟨rfl, .of rfl rfl⟩
          refine TieO.nil ?_
          refine TieS.cond rfl ?_ ?_
          · refine TieS.seq ?_
            refine TieS.region ?_
            refine TieO.run 1 rfl ?_
            refine TieO.nil ?_
            exact TieS.ret ⟨.inl rfl, rfl⟩
          · refine TieS.skip ?_
            refine TieS.seq ?_
            refine TieS.region ?_
            refine TieO.run 13 rfl ?_
            refine TieO.nil ?_
            refine TieS.seq ?_
            refine TieS.region ?_
            refine TieO.run 7 rfl ?_
            refine TieO.nil ?_
            refine TieS.seq ?_
            refine TieS.region ?_
            refine TieO.run 5 rfl ?_
            refine TieO.eqS [.int .i64 r2.1.Torque, .int .i64 r2.1.Source] [.int .i64 (maxI (minI (minI (maxI r3.1.Torque (w64 (g.Torque - down))) (w64 (g.Torque + up))) r4.1.High) low), .int .i64 r3.1.Source] (eqv_43 r2.1.Torque r2.1.Source (maxI (minI (minI (maxI r3.1.Torque (w64 (g.Torque - down))) (w64 (g.Torque + up))) r4.1.High) low) r3.1.Source) rfl rfl rfl rfl rfl rfl ?_
            refine TieO.run 1 rfl ?_
            refine TieO.selAnd (v := decide (r2.1.Torque ≤ r4.1.High)) 6 143 (fun b => ⟨[(2, .t (tI low)), (13, .ptr 13 0), (149, .t (tB b))], [(13, .box [.t (tI r2.1.Torque), .t (tI r2.1.Source)])]⟩) rfl ?_ ?_ ?_
            · refine TieO.run 6 rfl ?_
              refine TieO.nil ?_
              exact TieS.leaf ⟨rfl, .of rfl rfl⟩
            · refine TieO.run 6 rfl ?_
              refine TieO.nil ?_
              exact TieS.leaf ⟨rfl, .of rfl rfl⟩
            refine TieO.run 1 rfl ?_
            refine TieO.selAnd (v := decide (r2.1.Torque ≥ low)) 5 150 (fun b => ⟨[(155, .t (tB b))], []⟩) rfl ?_ ?_ ?_
            · refine TieO.run 5 rfl ?_
              refine TieO.nil ?_
              exact TieS.leaf ⟨rfl, .of rfl rfl⟩
            · refine TieO.run 5 rfl ?_
              refine TieO.nil ?_
              exact TieS.leaf ⟨rfl, .of rfl rfl⟩
            refine TieO.run 1 rfl ?_
            refine TieO.nil ?_
            exact TieS.ret ⟨.inl rfl, rfl⟩
-- magneto/magnetolaw36.ArbiterObeys
set_option maxRecDepth 100000 in
theorem tie_magnetolaw36_ArbiterObeys (l : List SRequest) (low : Int) (high : Int) : TieF Try.prog 5 [.t (tS enc_SRequest l), .t (tI low), .t (tI high)] (magnetolaw36_ArbiterObeys l low high) (fun r => .t (tB r)) := by
  refine TieF.intro htab 131 [.tmp 6] Try.call5 Try.func5 rfl rfl rfl (Nat.le_of_ble_eq_true rfl) fun w0 L => ?_
  refine TieS.seq ?_
  refine TieS.region ?_
  refine TieO.run 1 rfl ?_
  refine TieO.nil ?_
  refine TieS.seq ?_
  refine TieS.seq ?_
  refine TieS.region ?_
  refine TieO.call _ rfl rfl rfl (tie_magnetolaw36_awake) (fun _ => rfl) fun v => ?_
  refine TieO.run 2 rfl ?_
  refine TieO.selOr (v := decide ((l.length : Int) > 32)) 4 17 (fun b => ⟨[(0, .t (tS enc_SRequest l)), (1, .t (tI low)), (2, .t (tI high)), (21, .t (tB b))], []⟩) rfl ?_ ?_ ?_
  · refine TieO.run 4 rfl ?_
    refine TieO.nil ?_
    exact TieS.leaf ⟨rfl, .of rfl rfl⟩
  · refine TieO.run 4 rfl ?_
    refine TieO.nil ?_
    exact TieS.leaf ⟨rfl, .of rfl rfl⟩
  refine TieO.run 1 rfl ?_
  refine TieO.bind 6 (fun b2 => ⟨[(0, .t (tS enc_SRequest l)), (1, .t (tI low)), (2, .t (tI high)), (28, .t (tB b2))], []⟩) (TieO.split 22 rfl ?_ ?_) fun b2 _ => ?_
  · refine TieO.run 6 rfl ?_
    refine TieO.nil ?_
    exact TieS.leaf ⟨rfl, .of rfl rfl⟩
  · refine TieO.run 3 rfl ?_
    refine TieO.call _ rfl rfl rfl (tie_magnetoref36_Check l low high) (fun _ => rfl) fun v2 => ?_
    refine TieO.run 2 rfl ?_
    refine TieO.nil ?_
    exact TieS.leaf ⟨rfl, .of rfl rfl⟩
  refine TieO.nil ?_
  refine TieS.cond rfl ?_ ?_
  · refine TieS.seq ?_
    refine TieS.region ?_
    refine TieO.call _ rfl rfl rfl (tie_magnetolaw36_awake) (fun _ => rfl) fun v3 => ?_
    refine TieO.run 1 rfl ?_
    refine TieO.nil ?_
    exact TieS.ret ⟨.inl rfl, rfl⟩
  · refine TieS.skip ?_
    refine TieS.seq ?_
    refine TieS.region ?_
    refine TieO.run 3 rfl ?_
    refine TieO.call _ rfl rfl rfl (tie_arbiter_Decide l low high) (fun _ => rfl) fun r2 => ?_
    refine TieO.run 6 rfl ?_
    refine TieO.nil ?_
    refine TieS.seq ?_
    refine TieS.region ?_
    refine TieO.run 3 rfl ?_
    refine TieO.call _ rfl rfl rfl (tie_arbiter_Bounds l low high) (fun _ => rfl) fun r3 => ?_
    refine TieO.run 6 rfl ?_
    refine TieO.nil ?_
    refine TieS.seq ?_
    refine TieS.seq ?_
    refine TieS.region ?_
    refine TieO.run 3 rfl ?_
    refine TieO.selOr (v := (r3.2 != 0)) 3 46 (fun b => ⟨[(0, .t (tS enc_SRequest l)), (1, .t (tI low)), (2, .t (tI high)), (7, .ptr 7 0), (9, .ptr 9 0), (49, .t (tB b))], [(7, .box [.t (tI r2.1.Torque), .t (tI r2.1.Source)]), (9, .box [.t (tI r3.1.Low), .t (tI r3.1.High)])]⟩) rfl ?_ ?_ ?_
    · refine TieO.run 3 rfl ?_
      refine TieO.nil ?_
      exact TieS.leaf ⟨rfl, .of rfl rfl⟩
    · refine TieO.run 3 rfl ?_
      refine TieO.nil ?_
      exact TieS.leaf ⟨rfl, .of rfl rfl⟩
    refine TieO.run 1 rfl ?_
    refine TieO.selOr (v := (r2.1.Torque != r3.1.Low)) 6 50 (fun b => ⟨[(0, .t (tS enc_SRequest l)), (1, .t (tI low)), (2, .t (tI high)), (7, .ptr 7 0), (9, .ptr 9 0), (56, .t (tB b))], [(7, .box [.t (tI r2.1.Torque), .t (tI r2.1.Source)]), (9, .box [.t (tI r3.1.Low), .t (tI r3.1.High)])]⟩) rfl ?_ ?_ ?_
    · refine TieO.run 6 rfl ?_
      refine TieO.nil ?_
      exact TieS.leaf ⟨rfl, .of rfl rfl⟩
    · refine TieO.run 6 rfl ?_
      refine TieO.nil ?_
      exact TieS.leaf ⟨rfl, .of rfl rfl⟩
    refine TieO.run 1 rfl ?_
    refine TieO.selOr (v := decide (r3.1.Low > r3.1.High)) 6 57 (fun b => ⟨[(0, .t (tS enc_SRequest l)), (1, .t (tI low)), (2, .t (tI high)), (7, .ptr 7 0), (9, .ptr 9 0), (63, .t (tB b))], [(7, .box [.t (tI r2.1.Torque), .t (tI r2.1.Source)]), (9, .box [.t (tI r3.1.Low), .t (tI r3.1.High)])]⟩) rfl ?_ ?_ ?_
    · refine TieO.run 6 rfl ?_
      refine TieO.nil ?_
      exact TieS.leaf ⟨rfl, .of rfl rfl⟩
    · refine TieO.run 6 rfl ?_
      refine TieO.nil ?_
      exact TieS.leaf ⟨rfl, .of rfl rfl⟩
    refine TieO.run 1 rfl ?_
    refine TieO.selOr (v := decide (r3.1.Low < low)) 5 64 (fun b => ⟨[(0, .t (tS enc_SRequest l)), (1, .t (tI low)), (2, .t (tI high)), (7, .ptr 7 0), (9, .ptr 9 0), (69, .t (tB b))], [(7, .box [.t (tI r2.1.Torque), .t (tI r2.1.Source)]), (9, .box [.t (tI r3.1.Low), .t (tI r3.1.High)])]⟩) rfl ?_ ?_ ?_
    · refine TieO.run 5 rfl ?_
      refine TieO.nil ?_
      exact TieS.leaf ⟨rfl, .of rfl rfl⟩
    · refine TieO.run 5 rfl ?_
      refine TieO.nil ?_
      exact TieS.leaf ⟨rfl, .of rfl rfl⟩
    refine TieO.run 1 rfl ?_
    refine TieO.selOr (v := decide (r3.1.High > high)) 5 70 (fun b => ⟨[(0, .t (tS enc_SRequest l)), (1, .t (tI low)), (2, .t (tI high)), (7, .ptr 7 0), (9, .ptr 9 0), (75, .t (tB b))], [(7, .box [.t (tI r2.1.Torque), .t (tI r2.1.Source)]), (9, .box [.t (tI r3.1.Low), .t (tI r3.1.High)])]⟩) rfl ?_ ?_ ?_
    · refine TieO.run 5 rfl ?_
      refine TieO.nil ?_
      exact TieS.leaf ⟨rfl, .of rfl rfl⟩
    · refine TieO.run 5 rfl ?_
      refine TieO.nil ?_
      exact TieS.leaf ⟨rfl, .of rfl rfl⟩
    refine TieO.nil ?_
    refine TieS.cond rfl ?_ ?_
    · refine TieS.seq ?_
      refine TieS.region ?_
      refine TieO.run 1 rfl ?_
      refine TieO.nil ?_
      exact TieS.ret ⟨.inl rfl, rfl⟩
    · refine TieS.skip ?_
      refine TieS.seq ?_
      refine TieS.seq ?_
      refine TieS.region ?_
      refine TieO.run 3 rfl ?_
      refine TieO.nil ?_
      refine TieS.cond rfl ?_ ?_
      · refine TieS.seq ?_
        refine TieS.region ?_
        refine TieO.run 4 rfl ?_
        refine TieO.eqS [.int .i64 r3.1.Low, .int .i64 r3.1.High] [.int .i64 low, .int .i64 high] (eqv_30 r3.1.Low r3.1.High low high) rfl rfl rfl rfl rfl rfl ?_
        refine TieO.run 1 rfl ?_
        refine TieO.selAnd (v := (r2.1.Source == (-1))) 4 84 (fun b => ⟨[(88, .t (tB b))], []⟩) rfl ?_ ?_ ?_
        · refine TieO.run 4 rfl ?_
          refine TieO.nil ?_
          exact TieS.leaf ⟨rfl, .of rfl rfl⟩
        · refine TieO.run 4 rfl ?_
          refine TieO.nil ?_
          exact TieS.leaf ⟨rfl, .of rfl rfl⟩
        refine TieO.run 1 rfl ?_
        refine TieO.nil ?_
        exact TieS.ret ⟨.inl rfl, rfl⟩
      · refine TieS.skip ?_
        refine TieS.seq ?_
        refine TieS.region ?_
        refine TieO.run 1 rfl ?_
        refine TieO.index rfl rfl rfl rfl rfl rfl rfl rfl (fun _ => rfl) fun x hx => ?_
        refine TieO.run 3 rfl ?_
        refine TieO.nil ?_
        refine TieS.seq ?_
        refine TieS.seq ?_
        refine TieS.region ?_
        refine TieO.run 3 rfl ?_
        refine TieO.nil ?_
        refine TieS.block ?_
        refine TieS.loop (fun p => ⟨[(1, .t (tI low)), (2, .t (tI high)), (9, .ptr 9 0), (11, .ptr 11 0), (92, .t (tS enc_SRequest l)), (93, .t (tI (l.length : Int))), (94, .t (tI p.1))], [(9, .box [.t (tI r3.1.Low), .t (tI r3.1.High)]), (11, .box [.t (tI p.2.Source), .t (tI p.2.Kind), .t (tI p.2.Torque), .t (tI p.2.Priority)])]⟩) (fun b e σ' => match b with | .inl t => e = .exit 0 ∧ Sub ⟨[(1, .t (tI low)), (2, .t (tI high)), (9, .ptr 9 0), (11, .ptr 11 0)], [(9, .box [.t (tI r3.1.Low), .t (tI r3.1.High)]), (11, .box [.t (tI t.Source), .t (tI t.Kind), .t (tI t.Torque), .t (tI t.Priority)])]⟩ σ' | .inr t => False) (.of rfl rfl) ?_ ?_
        · rintro ⟨i, f2⟩
          refine TieS.seq ?_
          refine TieS.region ?_
          refine TieO.run 1 rfl ?_
          refine TieO.nil ?_
          refine TieS.seq ?_
          refine TieS.cond rfl ?_ ?_
          · refine TieS.skip ?_
            refine TieS.seq ?_
            refine TieX.pre fun x2 hx2 => ?_
            refine TieX.sub (σ' := ⟨[(1, .t (tI low)), (2, .t (tI high)), (9, .ptr 9 0), (11, .ptr 11 0), (92, .t (tS enc_SRequest l)), (93, .t (tI (l.length : Int))), (94, .t (tI i))], [(9, .box [.t (tI r3.1.Low), .t (tI r3.1.High)]), (11, .box [.t (tI f2.Source), .t (tI f2.Kind), .t (tI f2.Torque), .t (tI f2.Priority)])]⟩) (.of rfl rfl) ?_
            refine TieS.bind (Q₁ := fun f e σ' => match f with | .next t => e = .normal ∧ Sub ⟨[(1, .t (tI low)), (2, .t (tI high)), (9, .ptr 9 0), (11, .ptr 11 0), (92, .t (tS enc_SRequest l)), (93, .t (tI (l.length : Int))), (94, .t (tI i))], [(9, .box [.t (tI r3.1.Low), .t (tI r3.1.High)]), (11, .box [.t (tI t.Source), .t (tI t.Kind), .t (tI t.Torque), .t (tI t.Priority)])]⟩ σ' | .brk t => e = .exit 0 ∧ Sub ⟨[(1, .t (tI low)), (2, .t (tI high)), (9, .ptr 9 0), (11, .ptr 11 0)], [(9, .box [.t (tI r3.1.Low), .t (tI r3.1.High)]), (11, .box [.t (tI t.Source), .t (tI t.Kind), .t (tI t.Torque), .t (tI t.Priority)])]⟩ σ' | .ret r => False) ?_ ?_
            · refine TieS.block ?_
              refine TieS.seq ?_
              refine TieS.region ?_
              refine TieO.indexH hx2 rfl rfl rfl rfl rfl rfl rfl rfl (fun _ => rfl) ?_
              refine TieO.run 3 rfl ?_
              refine TieO.nil ?_
              refine TieS.seq ?_
              refine TieS.region ?_
              refine TieO.run 5 rfl ?_
              refine TieO.nil ?_
              refine TieS.cond rfl ?_ ?_
              · refine TieS.region ?_
                refine TieO.run 2 rfl ?_
                refine TieO.nil ?_
                refine TieS.endb ?_
                exact TieS.leaf ⟨rfl, .of rfl rfl⟩
              · refine TieS.skip ?_
                refine TieS.endb ?_
                exact TieS.leaf ⟨rfl, .of rfl rfl⟩
            rintro (t | t | r) e σ' _ hq
            · obtain ⟨rfl, hs⟩ := hq
              refine TieX.sub hs ?_
              refine TieS.region ?_
              refine TieO.run 2 rfl ?_
              refine TieO.nil ?_
              exact TieS.leaf ⟨rfl, .of rfl rfl⟩
            · obtain ⟨rfl, hs⟩ := hq
              exact TieX.exitOut rfl ⟨(fun h => by cases h), rfl, hs⟩
            · exact hq.elim
          · exact TieS.exitOut rfl ⟨(fun h => by cases h), rfl, .of rfl rfl⟩
        rintro (f3 | r) e σ' _ hq
        · obtain ⟨rfl, hs⟩ := hq
          refine TieX.exit rfl (TieX.sub hs ?_)
          refine TieS.seq ?_
          refine TieS.region ?_
          refine TieO.run 7 rfl ?_
          refine TieO.nil ?_
          refine TieS.seq ?_
          refine TieS.region ?_
          refine TieO.run 4 rfl ?_
          refine TieO.selOr (v := decide (r3.1.High ≤ (maxI low (minI high f3.Torque)))) 5 114 (fun b => ⟨[(9, .ptr 9 0), (11, .ptr 11 0), (14, .t (tI (maxI low (minI high f3.Torque)))), (119, .t (tB b))], [(9, .box [.t (tI r3.1.Low), .t (tI r3.1.High)]), (11, .box [.t (tI f3.Source), .t (tI f3.Kind), .t (tI f3.Torque), .t (tI f3.Priority)])]⟩) rfl ?_ ?_ ?_
          · refine TieO.run 5 rfl ?_
            refine TieO.nil ?_
            exact TieS.leaf ⟨rfl, .of rfl rfl⟩
          · refine TieO.run 5 rfl ?_
            refine TieO.nil ?_
            exact TieS.leaf ⟨rfl, .of rfl rfl⟩
          refine TieO.run 1 rfl ?_
          refine TieO.frzBox 9 rfl rfl ?_
          refine TieO.frzBox 11 rfl rfl ?_
          refine TieO.bind 10 (fun b3 => ⟨[(130, .t (tB b3))], []⟩) (TieO.split 120 rfl ?_ ?_) fun b3 _ => ?_
          · refine TieO.run 4 rfl ?_
            refine TieO.selOr (v := decide (r3.1.Low ≥ (maxI low (minI high f3.Torque)))) 5 124 (fun b => ⟨[(120, .t (tB true)), (129, .t (tB b))], []⟩) rfl ?_ ?_ ?_
            · refine TieO.run 5 rfl ?_
              refine TieO.nil ?_
              exact TieS.leaf ⟨rfl, .of rfl rfl⟩
            · refine TieO.run 5 rfl ?_
              refine TieO.nil ?_
              exact TieS.leaf ⟨rfl, .of rfl rfl⟩
            refine TieO.run 1 rfl ?_
            refine TieO.nil ?_
            exact TieS.leaf ⟨rfl, .of rfl rfl⟩
          · refine TieO.run 10 rfl ?_
            refine TieO.nil ?_
            exact TieS.leaf ⟨rfl, .of rfl rfl⟩
          refine TieO.run 1 rfl ?_
          refine TieO.nil ?_
          exact TieS.ret ⟨.inl rfl, rfl⟩
        · exact hq.elim
-- magneto/magnetolaw36.ArbiterMonotone
set_option maxRecDepth 100000 in
theorem tie_magnetolaw36_ArbiterMonotone (l : List SRequest) (low : Int) (high : Int) (which : Int) (v_by : Int) : TieF Try.prog 6 [.t (tS enc_SRequest l), .t (tI low), .t (tI high), .t (tK .u8 which), .t (tK .u16 v_by)] (magnetolaw36_ArbiterMonotone l low high which v_by) (fun r => .t (tB r)) := by
  refine TieF.intro htab 123 [.tmp 10] Try.call6 Try.func6 rfl rfl rfl (Nat.le_of_ble_eq_true rfl) fun w0 L => ?_
  refine TieS.seq ?_
  refine TieS.region ?_
  refine TieO.run 1 rfl ?_
  refine TieO.nil ?_
  refine TieS.seq ?_
  refine TieS.seq ?_
  refine TieS.region ?_
  refine TieO.call _ rfl rfl rfl (tie_magnetolaw36_awake) (fun _ => rfl) fun v => ?_
  refine TieO.run 2 rfl ?_
  refine TieO.selOr (v := decide ((l.length : Int) > 32)) 4 21 (fun b => ⟨[(0, .t (tS enc_SRequest l)), (1, .t (tI low)), (2, .t (tI high)), (3, .t (tK .u8 which)), (4, .t (tK .u16 v_by)), (25, .t (tB b))], []⟩) rfl ?_ ?_ ?_
  · refine TieO.run 4 rfl ?_
    refine TieO.nil ?_
    exact TieS.leaf ⟨rfl, .of rfl rfl⟩
  · refine TieO.run 4 rfl ?_
    refine TieO.nil ?_
    exact TieS.leaf ⟨rfl, .of rfl rfl⟩
  refine TieO.run 1 rfl ?_
  refine TieO.selOr (v := ((l.length : Int) == 0)) 4 26 (fun b => ⟨[(0, .t (tS enc_SRequest l)), (1, .t (tI low)), (2, .t (tI high)), (3, .t (tK .u8 which)), (4, .t (tK .u16 v_by)), (30, .t (tB b))], []⟩) rfl ?_ ?_ ?_
  · refine TieO.run 4 rfl ?_
    refine TieO.nil ?_
    exact TieS.leaf ⟨rfl, .of rfl rfl⟩
  · refine TieO.run 4 rfl ?_
    refine TieO.nil ?_
    exact TieS.leaf ⟨rfl, .of rfl rfl⟩
  refine TieO.run 1 rfl ?_
  refine TieO.bind 6 (fun b2 => ⟨[(0, .t (tS enc_SRequest l)), (1, .t (tI low)), (2, .t (tI high)), (3, .t (tK .u8 which)), (4, .t (tK .u16 v_by)), (37, .t (tB b2))], []⟩) (TieO.split 31 rfl ?_ ?_) fun b2 _ => ?_
  · refine TieO.run 6 rfl ?_
    refine TieO.nil ?_
    exact TieS.leaf ⟨rfl, .of rfl rfl⟩
  · refine TieO.run 3 rfl ?_
    refine TieO.call _ rfl rfl rfl (tie_magnetoref36_Check l low high) (fun _ => rfl) fun v2 => ?_
    refine TieO.run 2 rfl ?_
    refine TieO.nil ?_
    exact TieS.leaf ⟨rfl, .of rfl rfl⟩
  refine TieO.nil ?_
  refine TieS.cond rfl ?_ ?_
  · refine TieS.seq ?_
    refine TieS.region ?_
    refine TieO.call _ rfl rfl rfl (tie_magnetolaw36_awake) (fun _ => rfl) fun v3 => ?_
    refine TieO.run 1 rfl ?_
    refine TieO.nil ?_
    exact TieS.ret ⟨.inl rfl, rfl⟩
  · refine TieS.skip ?_
    refine TieS.seq ?_
    refine TieS.region ?_
    refine TieO.run 4 rfl ?_
    refine TieO.rem rfl rfl rfl rfl rfl rfl fun q => ?_
    refine TieO.run 1 rfl ?_
    refine TieO.nil ?_
    refine TieS.seq ?_
    refine TieS.region ?_
    refine TieO.run 1 rfl ?_
    refine TieO.callG [] [(900000, 2360)] (fun v4 => ⟨[(0, .t (tS enc_SRequest l)), (1, .t (tI low)), (2, .t (tI high)), (3, .t (tK .u8 which)), (4, .t (tK .u16 v_by)), (11, .t (tI q)), (37, .t (tB b2)), (39, .t (tK .u8 which)), (40, .t (tI (w64 which))), (41, .t (tS enc_SRequest l)), (42, .t (tI (l.length : Int))), (43, .t (tI q)), (44, .t (tS enc_SRequest l)), (45, .own 2360)], [(2360, .rows 35 4 v4.length (v4.map enc_SRequest))]⟩) (tie_slices_Clone_sRequest l) rfl rfl rfl rfl rfl rfl rfl (fun _ => rfl) (fun _ => rfl) (fun _ => rfl) (fun _ => .of rfl rfl) fun v4 hv4 => ?_
    refine TieO.run 1 rfl ?_
    refine TieO.nil ?_
    refine TieS.seq ?_
    refine TieS.region ?_
    refine TieO.run 4 rfl ?_
    refine TieO.indexO rfl rfl rfl rfl rfl rfl rfl rfl rfl rfl fun x hx => ?_
    refine TieO.run 1 rfl ?_
    refine TieO.loadY hx rfl rfl rfl rfl rfl rfl rfl rfl ?_
    refine TieO.run 4 rfl ?_
    refine TieO.indexOH hx rfl rfl rfl rfl rfl rfl rfl rfl rfl rfl ?_
    refine TieO.run 1 rfl ?_
    refine TieO.storeY (⟨x.Source, x.Kind, maxI (-5000) (w64 (x.Torque - (w64 v_by))), x.Priority⟩ : SRequest) [tI (maxI (-5000) (w64 (x.Torque - (w64 v_by))))] hx rfl rfl rfl rfl rfl rfl rfl rfl rfl rfl rfl rfl fun l2 hl2 => ?_
    refine TieO.nil ?_
    refine TieS.seq ?_
    refine TieS.region ?_
    refine TieO.run 3 rfl ?_
    refine TieO.call _ rfl rfl rfl (tie_arbiter_Bounds l low high) (fun _ => rfl) fun r2 => ?_
    refine TieO.run 6 rfl ?_
    refine TieO.nil ?_
    refine TieS.seq ?_
    refine TieS.region ?_
    refine TieO.run 3 rfl ?_
    refine TieO.callS _ rfl rfl rfl (tie_arbiter_Bounds l2 low high) (fun _ => rfl) (fun _ => rfl) fun r3 => ?_
    refine TieO.run 6 rfl ?_
    refine TieO.nil ?_
    refine TieS.seq ?_
    refine TieS.region ?_
    refine TieO.run 8 rfl ?_
    refine TieO.call _ rfl rfl rfl (tie_arbiter_Bounds l low (maxI low (w64 (high - (w64 v_by))))) (fun _ => rfl) fun r4 => ?_
    refine TieO.run 6 rfl ?_
    refine TieO.nil ?_
    refine TieS.seq ?_
    refine TieS.region ?_
    refine TieO.run 3 rfl ?_
    refine TieO.selAnd (v := (r3.2 == 0)) 3 87 (fun b => ⟨[(13, .ptr 13 0), (15, .ptr 15 0), (17, .ptr 17 0), (18, .t (tI r4.2)), (90, .t (tB b))], [(13, .box [.t (tI r2.1.Low), .t (tI r2.1.High)]), (15, .box [.t (tI r3.1.Low), .t (tI r3.1.High)]), (17, .box [.t (tI r4.1.Low), .t (tI r4.1.High)])]⟩) rfl ?_ ?_ ?_
    · refine TieO.run 3 rfl ?_
      refine TieO.nil ?_
      exact TieS.leaf ⟨rfl, .of rfl rfl⟩
    · refine TieO.run 3 rfl ?_
      refine TieO.nil ?_
      exact TieS.leaf ⟨rfl, .of rfl rfl⟩
    refine TieO.run 1 rfl ?_
    refine TieO.selAnd (v := (r4.2 == 0)) 3 91 (fun b => ⟨[(13, .ptr 13 0), (15, .ptr 15 0), (17, .ptr 17 0), (94, .t (tB b))], [(13, .box [.t (tI r2.1.Low), .t (tI r2.1.High)]), (15, .box [.t (tI r3.1.Low), .t (tI r3.1.High)]), (17, .box [.t (tI r4.1.Low), .t (tI r4.1.High)])]⟩) rfl ?_ ?_ ?_
    · refine TieO.run 3 rfl ?_
      refine TieO.nil ?_
      exact TieS.leaf ⟨rfl, .of rfl rfl⟩
    · refine TieO.run 3 rfl ?_
      refine TieO.nil ?_
      exact TieS.leaf ⟨rfl, .of rfl rfl⟩
    refine TieO.run 1 rfl ?_
    refine TieO.selAnd (v := decide (r3.1.Low ≤ r2.1.Low)) 6 95 (fun b => ⟨[(13, .ptr 13 0), (15, .ptr 15 0), (17, .ptr 17 0), (101, .t (tB b))], [(13, .box [.t (tI r2.1.Low), .t (tI r2.1.High)]), (15, .box [.t (tI r3.1.Low), .t (tI r3.1.High)]), (17, .box [.t (tI r4.1.Low), .t (tI r4.1.High)])]⟩) rfl ?_ ?_ ?_
    · refine TieO.run 6 rfl ?_
      refine TieO.nil ?_
      exact TieS.leaf ⟨rfl, .of rfl rfl⟩
    · refine TieO.run 6 rfl ?_
      refine TieO.nil ?_
      exact TieS.leaf ⟨rfl, .of rfl rfl⟩
    refine TieO.run 1 rfl ?_
    refine TieO.selAnd (v := decide (r3.1.High ≤ r2.1.High)) 6 102 (fun b => ⟨[(13, .ptr 13 0), (17, .ptr 17 0), (108, .t (tB b))], [(13, .box [.t (tI r2.1.Low), .t (tI r2.1.High)]), (17, .box [.t (tI r4.1.Low), .t (tI r4.1.High)])]⟩) rfl ?_ ?_ ?_
    · refine TieO.run 6 rfl ?_
      refine TieO.nil ?_
      exact TieS.leaf ⟨rfl, .of rfl rfl⟩
    · refine TieO.run 6 rfl ?_
      refine TieO.nil ?_
      exact TieS.leaf ⟨rfl, .of rfl rfl⟩
    refine TieO.run 1 rfl ?_
    refine TieO.selAnd (v := decide (r4.1.Low ≤ r2.1.Low)) 6 109 (fun b => ⟨[(13, .ptr 13 0), (17, .ptr 17 0), (115, .t (tB b))], [(13, .box [.t (tI r2.1.Low), .t (tI r2.1.High)]), (17, .box [.t (tI r4.1.Low), .t (tI r4.1.High)])]⟩) rfl ?_ ?_ ?_
    · refine TieO.run 6 rfl ?_
      refine TieO.nil ?_
      exact TieS.leaf ⟨rfl, .of rfl rfl⟩
    · refine TieO.run 6 rfl ?_
      refine TieO.nil ?_
      exact TieS.leaf ⟨rfl, .of rfl rfl⟩
    refine TieO.run 1 rfl ?_
    refine TieO.selAnd (v := decide (r4.1.High ≤ r2.1.High)) 6 116 (fun b => ⟨[(122, .t (tB b))], []⟩) rfl ?_ ?_ ?_
    · refine TieO.run 6 rfl ?_
      refine TieO.nil ?_
      exact TieS.leaf ⟨rfl, .of rfl rfl⟩
    · refine TieO.run 6 rfl ?_
      refine TieO.nil ?_
      exact TieS.leaf ⟨rfl, .of rfl rfl⟩
    refine TieO.run 1 rfl ?_
    refine TieO.nil ?_
    exact TieS.ret ⟨.inl rfl, rfl⟩
end Go.Proofs.Ytoiamgpgodcioaa

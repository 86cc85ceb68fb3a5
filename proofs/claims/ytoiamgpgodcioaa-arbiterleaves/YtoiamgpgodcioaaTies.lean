/- Ties, printed by gen.py: each function of the loaded program computes its model. -/
import Derived.Test.YtoiamgpgodcioaaTiesA
import Derived.Test.YtoiamgpgodcioaaPvXl
import Derived.Test.YtoiamgpgodcioaaProg
import Derived.KernelRfl
namespace Go.Proofs.Ytoiamgpgodcioaa
open Go Go.Pv Go.Proofs
-- magneto/magnetolaw36.ArbiterSteps
set_option maxRecDepth 100000 in
theorem tie_magnetolaw36_ArbiterSteps (g : SGrant) (l : List SRequest) (low : Int) (high : Int) (up : Int) (down : Int) : TieF Try.prog 7 [A_SGrant g, .t (tS enc_SRequest l), .t (tI low), .t (tI high), .t (tI up), .t (tI down)] (magnetolaw36_ArbiterSteps g l low high up down) (fun r => .t (tB r)) := by
  refine TieF.intro htab 156 [.tmp 12] Try.call7 Try.func7 rfl rfl rfl (Nat.le_of_ble_eq_true rfl) fun w0 L => ?_
  refine TieS.seq ?_
  refine TieS.region ?_
  refine TieO.run 2 rfl ?_
  refine TieO.nil ?_
  refine TieS.seq ?_
  refine TieS.seq ?_
  refine TieS.region ?_
  refine TieO.call _ rfl rfl rfl (tie_magnetolaw36_awake) (fun _ => rfl) fun v => ?_
  refine TieO.run 2 rfl ?_
  refine TieO.selOr (v := decide ((l.length : Int) > 100)) 4 23 (fun b => ⟨[(1, .t (tS enc_SRequest l)), (2, .t (tI low)), (3, .t (tI high)), (4, .t (tI up)), (5, .t (tI down)), (6, .ptr 6 0), (27, .t (tB b))], [(6, .box [.t (tI g.Torque), .t (tI g.Source)])]⟩) rfl ?_ ?_ ?_
  · refine TieO.run 4 rfl ?_
    refine TieO.nil ?_
    exact TieS.leaf ⟨rfl, .of rfl rfl⟩
  · refine TieO.run 4 rfl ?_
    refine TieO.nil ?_
    exact TieS.leaf ⟨rfl, .of rfl rfl⟩
  refine TieO.nil ?_
  refine TieS.cond rfl ?_ ?_
  · refine TieS.seq ?_
    refine TieS.region ?_
    refine TieO.call _ rfl rfl rfl (tie_magnetolaw36_awake) (fun _ => rfl) fun v2 => ?_
    refine TieO.run 1 rfl ?_
    refine TieO.nil ?_
    exact TieS.ret ⟨.inl rfl, rfl⟩
  · refine TieS.skip ?_
    refine TieS.seq ?_
    refine TieS.region ?_
    refine TieO.run 6 rfl ?_
    refine TieO.call _ rfl rfl rfl (tie_arbiter_Step g l low high up down) (fun _ => rfl) fun r2 => ?_
    refine TieO.run 6 rfl ?_
    refine TieO.nil ?_
    refine TieS.seq ?_
    refine TieS.seq ?_
    refine TieS.region ?_
    refine TieO.run 2 rfl ?_
    refine TieO.call _ rfl rfl rfl (tie_magnetoref36_Torque g.Torque) (fun _ => rfl) fun v3 => ?_
    refine TieO.run 2 rfl ?_
    refine TieO.selOr (v := decide (g.Source < (-1))) 4 43 (fun b => ⟨[(1, .t (tS enc_SRequest l)), (2, .t (tI low)), (3, .t (tI high)), (4, .t (tI up)), (5, .t (tI down)), (6, .ptr 6 0), (13, .ptr 13 0), (14, .t (tI r2.2)), (47, .t (tB b))], [(6, .box [.t (tI g.Torque), .t (tI g.Source)]), (13, .box [.t (tI r2.1.Torque), .t (tI r2.1.Source)])]⟩) rfl ?_ ?_ ?_
    · refine TieO.run 4 rfl ?_
      refine TieO.nil ?_
      exact TieS.leaf ⟨rfl, .of rfl rfl⟩
    · refine TieO.run 4 rfl ?_
      refine TieO.nil ?_
      exact TieS.leaf ⟨rfl, .of rfl rfl⟩
    refine TieO.run 1 rfl ?_
    refine TieO.selOr (v := decide (g.Source > 15)) 4 48 (fun b => ⟨[(1, .t (tS enc_SRequest l)), (2, .t (tI low)), (3, .t (tI high)), (4, .t (tI up)), (5, .t (tI down)), (6, .ptr 6 0), (13, .ptr 13 0), (14, .t (tI r2.2)), (52, .t (tB b))], [(6, .box [.t (tI g.Torque), .t (tI g.Source)]), (13, .box [.t (tI r2.1.Torque), .t (tI r2.1.Source)])]⟩) rfl ?_ ?_ ?_
    · refine TieO.run 4 rfl ?_
      refine TieO.nil ?_
      exact TieS.leaf ⟨rfl, .of rfl rfl⟩
    · refine TieO.run 4 rfl ?_
      refine TieO.nil ?_
      exact TieS.leaf ⟨rfl, .of rfl rfl⟩
    refine TieO.nil ?_
    refine TieS.cond rfl ?_ ?_
    · refine TieS.seq ?_
      refine TieS.region ?_
      refine TieO.run 2 rfl ?_
      refine TieO.eqS [.int .i64 r2.1.Torque, .int .i64 r2.1.Source] [.int .i64 0, .int .i64 0] (eqv_43 r2.1.Torque r2.1.Source 0 0) rfl rfl rfl rfl rfl rfl ?_
      refine TieO.run 1 rfl ?_
      refine TieO.selAnd (v := (r2.2 == 1)) 3 56 (fun b => ⟨[(59, .t (tB b))], []⟩) rfl ?_ ?_ ?_
      · refine TieO.run 3 rfl ?_
        refine TieO.nil ?_
        exact TieS.leaf ⟨rfl, .of rfl rfl⟩
      · refine TieO.run 3 rfl ?_
        refine TieO.nil ?_
        exact TieS.leaf ⟨rfl, .of rfl rfl⟩
      refine TieO.run 1 rfl ?_
      refine TieO.nil ?_
      exact TieS.ret ⟨.inl rfl, rfl⟩
    · refine TieS.skip ?_
      refine TieS.seq ?_
      refine TieS.seq ?_
      refine TieS.region ?_
      refine TieO.run 3 rfl ?_
      refine TieO.call _ rfl rfl rfl (tie_magnetoref36_Check l low high) (fun _ => rfl) fun v4 => ?_
      refine TieO.run 1 rfl ?_
      refine TieO.nil ?_
      refine TieS.seq ?_
      refine TieS.region ?_
      refine TieO.run 2 rfl ?_
      refine TieO.nil ?_
      refine TieS.cond rfl ?_ ?_
      · refine TieS.seq ?_
        refine TieS.region ?_
        refine TieO.run 2 rfl ?_
        refine TieO.eqS [.int .i64 r2.1.Torque, .int .i64 r2.1.Source] [.int .i64 0, .int .i64 0] (eqv_43 r2.1.Torque r2.1.Source 0 0) rfl rfl rfl rfl rfl rfl ?_
        refine TieO.run 1 rfl ?_
        refine TieO.selAnd (v := (r2.2 == v4)) 4 69 (fun b => ⟨[(73, .t (tB b))], []⟩) rfl ?_ ?_ ?_
        · refine TieO.run 4 rfl ?_
          refine TieO.nil ?_
          exact TieS.leaf ⟨rfl, .of rfl rfl⟩
        · refine TieO.run 4 rfl ?_
          refine TieO.nil ?_
          exact TieS.leaf ⟨rfl, .of rfl rfl⟩
        refine TieO.run 1 rfl ?_
        refine TieO.nil ?_
        exact TieS.ret ⟨.inl rfl, rfl⟩
      · refine TieS.skip ?_
        refine TieS.seq ?_
        refine TieS.seq ?_
        refine TieS.region ?_
        refine TieO.run 3 rfl ?_
        refine TieO.selOr (v := decide (up > 20000)) 3 76 (fun b => ⟨[(1, .t (tS enc_SRequest l)), (2, .t (tI low)), (3, .t (tI high)), (4, .t (tI up)), (5, .t (tI down)), (6, .ptr 6 0), (13, .ptr 13 0), (14, .t (tI r2.2)), (79, .t (tB b))], [(6, .box [.t (tI g.Torque), .t (tI g.Source)]), (13, .box [.t (tI r2.1.Torque), .t (tI r2.1.Source)])]⟩) rfl ?_ ?_ ?_
        · refine TieO.run 3 rfl ?_
          refine TieO.nil ?_
          exact TieS.leaf ⟨rfl, .of rfl rfl⟩
        · refine TieO.run 3 rfl ?_
          refine TieO.nil ?_
          exact TieS.leaf ⟨rfl, .of rfl rfl⟩
        refine TieO.run 1 rfl ?_
        refine TieO.selOr (v := decide (down < 0)) 3 80 (fun b => ⟨[(1, .t (tS enc_SRequest l)), (2, .t (tI low)), (3, .t (tI high)), (4, .t (tI up)), (5, .t (tI down)), (6, .ptr 6 0), (13, .ptr 13 0), (14, .t (tI r2.2)), (83, .t (tB b))], [(6, .box [.t (tI g.Torque), .t (tI g.Source)]), (13, .box [.t (tI r2.1.Torque), .t (tI r2.1.Source)])]⟩) rfl ?_ ?_ ?_
        · refine TieO.run 3 rfl ?_
          refine TieO.nil ?_
          exact TieS.leaf ⟨rfl, .of rfl rfl⟩
        · refine TieO.run 3 rfl ?_
          refine TieO.nil ?_
          exact TieS.leaf ⟨rfl, .of rfl rfl⟩
        refine TieO.run 1 rfl ?_
        refine TieO.selOr (v := decide (down > 20000)) 3 84 (fun b => ⟨[(1, .t (tS enc_SRequest l)), (2, .t (tI low)), (3, .t (tI high)), (4, .t (tI up)), (5, .t (tI down)), (6, .ptr 6 0), (13, .ptr 13 0), (14, .t (tI r2.2)), (87, .t (tB b))], [(6, .box [.t (tI g.Torque), .t (tI g.Source)]), (13, .box [.t (tI r2.1.Torque), .t (tI r2.1.Source)])]⟩) rfl ?_ ?_ ?_
        · refine TieO.run 3 rfl ?_
          refine TieO.nil ?_
          exact TieS.leaf ⟨rfl, .of rfl rfl⟩
        · refine TieO.run 3 rfl ?_
          refine TieO.nil ?_
          exact TieS.leaf ⟨rfl, .of rfl rfl⟩
        refine TieO.nil ?_
        refine TieS.cond rfl ?_ ?_
        · refine TieS.seq ?_
          refine TieS.region ?_
          refine TieO.run 2 rfl ?_
          refine TieO.eqS [.int .i64 r2.1.Torque, .int .i64 r2.1.Source] [.int .i64 0, .int .i64 0] (eqv_43 r2.1.Torque r2.1.Source 0 0) rfl rfl rfl rfl rfl rfl ?_
          refine TieO.run 1 rfl ?_
          refine TieO.selAnd (v := (r2.2 == 2)) 3 91 (fun b => ⟨[(94, .t (tB b))], []⟩) rfl ?_ ?_ ?_
          · refine TieO.run 3 rfl ?_
            refine TieO.nil ?_
            exact TieS.leaf ⟨rfl, .of rfl rfl⟩
          · refine TieO.run 3 rfl ?_
            refine TieO.nil ?_
            exact TieS.leaf ⟨rfl, .of rfl rfl⟩
          refine TieO.run 1 rfl ?_
          refine TieO.nil ?_
          exact TieS.ret ⟨.inl rfl, rfl⟩
        · refine TieS.skip ?_
          refine TieS.seq ?_
          refine TieS.region ?_
          refine TieO.run 3 rfl ?_
          refine TieO.call _ rfl rfl rfl (tie_arbiter_Decide l low high) (fun _ => rfl) fun r3 => ?_
          refine TieO.run 6 rfl ?_
          refine TieO.nil ?_
          refine TieS.seq ?_
          refine TieS.region ?_
          refine TieO.run 3 rfl ?_
          refine TieO.call _ rfl rfl rfl (tie_arbiter_Bounds l low high) (fun _ => rfl) fun r4 => ?_
          refine TieO.run 6 rfl ?_
          refine TieO.nil ?_
          refine TieS.seq ?_
          refine TieS.seq ?_
          refine TieS.region ?_
          refine TieO.run 3 rfl ?_
          refine TieO.selOr (v := (r3.2 != 0)) 3 111 (fun b => ⟨[(2, .t (tI low)), (4, .t (tI up)), (5, .t (tI down)), (6, .ptr 6 0), (13, .ptr 13 0), (16, .ptr 16 0), (18, .ptr 18 0), (19, .t (tI r4.2)), (114, .t (tB b))], [(6, .box [.t (tI g.Torque), .t (tI g.Source)]), (13, .box [.t (tI r2.1.Torque), .t (tI r2.1.Source)]), (16, .box [.t (tI r3.1.Torque), .t (tI r3.1.Source)]), (18, .box [.t (tI r4.1.Low), .t (tI r4.1.High)])]⟩) rfl ?_ ?_ ?_
          · refine TieO.run 3 rfl ?_
            refine TieO.nil ?_
            exact TieS.leaf ⟨rfl, .of rfl rfl⟩
          · refine TieO.run 3 rfl ?_
            refine TieO.nil ?_
            exact TieS.leaf ⟨rfl, .of rfl rfl⟩
          refine TieO.run 1 rfl ?_
          refine TieO.selOr (v := (r4.2 != 0)) 3 115 (fun b => ⟨[(2, .t (tI low)), (4, .t (tI up)), (5, .t (tI down)), (6, .ptr 6 0), (13, .ptr 13 0), (16, .ptr 16 0), (18, .ptr 18 0), (118, .t (tB b))], [(6, .box [.t (tI g.Torque), .t (tI g.Source)]), (13, .box [.t (tI r2.1.Torque), .t (tI r2.1.Source)]), (16, .box [.t (tI r3.1.Torque), .t (tI r3.1.Source)]), (18, .box [.t (tI r4.1.Low), .t (tI r4.1.High)])]⟩) rfl ?_ ?_ ?_
          · refine TieO.run 3 rfl ?_
            refine TieO.nil ?_
            exact TieS.leaf ⟨rfl, .of rfl rfl⟩
          · refine TieO.run 3 rfl ?_
            refine TieO.nil ?_
            exact TieS.leaf ⟨rfl, .of rfl rfl⟩
          refine TieO.nil ?_
          refine TieS.cond rfl ?_ ?_
          · refine TieS.seq ?_
            refine TieS.region ?_
            refine TieO.run 1 rfl ?_
            refine TieO.nil ?_
            exact TieS.ret ⟨.inl rfl, rfl⟩
          · refine TieS.skip ?_
            refine TieS.seq ?_
            refine TieS.region ?_
            refine TieO.run 13 rfl ?_
            refine TieO.nil ?_
            refine TieS.seq ?_
            refine TieS.region ?_
            refine TieO.run 7 rfl ?_
            refine TieO.nil ?_
            refine TieS.seq ?_
            refine TieS.region ?_
            refine TieO.run 5 rfl ?_
            refine TieO.eqS [.int .i64 r2.1.Torque, .int .i64 r2.1.Source] [.int .i64 (maxI (minI (minI (maxI r3.1.Torque (w64 (g.Torque - down))) (w64 (g.Torque + up))) r4.1.High) low), .int .i64 r3.1.Source] (eqv_43 r2.1.Torque r2.1.Source (maxI (minI (minI (maxI r3.1.Torque (w64 (g.Torque - down))) (w64 (g.Torque + up))) r4.1.High) low) r3.1.Source) rfl rfl rfl rfl rfl rfl ?_
            refine TieO.run 1 rfl ?_
            refine TieO.selAnd (v := decide (r2.1.Torque ≤ r4.1.High)) 6 143 (fun b => ⟨[(2, .t (tI low)), (13, .ptr 13 0), (149, .t (tB b))], [(13, .box [.t (tI r2.1.Torque), .t (tI r2.1.Source)])]⟩) rfl ?_ ?_ ?_
            · refine TieO.run 6 rfl ?_
              refine TieO.nil ?_
              exact TieS.leaf ⟨rfl, .of rfl rfl⟩
            · refine TieO.run 6 rfl ?_
              refine TieO.nil ?_
              exact TieS.leaf ⟨rfl, .of rfl rfl⟩
            refine TieO.run 1 rfl ?_
            refine TieO.selAnd (v := decide (r2.1.Torque ≥ low)) 5 150 (fun b => ⟨[(155, .t (tB b))], []⟩) rfl ?_ ?_ ?_
            · refine TieO.run 5 rfl ?_
              refine TieO.nil ?_
              exact TieS.leaf ⟨rfl, .of rfl rfl⟩
            · refine TieO.run 5 rfl ?_
              refine TieO.nil ?_
              exact TieS.leaf ⟨rfl, .of rfl rfl⟩
            refine TieO.run 1 rfl ?_
            refine TieO.nil ?_
            exact TieS.ret ⟨.inl rfl, rfl⟩
-- magneto/magnetolaw36.ArbiterObeys
set_option maxRecDepth 100000 in
theorem tie_magnetolaw36_ArbiterObeys (l : List SRequest) (low : Int) (high : Int) : TieF Try.prog 5 [.t (tS enc_SRequest l), .t (tI low), .t (tI high)] (magnetolaw36_ArbiterObeys l low high) (fun r => .t (tB r)) := by
  refine TieF.intro htab 131 [.tmp 6] Try.call5 Try.func5 rfl rfl rfl (Nat.le_of_ble_eq_true rfl) fun w0 L => ?_
  refine TieS.seq ?_
  refine TieS.region ?_
  refine TieO.run 1 rfl ?_
  refine TieO.nil ?_
  refine TieS.seq ?_
  refine TieS.seq ?_
  refine TieS.region ?_
  refine TieO.call _ rfl rfl rfl (tie_magnetolaw36_awake) (fun _ => rfl) fun v => ?_
  refine TieO.run 2 rfl ?_
  refine TieO.selOr (v := decide ((l.length : Int) > 32)) 4 17 (fun b => ⟨[(0, .t (tS enc_SRequest l)), (1, .t (tI low)), (2, .t (tI high)), (21, .t (tB b))], []⟩) rfl ?_ ?_ ?_
  · refine TieO.run 4 rfl ?_
    refine TieO.nil ?_
    exact TieS.leaf ⟨rfl, .of rfl rfl⟩
  · refine TieO.run 4 rfl ?_
    refine TieO.nil ?_
    exact TieS.leaf ⟨rfl, .of rfl rfl⟩
  refine TieO.run 1 rfl ?_
  refine TieO.bind 6 (fun b2 => ⟨[(0, .t (tS enc_SRequest l)), (1, .t (tI low)), (2, .t (tI high)), (28, .t (tB b2))], []⟩) (TieO.split 22 rfl ?_ ?_) fun b2 _ => ?_
  · refine TieO.run 6 rfl ?_
    refine TieO.nil ?_
    exact TieS.leaf ⟨rfl, .of rfl rfl⟩
  · refine TieO.run 3 rfl ?_
    refine TieO.call _ rfl rfl rfl (tie_magnetoref36_Check l low high) (fun _ => rfl) fun v2 => ?_
    refine TieO.run 2 rfl ?_
    refine TieO.nil ?_
    exact TieS.leaf ⟨rfl, .of rfl rfl⟩
  refine TieO.nil ?_
  refine TieS.cond rfl ?_ ?_
  · refine TieS.seq ?_
    refine TieS.region ?_
    refine TieO.call _ rfl rfl rfl (tie_magnetolaw36_awake) (fun _ => rfl) fun v3 => ?_
    refine TieO.run 1 rfl ?_
    refine TieO.nil ?_
    exact TieS.ret ⟨.inl rfl, rfl⟩
  · refine TieS.skip ?_
    refine TieS.seq ?_
    refine TieS.region ?_
    refine TieO.run 3 rfl ?_
    refine TieO.call _ rfl rfl rfl (tie_arbiter_Decide l low high) (fun _ => rfl) fun r2 => ?_
    refine TieO.run 6 rfl ?_
    refine TieO.nil ?_
    refine TieS.seq ?_
    refine TieS.region ?_
    refine TieO.run 3 rfl ?_
    refine TieO.call _ rfl rfl rfl (tie_arbiter_Bounds l low high) (fun _ => rfl) fun r3 => ?_
    refine TieO.run 6 rfl ?_
    refine TieO.nil ?_
    refine TieS.seq ?_
    refine TieS.seq ?_
    refine TieS.region ?_
    refine TieO.run 3 rfl ?_
    refine TieO.selOr (v := (r3.2 != 0)) 3 46 (fun b => ⟨[(0, .t (tS enc_SRequest l)), (1, .t (tI low)), (2, .t (tI high)), (7, .ptr 7 0), (9, .ptr 9 0), (49, .t (tB b))], [(7, .box [.t (tI r2.1.Torque), .t (tI r2.1.Source)]), (9, .box [.t (tI r3.1.Low), .t (tI r3.1.High)])]⟩) rfl ?_ ?_ ?_
    · refine TieO.run 3 rfl ?_
      refine TieO.nil ?_
      exact TieS.leaf ⟨rfl, .of rfl rfl⟩
    · refine TieO.run 3 rfl ?_
      refine TieO.nil ?_
      exact TieS.leaf ⟨rfl, .of rfl rfl⟩
    refine TieO.run 1 rfl ?_
    refine TieO.selOr (v := (r2.1.Torque != r3.1.Low)) 6 50 (fun b => ⟨[(0, .t (tS enc_SRequest l)), (1, .t (tI low)), (2, .t (tI high)), (7, .ptr 7 0), (9, .ptr 9 0), (56, .t (tB b))], [(7, .box [.t (tI r2.1.Torque), .t (tI r2.1.Source)]), (9, .box [.t (tI r3.1.Low), .t (tI r3.1.High)])]⟩) rfl ?_ ?_ ?_
    · refine TieO.run 6 rfl ?_
      refine TieO.nil ?_
      exact TieS.leaf ⟨rfl, .of rfl rfl⟩
    · refine TieO.run 6 rfl ?_
      refine TieO.nil ?_
      exact TieS.leaf ⟨rfl, .of rfl rfl⟩
    refine TieO.run 1 rfl ?_
    refine TieO.selOr (v := decide (r3.1.Low > r3.1.High)) 6 57 (fun b => ⟨[(0, .t (tS enc_SRequest l)), (1, .t (tI low)), (2, .t (tI high)), (7, .ptr 7 0), (9, .ptr 9 0), (63, .t (tB b))], [(7, .box [.t (tI r2.1.Torque), .t (tI r2.1.Source)]), (9, .box [.t (tI r3.1.Low), .t (tI r3.1.High)])]⟩) rfl ?_ ?_ ?_
    · refine TieO.run 6 rfl ?_
      refine TieO.nil ?_
      exact TieS.leaf ⟨rfl, .of rfl rfl⟩
    · refine TieO.run 6 rfl ?_
      refine TieO.nil ?_
      exact TieS.leaf ⟨rfl, .of rfl rfl⟩
    refine TieO.run 1 rfl ?_
    refine TieO.selOr (v := decide (r3.1.Low < low)) 5 64 (fun b => ⟨[(0, .t (tS enc_SRequest l)), (1, .t (tI low)), (2, .t (tI high)), (7, .ptr 7 0), (9, .ptr 9 0), (69, .t (tB b))], [(7, .box [.t (tI r2.1.Torque), .t (tI r2.1.Source)]), (9, .box [.t (tI r3.1.Low), .t (tI r3.1.High)])]⟩) rfl ?_ ?_ ?_
    · refine TieO.run 5 rfl ?_
      refine TieO.nil ?_
      exact TieS.leaf ⟨rfl, .of rfl rfl⟩
    · refine TieO.run 5 rfl ?_
      refine TieO.nil ?_
      exact TieS.leaf ⟨rfl, .of rfl rfl⟩
    refine TieO.run 1 rfl ?_
    refine TieO.selOr (v := decide (r3.1.High > high)) 5 70 (fun b => ⟨[(0, .t (tS enc_SRequest l)), (1, .t (tI low)), (2, .t (tI high)), (7, .ptr 7 0), (9, .ptr 9 0), (75, .t (tB b))], [(7, .box [.t (tI r2.1.Torque), .t (tI r2.1.Source)]), (9, .box [.t (tI r3.1.Low), .t (tI r3.1.High)])]⟩) rfl ?_ ?_ ?_
    · refine TieO.run 5 rfl ?_
      refine TieO.nil ?_
      exact TieS.leaf ⟨rfl, .of rfl rfl⟩
    · refine TieO.run 5 rfl ?_
      refine TieO.nil ?_
      exact TieS.leaf ⟨rfl, .of rfl rfl⟩
    refine TieO.nil ?_
    refine TieS.cond rfl ?_ ?_
    · refine TieS.seq ?_
      refine TieS.region ?_
      refine TieO.run 1 rfl ?_
      refine TieO.nil ?_
      exact TieS.ret ⟨.inl rfl, rfl⟩
    · refine TieS.skip ?_
      refine TieS.seq ?_
      refine TieS.seq ?_
      refine TieS.region ?_
      refine TieO.run 3 rfl ?_
      refine TieO.nil ?_
      refine TieS.cond rfl ?_ ?_
      · refine TieS.seq ?_
        refine TieS.region ?_
        refine TieO.run 4 rfl ?_
        refine TieO.eqS [.int .i64 r3.1.Low, .int .i64 r3.1.High] [.int .i64 low, .int .i64 high] (eqv_30 r3.1.Low r3.1.High low high) rfl rfl rfl rfl rfl rfl ?_
        refine TieO.run 1 rfl ?_
        refine TieO.selAnd (v := (r2.1.Source == (-1))) 4 84 (fun b => ⟨[(88, .t (tB b))], []⟩) rfl ?_ ?_ ?_
        · refine TieO.run 4 rfl ?_
          refine TieO.nil ?_
          exact TieS.leaf ⟨rfl, .of rfl rfl⟩
        · refine TieO.run 4 rfl ?_
          refine TieO.nil ?_
          exact TieS.leaf ⟨rfl, .of rfl rfl⟩
        refine TieO.run 1 rfl ?_
        refine TieO.nil ?_
        exact TieS.ret ⟨.inl rfl, rfl⟩
      · refine TieS.skip ?_
        refine TieS.seq ?_
        refine TieS.region ?_
        refine TieO.run 1 rfl ?_
        refine TieO.index rfl rfl rfl rfl rfl rfl rfl rfl (fun _ => rfl) fun x hx => ?_
        refine TieO.run 3 rfl ?_
        refine TieO.nil ?_
        refine TieS.seq ?_
        refine TieS.seq ?_
        refine TieS.region ?_
        refine TieO.run 3 rfl ?_
        refine TieO.nil ?_
        refine TieS.block ?_
        refine TieS.loop (fun p => ⟨[(1, .t (tI low)), (2, .t (tI high)), (9, .ptr 9 0), (11, .ptr 11 0), (92, .t (tS enc_SRequest l)), (93, .t (tI (l.length : Int))), (94, .t (tI p.1))], [(9, .box [.t (tI r3.1.Low), .t (tI r3.1.High)]), (11, .box [.t (tI p.2.Source), .t (tI p.2.Kind), .t (tI p.2.Torque), .t (tI p.2.Priority)])]⟩) (fun b e σ' => match b with | .inl t => e = .exit 0 ∧ Sub ⟨[(1, .t (tI low)), (2, .t (tI high)), (9, .ptr 9 0), (11, .ptr 11 0)], [(9, .box [.t (tI r3.1.Low), .t (tI r3.1.High)]), (11, .box [.t (tI t.Source), .t (tI t.Kind), .t (tI t.Torque), .t (tI t.Priority)])]⟩ σ' | .inr t => False) (.of rfl rfl) ?_ ?_
        · rintro ⟨i, f2⟩
          refine TieS.seq ?_
          refine TieS.region ?_
          refine TieO.run 1 rfl ?_
          refine TieO.nil ?_
          refine TieS.seq ?_
          refine TieS.cond rfl ?_ ?_
          · refine TieS.skip ?_
            refine TieS.seq ?_
            refine TieX.pre fun x2 hx2 => ?_
            refine TieX.sub (σ' := ⟨[(1, .t (tI low)), (2, .t (tI high)), (9, .ptr 9 0), (11, .ptr 11 0), (92, .t (tS enc_SRequest l)), (93, .t (tI (l.length : Int))), (94, .t (tI i))], [(9, .box [.t (tI r3.1.Low), .t (tI r3.1.High)]), (11, .box [.t (tI f2.Source), .t (tI f2.Kind), .t (tI f2.Torque), .t (tI f2.Priority)])]⟩) (.of rfl rfl) ?_
            refine TieS.bind (Q₁ := fun f e σ' => match f with | .next t => e = .normal ∧ Sub ⟨[(1, .t (tI low)), (2, .t (tI high)), (9, .ptr 9 0), (11, .ptr 11 0), (92, .t (tS enc_SRequest l)), (93, .t (tI (l.length : Int))), (94, .t (tI i))], [(9, .box [.t (tI r3.1.Low), .t (tI r3.1.High)]), (11, .box [.t (tI t.Source), .t (tI t.Kind), .t (tI t.Torque), .t (tI t.Priority)])]⟩ σ' | .brk t => e = .exit 0 ∧ Sub ⟨[(1, .t (tI low)), (2, .t (tI high)), (9, .ptr 9 0), (11, .ptr 11 0)], [(9, .box [.t (tI r3.1.Low), .t (tI r3.1.High)]), (11, .box [.t (tI t.Source), .t (tI t.Kind), .t (tI t.Torque), .t (tI t.Priority)])]⟩ σ' | .ret r => False) ?_ ?_
            · refine TieS.block ?_
              refine TieS.seq ?_
              refine TieS.region ?_
              refine TieO.indexH hx2 rfl rfl rfl rfl rfl rfl rfl rfl (fun _ => rfl) ?_
              refine TieO.run 3 rfl ?_
              refine TieO.nil ?_
              refine TieS.seq ?_
              refine TieS.region ?_
              refine TieO.run 5 rfl ?_
              refine TieO.nil ?_
              refine TieS.cond rfl ?_ ?_
              · refine TieS.region ?_
                refine TieO.run 2 rfl ?_
                refine TieO.nil ?_
                refine TieS.endb ?_
                exact TieS.leaf ⟨rfl, .of rfl rfl⟩
              · refine TieS.skip ?_
                refine TieS.endb ?_
                exact TieS.leaf ⟨rfl, .of rfl rfl⟩
            rintro (t | t | r) e σ' _ hq
            · obtain ⟨rfl, hs⟩ := hq
              refine TieX.sub hs ?_
              refine TieS.region ?_
              refine TieO.run 2 rfl ?_
              refine TieO.nil ?_
              exact TieS.leaf ⟨rfl, .of rfl rfl⟩
            · obtain ⟨rfl, hs⟩ := hq
              exact TieX.exitOut rfl ⟨(fun h => by cases h), rfl, hs⟩
            · exact hq.elim
          · exact TieS.exitOut rfl ⟨(fun h => by cases h), rfl, .of rfl rfl⟩
        rintro (f3 | r) e σ' _ hq
        · obtain ⟨rfl, hs⟩ := hq
          refine TieX.exit rfl (TieX.sub hs ?_)
          refine TieS.seq ?_
          refine TieS.region ?_
          refine TieO.run 7 rfl ?_
          refine TieO.nil ?_
          refine TieS.seq ?_
          refine TieS.region ?_
          refine TieO.run 4 rfl ?_
          refine TieO.selOr (v := decide (r3.1.High ≤ (maxI low (minI high f3.Torque)))) 5 114 (fun b => ⟨[(9, .ptr 9 0), (11, .ptr 11 0), (14, .t (tI (maxI low (minI high f3.Torque)))), (119, .t (tB b))], [(9, .box [.t (tI r3.1.Low), .t (tI r3.1.High)]), (11, .box [.t (tI f3.Source), .t (tI f3.Kind), .t (tI f3.Torque), .t (tI f3.Priority)])]⟩) rfl ?_ ?_ ?_
          · refine TieO.run 5 rfl ?_
            refine TieO.nil ?_
            exact TieS.leaf ⟨rfl, .of rfl rfl⟩
          · refine TieO.run 5 rfl ?_
            refine TieO.nil ?_
            exact TieS.leaf ⟨rfl, .of rfl rfl⟩
          refine TieO.run 1 rfl ?_
          refine TieO.frzBox 9 rfl rfl ?_
          refine TieO.frzBox 11 rfl rfl ?_
          refine TieO.bind 10 (fun b3 => ⟨[(130, .t (tB b3))], []⟩) (TieO.split 120 rfl ?_ ?_) fun b3 _ => ?_
          · refine TieO.run 4 rfl ?_
            refine TieO.selOr (v := decide (r3.1.Low ≥ (maxI low (minI high f3.Torque)))) 5 124 (fun b => ⟨[(120, .t (tB true)), (129, .t (tB b))], []⟩) rfl ?_ ?_ ?_
            · refine TieO.run 5 rfl ?_
              refine TieO.nil ?_
              exact TieS.leaf ⟨rfl, .of rfl rfl⟩
            · refine TieO.run 5 rfl ?_
              refine TieO.nil ?_
              exact TieS.leaf ⟨rfl, .of rfl rfl⟩
            refine TieO.run 1 rfl ?_
            refine TieO.nil ?_
            exact TieS.leaf ⟨rfl, .of rfl rfl⟩
          · refine TieO.run 10 rfl ?_
            refine TieO.nil ?_
            exact TieS.leaf ⟨rfl, .of rfl rfl⟩
          refine TieO.run 1 rfl ?_
          refine TieO.nil ?_
          exact TieS.ret ⟨.inl rfl, rfl⟩
        · exact hq.elim
-- slices.Grow[[]magneto/api.Request,magneto/api.Request]
set_option maxRecDepth 100000 in
theorem tie_slices_Grow_sRequest (n2 : Int) : TieG Try.prog 33 [.t (.v (.slice none 0 0)), .t (tI n2)] [] (slices_Grow_sRequest n2) (fun _ => .own 900000) (fun r => [(900000, .rows 35 4 r.length (r.map enc_SRequest))]) := by
  refine TieG.intro htab 27 [.tmp 4] Try.call33 Try.func33 rfl rfl rfl (Nat.le_of_ble_eq_true rfl) fun w0 L => ?_
  refine TieS.seq ?_
  refine TieS.region ?_
  refine TieO.run 1 rfl ?_
  refine TieO.nil ?_
  refine TieS.seq ?_
  refine TieS.seq ?_
  refine TieS.region ?_
  refine TieO.run 2 rfl ?_
  refine TieO.nil ?_
  refine TieS.bind (Q₁ := fun t e σ' => e = .normal ∧ Sub ⟨[(0, .t (.v (.slice none 0 0))), (1, .t (tI n2))], []⟩ σ') ?_ ?_
  · refine TieS.cond rfl ?_ ?_
    · refine TieS.region ?_
      exact TieO.fail
    · refine TieS.skip ?_
      exact TieS.leaf ⟨rfl, .of rfl rfl⟩
  rintro s e σ' _ ⟨rfl, hs⟩
  refine TieX.sub hs ?_
  refine TieS.seq ?_
  refine TieS.seq ?_
  refine TieS.region ?_
  refine TieO.run 2 rfl ?_
  refine TieO.capNil rfl rfl rfl rfl rfl rfl ?_
  refine TieO.run 5 rfl ?_
  refine TieO.nil ?_
  refine TieS.seq ?_
  refine TieS.region ?_
  refine TieO.run 2 rfl ?_
  refine TieO.nil ?_
  refine TieS.cond rfl ?_ ?_
  · refine TieS.region ?_
    refine TieO.run 2 rfl ?_
    refine TieO.capNil rfl rfl rfl rfl rfl rfl ?_
    refine TieO.sliceNil rfl rfl rfl rfl rfl rfl rfl rfl ?_
    refine TieO.run 1 rfl ?_
    refine TieO.appendN (enc := enc_SRequest) 2176 (⟨0, 0, 0, 0⟩ : SRequest) rfl rfl rfl rfl rfl rfl rfl rfl rfl rfl rfl rfl rfl rfl rfl fun l hl => ?_
    refine TieO.run 2 rfl ?_
    refine TieO.sliceO (id' := 2200) (tm' := [(0, .t (.v (.slice none 0 0))), (1, .t (tI (w64 (n2 - (w64 (0 - 0)))))), (8, .t (tI n2)), (9, .t (.v (.slice none 0 0))), (10, .t (tI 0)), (11, .t (.v (.slice none 0 0))), (12, .t (tI 0)), (13, .t (tI (w64 (0 - 0)))), (14, .t (tI (w64 (n2 - (w64 (0 - 0)))))), (15, .t (tI (w64 (n2 - (w64 (0 - 0)))))), (16, .t (tB (decide ((w64 (n2 - (w64 (0 - 0)))) > 0)))), (17, .t (.v (.slice none 0 0))), (18, .t (.v (.slice none 0 0))), (19, .t (tI 0)), (20, .t (.v (.slice none 0 0))), (21, .t (tI (w64 (n2 - (w64 (0 - 0)))))), (23, .t (.v (.slice none 0 0))), (24, .t (tI 0))]) (hp' := []) rfl rfl rfl rfl rfl rfl rfl rfl rfl (.of rfl rfl) rfl rfl rfl rfl fun l2 hl2 => ?_
    refine TieO.run 1 rfl ?_
    refine TieO.nil ?_
    refine TieS.seq ?_
    refine TieS.region ?_
    refine TieO.run 2 rfl ?_
    refine TieO.nil ?_
    exact TieS.ret ⟨.inl rfl, ⟨[(2200, 900000)], _, _, rfl, rfl, rfl, rfl, rfl⟩⟩
  · refine TieS.skip ?_
    refine TieS.seq ?_
    refine TieS.region ?_
    refine TieO.run 2 rfl ?_
    refine TieO.nil ?_
    refine TieX.nilP 4 70000 35 4 [] rfl rfl rfl rfl rfl ?_
    exact TieS.ret ⟨.inl rfl, ⟨[(70000, 900000)], _, _, rfl, rfl, rfl, rfl, rfl⟩⟩
-- slices.Concat[[]magneto/api.Request,magneto/api.Request]
set_option maxRecDepth 100000 in
theorem tie_slices_Concat_sRequest (slices : List (List SRequest)) : TieG Try.prog 24 [.t (tS (Pv.encS enc_SRequest) slices)] [] (slices_Concat_sRequest slices) (fun _ => .own 900000) (fun r => [(900000, .rows 35 4 r.length (r.map enc_SRequest))]) := by
  refine TieG.intro htab 36 [.tmp 2] Try.call24 Try.func24 rfl rfl rfl (Nat.le_of_ble_eq_true rfl) fun w0 L => ?_
  refine TieS.seq ?_
  refine TieS.region ?_
  refine TieO.run 1 rfl ?_
  refine TieO.nil ?_
  refine TieS.seq ?_
  refine TieS.region ?_
  refine TieO.run 1 rfl ?_
  refine TieO.nil ?_
  refine TieS.seq ?_
  refine TieS.seq ?_
  refine TieS.region ?_
  refine TieO.run 3 rfl ?_
  refine TieO.nil ?_
  refine TieS.block ?_
  refine TieS.loop (fun p => ⟨[(0, .t (tS (Pv.encS enc_SRequest) slices)), (3, .t (tI p.2)), (9, .t (tS (Pv.encS enc_SRequest) slices)), (10, .t (tI (slices.length : Int))), (11, .t (tI p.1))], []⟩) (fun b e σ' => match b with | .inl t => e = .exit 0 ∧ Sub ⟨[(0, .t (tS (Pv.encS enc_SRequest) slices)), (3, .t (tI t))], []⟩ σ' | .inr t => False) (.of rfl rfl) ?_ ?_
  · rintro ⟨i, size⟩
    refine TieS.seq ?_
    refine TieS.region ?_
    refine TieO.run 1 rfl ?_
    refine TieO.nil ?_
    refine TieS.seq ?_
    refine TieS.cond rfl ?_ ?_
    · refine TieS.skip ?_
      refine TieS.seq ?_
      refine TieX.pre fun x hx => ?_
      refine TieX.sub (σ' := ⟨[(0, .t (tS (Pv.encS enc_SRequest) slices)), (3, .t (tI size)), (9, .t (tS (Pv.encS enc_SRequest) slices)), (10, .t (tI (slices.length : Int))), (11, .t (tI i))], []⟩) (.of rfl rfl) ?_
      refine TieS.bind (Q₁ := fun f e σ' => match f with | .next t => e = .normal ∧ Sub ⟨[(0, .t (tS (Pv.encS enc_SRequest) slices)), (3, .t (tI t)), (9, .t (tS (Pv.encS enc_SRequest) slices)), (10, .t (tI (slices.length : Int))), (11, .t (tI i))], []⟩ σ' | .brk t => e = .exit 0 ∧ Sub ⟨[(0, .t (tS (Pv.encS enc_SRequest) slices)), (3, .t (tI t))], []⟩ σ' | .ret r => False) ?_ ?_
      · refine TieS.block ?_
        refine TieS.seq ?_
        refine TieS.region ?_
        refine TieO.indexH hx rfl rfl rfl rfl rfl rfl rfl rfl (fun _ => rfl) ?_
        refine TieO.run 2 rfl ?_
        refine TieO.nil ?_
        refine TieS.seq ?_
        refine TieS.region ?_
        refine TieO.run 5 rfl ?_
        refine TieO.nil ?_
        refine TieS.seq ?_
        refine TieS.region ?_
        refine TieO.run 2 rfl ?_
        refine TieO.nil ?_
        refine TieS.cond rfl ?_ ?_
        · refine TieS.region ?_
          exact TieO.fail
        · refine TieS.skip ?_
          refine TieS.endb ?_
          exact TieS.leaf ⟨rfl, .of rfl rfl⟩
      rintro (t | t | r) e σ' _ hq
      · obtain ⟨rfl, hs⟩ := hq
        refine TieX.sub hs ?_
        refine TieS.region ?_
        refine TieO.run 2 rfl ?_
        refine TieO.nil ?_
        exact TieS.leaf ⟨rfl, .of rfl rfl⟩
      · obtain ⟨rfl, hs⟩ := hq
        exact TieX.exitOut rfl ⟨(fun h => by cases h), rfl, hs⟩
      · exact hq.elim
    · exact TieS.exitOut rfl ⟨(fun h => by cases h), rfl, .of rfl rfl⟩
  rintro (size2 | r) e σ' _ hq
  · obtain ⟨rfl, hs⟩ := hq
    refine TieX.exit rfl (TieX.sub hs ?_)
    refine TieS.seq ?_
    refine TieS.region ?_
    refine TieO.run 1 rfl ?_
    refine TieO.callG [] [(900000, 2192)] (fun v => ⟨[(0, .t (tS (Pv.encS enc_SRequest) slices)), (3, .t (tI size2)), (23, .t (tI size2)), (24, .own 2192)], [(2192, .rows 35 4 v.length (v.map enc_SRequest))]⟩) (tie_slices_Grow_sRequest size2) rfl rfl rfl rfl rfl rfl rfl (fun _ => rfl) (fun _ => rfl) (fun _ => rfl) (fun _ => .of rfl rfl) fun v hv => ?_
    refine TieO.run 1 rfl ?_
    refine TieO.nil ?_
    refine TieS.seq ?_
    refine TieS.seq ?_
    refine TieS.region ?_
    refine TieO.run 3 rfl ?_
    refine TieO.nil ?_
    refine TieS.block ?_
    refine TieS.loop (fun p => ⟨[(6, .own 2192), (25, .t (tS (Pv.encS enc_SRequest) slices)), (26, .t (tI (slices.length : Int))), (27, .t (tI p.1))], [(2192, .rows 35 4 p.2.length (p.2.map enc_SRequest))]⟩) (fun b e σ' => match b with | .inl t => e = .exit 2 ∧ Sub ⟨[(6, .own 2192)], [(2192, .rows 35 4 t.length (t.map enc_SRequest))]⟩ σ' | .inr t => False) (.of rfl rfl) ?_ ?_
    · rintro ⟨i2, f2⟩
      refine TieS.seq ?_
      refine TieS.region ?_
      refine TieO.run 1 rfl ?_
      refine TieO.nil ?_
      refine TieS.seq ?_
      refine TieS.cond rfl ?_ ?_
      · refine TieS.skip ?_
        refine TieS.seq ?_
        refine TieX.pre fun x2 hx2 => ?_
        refine TieX.sub (σ' := ⟨[(6, .own 2192), (25, .t (tS (Pv.encS enc_SRequest) slices)), (26, .t (tI (slices.length : Int))), (27, .t (tI i2))], [(2192, .rows 35 4 f2.length (f2.map enc_SRequest))]⟩) (.of rfl rfl) ?_
        refine TieS.bind (Q₁ := fun f e σ' => match f with | .next t => e = .normal ∧ Sub ⟨[(6, .own 2192), (25, .t (tS (Pv.encS enc_SRequest) slices)), (26, .t (tI (slices.length : Int))), (27, .t (tI i2))], [(2192, .rows 35 4 t.length (t.map enc_SRequest))]⟩ σ' | .brk t => e = .exit 2 ∧ Sub ⟨[(6, .own 2192)], [(2192, .rows 35 4 t.length (t.map enc_SRequest))]⟩ σ' | .ret r => False) ?_ ?_
        · refine TieS.block ?_
          refine TieS.seq ?_
          refine TieS.region ?_
          refine TieO.indexH hx2 rfl rfl rfl rfl rfl rfl rfl rfl (fun _ => rfl) ?_
          refine TieO.run 2 rfl ?_
          refine TieO.nil ?_
          refine TieS.region ?_
          refine TieO.run 2 rfl ?_
          refine TieO.appendY (id := 2192) (e' := 0) (l := f2) (r := x2) (tm' := [(8, .t (tS enc_SRequest x2)), (25, .t (tS (Pv.encS enc_SRequest) slices)), (26, .t (tI (slices.length : Int))), (27, .t (tI i2)), (29, .el ((Pv.encS enc_SRequest) x2)), (30, .t (tS enc_SRequest x2)), (32, .t (tS enc_SRequest x2))]) (hp' := []) rfl rfl rfl rfl rfl rfl rfl (fun _ => rfl) (fun _ => rfl) (.inl ⟨rfl, rfl⟩) (.inl rfl) (.of rfl rfl) rfl rfl rfl fun l => ?_
          refine TieO.run 1 rfl ?_
          refine TieO.nil ?_
          refine TieS.endb ?_
          exact TieS.leaf ⟨rfl, .of rfl rfl⟩
        rintro (t | t | r) e σ' _ hq
        · obtain ⟨rfl, hs⟩ := hq
          refine TieX.sub hs ?_
          refine TieS.region ?_
          refine TieO.run 2 rfl ?_
          refine TieO.nil ?_
          exact TieS.leaf ⟨rfl, .of rfl rfl⟩
        · obtain ⟨rfl, hs⟩ := hq
          exact TieX.exitOut rfl ⟨(fun h => by cases h), rfl, hs⟩
        · exact hq.elim
      · exact TieS.exitOut rfl ⟨(fun h => by cases h), rfl, .of rfl rfl⟩
    rintro (f3 | r) e σ' _ hq
    · obtain ⟨rfl, hs⟩ := hq
      refine TieX.exit rfl (TieX.sub hs ?_)
      refine TieS.seq ?_
      refine TieS.region ?_
      refine TieO.run 2 rfl ?_
      refine TieO.nil ?_
      exact TieS.ret ⟨.inl rfl, ⟨[(2192, 900000)], _, _, rfl, rfl, rfl, rfl, rfl⟩⟩
    · exact hq.elim
  · exact hq.elim
-- slices.Index[[]int,int]
set_option maxRecDepth 100000 in
theorem tie_slices_Index_sint (s : List Int) (v : Int) : TieF Try.prog 34 [.t (tS Pv.encI s), .t (tI v)] (slices_Index_sint s v) (fun r => .t (tI r)) := by
  refine TieF.intro htab 19 [.tmp 4] Try.call34 Try.func34 rfl rfl rfl (Nat.le_of_ble_eq_true rfl) fun w0 L => ?_
  refine TieS.seq ?_
  refine TieS.region ?_
  refine TieO.run 1 rfl ?_
  refine TieO.nil ?_
  refine TieS.seq ?_
  refine TieS.seq ?_
  refine TieS.region ?_
  refine TieO.run 3 rfl ?_
  refine TieO.nil ?_
  refine TieS.block ?_
  refine TieS.loop (fun p => ⟨[(0, .t (tS Pv.encI s)), (1, .t (tI v)), (7, .t (tI (s.length : Int))), (8, .t (tI p.1))], []⟩) (fun b e σ' => match b with | .inl t => e = .exit 0 ∧ Sub ⟨[], []⟩ σ' | .inr t => e = .ret ∧ retT tab σ' [.tmp 4] = some (((fun r => .t (tI r)) : Int → T) t)) (.of rfl rfl) ?_ ?_
  · rintro ⟨i, s2⟩
    refine TieS.seq ?_
    refine TieS.region ?_
    refine TieO.run 1 rfl ?_
    refine TieO.nil ?_
    refine TieS.seq ?_
    refine TieS.cond rfl ?_ ?_
    · refine TieS.skip ?_
      refine TieS.seq ?_
      refine TieX.sub (σ' := ⟨[(0, .t (tS Pv.encI s)), (1, .t (tI v)), (7, .t (tI (s.length : Int))), (8, .t (tI i))], []⟩) (.of rfl rfl) ?_
      refine TieS.bind (Q₁ := fun f e σ' => match f with | .next t => e = .normal ∧ Sub ⟨[(0, .t (tS Pv.encI s)), (1, .t (tI v)), (7, .t (tI (s.length : Int))), (8, .t (tI i))], []⟩ σ' | .brk t => e = .exit 0 ∧ Sub ⟨[], []⟩ σ' | .ret t => e = .ret ∧ retT tab σ' [.tmp 4] = some (((fun r => .t (tI r)) : Int → T) t)) ?_ ?_
      · refine TieS.block ?_
        refine TieS.seq ?_
        refine TieS.region ?_
        refine TieO.run 2 rfl ?_
        refine TieO.nil ?_
        refine TieS.seq ?_
        refine TieS.region ?_
        refine TieO.run 3 rfl ?_
        refine TieO.index rfl rfl rfl rfl rfl rfl rfl rfl (fun _ => rfl) fun x hx => ?_
        refine TieO.run 2 rfl ?_
        refine TieO.nil ?_
        refine TieS.cond rfl ?_ ?_
        · refine TieS.seq ?_
          refine TieS.region ?_
          refine TieO.run 2 rfl ?_
          refine TieO.nil ?_
          exact TieS.ret ⟨rfl, rfl⟩
        · refine TieS.skip ?_
          refine TieS.endb ?_
          exact TieS.leaf ⟨rfl, .of rfl rfl⟩
      rintro (t | t | t) e σ' _ hq
      · obtain ⟨rfl, hs⟩ := hq
        refine TieX.sub hs ?_
        refine TieS.region ?_
        refine TieO.run 2 rfl ?_
        refine TieO.nil ?_
        exact TieS.leaf ⟨rfl, .of rfl rfl⟩
      · obtain ⟨rfl, hs⟩ := hq
        exact TieX.exitOut rfl ⟨(fun h => by cases h), rfl, hs⟩
      · obtain ⟨rfl, hs⟩ := hq
        exact TieX.ret ⟨(fun h => by cases h), rfl, hs⟩
    · exact TieS.exitOut rfl ⟨(fun h => by cases h), rfl, .of rfl rfl⟩
  rintro (s3 | r2) e σ' _ hq
  · obtain ⟨rfl, hs⟩ := hq
    refine TieX.exit rfl (TieX.sub hs ?_)
    refine TieS.seq ?_
    refine TieS.region ?_
    refine TieO.run 1 rfl ?_
    refine TieO.nil ?_
    exact TieS.ret ⟨.inl rfl, rfl⟩
  · obtain ⟨rfl, hs⟩ := hq
    exact TieX.ret ⟨.inl rfl, hs⟩
-- slices.Contains[[]int,int]
set_option maxRecDepth 100000 in
theorem tie_slices_Contains_sint (s : List Int) (v : Int) : TieF Try.prog 26 [.t (tS Pv.encI s), .t (tI v)] (slices_Contains_sint s v) (fun r => .t (tB r)) := by
  refine TieF.intro htab 9 [.tmp 4] Try.call26 Try.func26 rfl rfl rfl (Nat.le_of_ble_eq_true rfl) fun w0 L => ?_
  refine TieS.seq ?_
  refine TieS.region ?_
  refine TieO.run 1 rfl ?_
  refine TieO.nil ?_
  refine TieS.seq ?_
  refine TieS.region ?_
  refine TieO.run 2 rfl ?_
  refine TieO.call _ rfl rfl rfl (tie_slices_Index_sint s v) (fun _ => rfl) fun v2 => ?_
  refine TieO.run 2 rfl ?_
  refine TieO.nil ?_
  exact TieS.ret ⟨.inl rfl, rfl⟩
-- magneto/magnetolaw36.ArbiterLeaves
set_option maxRecDepth 100000 in
theorem tie_magnetolaw36_ArbiterLeaves (l : List SRequest) (low : Int) (high : Int) (which : Int) : TieF Try.prog 9 [.t (tS enc_SRequest l), .t (tI low), .t (tI high), .t (tK .u8 which)] (magnetolaw36_ArbiterLeaves l low high which) (fun r => .t (tB r)) := by
  refine TieF.intro htab 141 [.tmp 8] Try.call9 Try.func9 rfl rfl rfl (Nat.le_of_ble_eq_true rfl) fun w0 L => ?_
  refine TieS.seq ?_
  refine TieS.region ?_
  refine TieO.run 1 rfl ?_
  refine TieO.nil ?_
  refine TieS.seq ?_
  refine TieS.seq ?_
  refine TieS.region ?_
  refine TieO.call _ rfl rfl rfl (tie_magnetolaw36_awake) (fun _ => rfl) fun v => ?_
  refine TieO.run 2 rfl ?_
  refine TieO.selOr (v := decide ((l.length : Int) > 32)) 4 25 (fun b => ⟨[(0, .t (tS enc_SRequest l)), (1, .t (tI low)), (2, .t (tI high)), (3, .t (tK .u8 which)), (29, .t (tB b))], []⟩) rfl ?_ ?_ ?_
  · refine TieO.run 4 rfl ?_
    refine TieO.nil ?_
    exact TieS.leaf ⟨rfl, .of rfl rfl⟩
  · refine TieO.run 4 rfl ?_
    refine TieO.nil ?_
    exact TieS.leaf ⟨rfl, .of rfl rfl⟩
  refine TieO.run 1 rfl ?_
  refine TieO.selOr (v := ((l.length : Int) == 0)) 4 30 (fun b => ⟨[(0, .t (tS enc_SRequest l)), (1, .t (tI low)), (2, .t (tI high)), (3, .t (tK .u8 which)), (34, .t (tB b))], []⟩) rfl ?_ ?_ ?_
  · refine TieO.run 4 rfl ?_
    refine TieO.nil ?_
    exact TieS.leaf ⟨rfl, .of rfl rfl⟩
  · refine TieO.run 4 rfl ?_
    refine TieO.nil ?_
    exact TieS.leaf ⟨rfl, .of rfl rfl⟩
  refine TieO.run 1 rfl ?_
  refine TieO.bind 6 (fun b2 => ⟨[(0, .t (tS enc_SRequest l)), (1, .t (tI low)), (2, .t (tI high)), (3, .t (tK .u8 which)), (41, .t (tB b2))], []⟩) (TieO.split 35 rfl ?_ ?_) fun b2 _ => ?_
  · refine TieO.run 6 rfl ?_
    refine TieO.nil ?_
    exact TieS.leaf ⟨rfl, .of rfl rfl⟩
  · refine TieO.run 3 rfl ?_
    refine TieO.call _ rfl rfl rfl (tie_magnetoref36_Check l low high) (fun _ => rfl) fun v2 => ?_
    refine TieO.run 2 rfl ?_
    refine TieO.nil ?_
    exact TieS.leaf ⟨rfl, .of rfl rfl⟩
  refine TieO.nil ?_
  refine TieS.cond rfl ?_ ?_
  · refine TieS.seq ?_
    refine TieS.region ?_
    refine TieO.call _ rfl rfl rfl (tie_magnetolaw36_awake) (fun _ => rfl) fun v3 => ?_
    refine TieO.run 1 rfl ?_
    refine TieO.nil ?_
    exact TieS.ret ⟨.inl rfl, rfl⟩
  · refine TieS.skip ?_
    refine TieS.seq ?_
    refine TieS.region ?_
    refine TieO.run 4 rfl ?_
    refine TieO.rem rfl rfl rfl rfl rfl rfl fun q => ?_
    refine TieO.run 1 rfl ?_
    refine TieO.nil ?_
    refine TieS.seq ?_
    refine TieS.region ?_
    refine TieO.run 3 rfl ?_
    refine TieO.call _ rfl rfl rfl (tie_arbiter_Explain l low high) (fun _ => rfl) fun r2 => ?_
    refine TieO.run 5 rfl ?_
    refine TieO.nil ?_
    refine TieS.seq ?_
    refine TieS.seq ?_
    refine TieS.region ?_
    refine TieO.run 2 rfl ?_
    refine TieO.nil ?_
    refine TieS.cond rfl ?_ ?_
    · refine TieS.seq ?_
      refine TieS.region ?_
      refine TieO.run 1 rfl ?_
      refine TieO.nil ?_
      exact TieS.ret ⟨.inl rfl, rfl⟩
    · refine TieS.skip ?_
      refine TieS.seq ?_
      refine TieS.seq ?_
      refine TieS.region ?_
      refine TieO.run 3 rfl ?_
      refine TieO.index rfl rfl rfl rfl rfl rfl rfl rfl (fun _ => rfl) fun x hx => ?_
      refine TieO.run 2 rfl ?_
      refine TieO.call _ rfl rfl rfl (tie_slices_Contains_sint r2.1 x.Source) (fun _ => rfl) fun v4 => ?_
      refine TieO.nil ?_
      refine TieS.cond rfl ?_ ?_
      · refine TieS.seq ?_
        refine TieS.region ?_
        refine TieO.run 1 rfl ?_
        refine TieO.nil ?_
        exact TieS.ret ⟨.inl rfl, rfl⟩
      · refine TieS.skip ?_
        refine TieS.seq ?_
        refine TieS.bind (Q₁ := fun t e σ' => e = .normal ∧ Sub ⟨[(0, .t (tS enc_SRequest l)), (1, .t (tI low)), (2, .t (tI high)), (10, .t (tS Pv.encI r2.1)), (12, .t (tS enc_SRequest t))], []⟩ σ') ?_ ?_
        · refine TieX.pre fun l2 hl2 => ?_
          refine TieX.pre fun l3 hl3 => ?_
          refine TieS.draws 7 [false, false, false, false, false, false, false, false, false, false] [true, true, true, true, true, true, true, false, false, false] ⟨[(0, .t (tS enc_SRequest l)), (1, .t (tI low)), (2, .t (tI high)), (9, .t (tI q)), (10, .t (tS Pv.encI r2.1)), (64, .t (tS enc_SRequest l)), (65, .t (tI q)), (66, .t (tS enc_SRequest l2)), (67, .t (tS enc_SRequest l)), (68, .t (tI q)), (69, .t (tI (w64 (q + 1)))), (70, .t (tS enc_SRequest l3))], []⟩ mixed (fun _ _ _ h => by cases h.1) rfl rfl rfl rfl ?_ ?_
          · refine TieA.have_ (fuel₁ := 3) (l₁ := [true, true, true, true, true, true, true, false, false, false]) (σ₁ := ⟨[(0, .t (tS enc_SRequest l)), (1, .t (tI low)), (2, .t (tI high)), (9, .t (tI q)), (10, .t (tS Pv.encI r2.1)), (64, .t (tS enc_SRequest l)), (65, .t (tI q)), (66, .t (tS enc_SRequest l2)), (67, .t (tS enc_SRequest l)), (68, .t (tI q)), (69, .t (tI (w64 (q + 1)))), (70, .t (tS enc_SRequest l3))], []⟩) ?_ fun A_2 => ?_
            · exact TieA.done (.of rfl rfl)
            refine TieA.have_ (fuel₁ := 4) (l₁ := [true, true, true, true, true, true, false, false, false, false]) (σ₁ := ⟨[(0, .t (tS enc_SRequest l)), (1, .t (tI low)), (2, .t (tI high)), (9, .t (tI q)), (10, .t (tS Pv.encI r2.1)), (64, .t (tS enc_SRequest l)), (65, .t (tI q)), (66, .t (tS enc_SRequest l2)), (67, .t (tS enc_SRequest l)), (68, .t (tI q)), (69, .t (tI (w64 (q + 1))))], []⟩) ?_ fun A_1 => ?_
            · refine TieA.all [6] (by kernel_rfl) rfl ?_
              refine AllA.cons (σ₁ := ⟨[(0, .t (tS enc_SRequest l)), (1, .t (tI low)), (2, .t (tI high)), (9, .t (tI q)), (10, .t (tS Pv.encI r2.1)), (64, .t (tS enc_SRequest l)), (65, .t (tI q)), (66, .t (tS enc_SRequest l2)), (67, .t (tS enc_SRequest l)), (68, .t (tI q)), (69, .t (tI (w64 (q + 1)))), (70, .t (tS enc_SRequest l3))], []⟩) [true, true, true, true, true, true, true, false, false, false] rfl rfl ?_ A_2 ?_
              · refine TieO.withH hl3 (TieO.sliceF rfl rfl rfl rfl rfl rfl rfl (fun _ => rfl) rfl rfl (TieO.ifG ?_))
                exact TieO.nil (TieS.leaf ⟨rfl, .of rfl rfl⟩)
              exact AllA.nil
            refine TieA.have_ (fuel₁ := 4) (l₁ := [true, true, false, true, true, true, true, false, false, false]) (σ₁ := ⟨[(0, .t (tS enc_SRequest l)), (1, .t (tI low)), (2, .t (tI high)), (9, .t (tI q)), (10, .t (tS Pv.encI r2.1)), (64, .t (tS enc_SRequest l)), (65, .t (tI q)), (67, .t (tS enc_SRequest l)), (68, .t (tI q)), (69, .t (tI (w64 (q + 1)))), (70, .t (tS enc_SRequest l3))], []⟩) ?_ fun A_3 => ?_
            · refine TieA.all [2] (by kernel_rfl) rfl ?_
              refine AllA.cons (σ₁ := ⟨[(0, .t (tS enc_SRequest l)), (1, .t (tI low)), (2, .t (tI high)), (9, .t (tI q)), (10, .t (tS Pv.encI r2.1)), (64, .t (tS enc_SRequest l)), (65, .t (tI q)), (66, .t (tS enc_SRequest l2)), (67, .t (tS enc_SRequest l)), (68, .t (tI q)), (69, .t (tI (w64 (q + 1)))), (70, .t (tS enc_SRequest l3))], []⟩) [true, true, true, true, true, true, true, false, false, false] rfl rfl ?_ A_2 ?_
              · refine TieO.withH hl2 (TieO.sliceF rfl rfl rfl rfl rfl rfl rfl (fun _ => rfl) rfl rfl (TieO.ifG ?_))
                exact TieO.nil (TieS.leaf ⟨rfl, .of rfl rfl⟩)
              exact AllA.nil
            refine TieA.move 0 [true, false, false, false, false, false, false, false, false, false] rfl rfl (by first | exact .inl rfl | exact .inr rfl) rfl rfl rfl (by kernel_rfl) (by kernel_rfl) (by kernel_rfl) rfl ?_
            refine TieA.move 1 [true, true, false, false, false, false, false, false, false, false] rfl rfl (by first | exact .inl rfl | exact .inr rfl) rfl rfl rfl (by kernel_rfl) (by kernel_rfl) (by kernel_rfl) rfl ?_
            refine TieA.move 3 [true, true, false, true, false, false, false, false, false, false] rfl rfl (by first | exact .inl rfl | exact .inr rfl) rfl rfl rfl (by kernel_rfl) (by kernel_rfl) (by kernel_rfl) rfl ?_
            refine TieA.move 4 [true, true, false, true, true, false, false, false, false, false] rfl rfl (by first | exact .inl rfl | exact .inr rfl) rfl rfl rfl (by kernel_rfl) (by kernel_rfl) (by kernel_rfl) rfl ?_
            refine TieA.bin (V := .t (tI (w64 (q + 1)))) 5 [true, true, false, true, true, true, false, false, false, false] rfl rfl rfl rfl rfl rfl (by kernel_rfl) (by kernel_rfl) (by kernel_rfl) rfl rfl rfl rfl ?_
            refine TieA.all [2, 6] (by kernel_rfl) rfl ?_
            refine AllA.cons (σ₁ := ⟨[(0, .t (tS enc_SRequest l)), (1, .t (tI low)), (2, .t (tI high)), (9, .t (tI q)), (10, .t (tS Pv.encI r2.1)), (64, .t (tS enc_SRequest l)), (65, .t (tI q)), (66, .t (tS enc_SRequest l2)), (67, .t (tS enc_SRequest l)), (68, .t (tI q)), (69, .t (tI (w64 (q + 1))))], []⟩) [true, true, true, true, true, true, false, false, false, false] rfl rfl ?_ A_1 ?_
            · refine TieO.withH hl2 (TieO.sliceF rfl rfl rfl rfl rfl rfl rfl (fun _ => rfl) rfl rfl (TieO.ifG ?_))
              exact TieO.nil (TieS.leaf ⟨rfl, .of rfl rfl⟩)
            refine AllA.cons (σ₁ := ⟨[(0, .t (tS enc_SRequest l)), (1, .t (tI low)), (2, .t (tI high)), (9, .t (tI q)), (10, .t (tS Pv.encI r2.1)), (64, .t (tS enc_SRequest l)), (65, .t (tI q)), (67, .t (tS enc_SRequest l)), (68, .t (tI q)), (69, .t (tI (w64 (q + 1)))), (70, .t (tS enc_SRequest l3))], []⟩) [true, true, false, true, true, true, true, false, false, false] rfl rfl ?_ A_3 ?_
            · refine TieO.withH hl3 (TieO.sliceF rfl rfl rfl rfl rfl rfl rfl (fun _ => rfl) rfl rfl (TieO.ifG ?_))
              exact TieO.nil (TieS.leaf ⟨rfl, .of rfl rfl⟩)
            exact AllA.nil
          refine TieO.run 1 rfl ?_
          refine TieO.frz 71 rfl ?_
          refine TieO.call _ rfl rfl rfl (TieG.toF (tie_slices_Concat_sRequest ([l2, l3] : List (List SRequest))) (fun _ => rfl)) (fun _ => rfl) fun v5 => ?_
          refine TieO.run 1 rfl ?_
          refine TieO.nil ?_
          exact TieS.leaf ⟨rfl, .of rfl rfl⟩
        rintro other e σ' _ ⟨rfl, hs⟩
        refine TieX.sub hs ?_
        refine TieS.seq ?_
        refine TieS.region ?_
        refine TieO.run 3 rfl ?_
        refine TieO.call _ rfl rfl rfl (tie_arbiter_Decide l low high) (fun _ => rfl) fun r3 => ?_
        refine TieO.run 6 rfl ?_
        refine TieO.nil ?_
        refine TieS.seq ?_
        refine TieS.region ?_
        refine TieO.run 3 rfl ?_
        refine TieO.call _ rfl rfl rfl (tie_arbiter_Decide other low high) (fun _ => rfl) fun r4 => ?_
        refine TieO.run 6 rfl ?_
        refine TieO.nil ?_
        refine TieS.seq ?_
        refine TieS.region ?_
        refine TieO.run 3 rfl ?_
        refine TieO.call _ rfl rfl rfl (tie_arbiter_Bounds l low high) (fun _ => rfl) fun r5 => ?_
        refine TieO.run 6 rfl ?_
        refine TieO.nil ?_
        refine TieS.seq ?_
        refine TieS.region ?_
        refine TieO.run 3 rfl ?_
        refine TieO.call _ rfl rfl rfl (tie_arbiter_Bounds other low high) (fun _ => rfl) fun r6 => ?_
        refine TieO.run 6 rfl ?_
        refine TieO.nil ?_
        refine TieS.seq ?_
        refine TieS.region ?_
        refine TieO.run 3 rfl ?_
        refine TieO.call _ rfl rfl rfl (tie_arbiter_Explain other low high) (fun _ => rfl) fun r7 => ?_
        refine TieO.run 5 rfl ?_
        refine TieO.nil ?_
        refine TieS.seq ?_
        refine TieS.region ?_
        refine TieO.run 3 rfl ?_
        refine TieO.selAnd (v := (r4.2 == 0)) 3 110 (fun b => ⟨[(10, .t (tS Pv.encI r2.1)), (13, .ptr 13 0), (15, .ptr 15 0), (17, .ptr 17 0), (18, .t (tI r5.2)), (19, .ptr 19 0), (20, .t (tI r6.2)), (21, .t (tS Pv.encI r7.1)), (22, .t (tI r7.2)), (113, .t (tB b))], [(13, .box [.t (tI r3.1.Torque), .t (tI r3.1.Source)]), (15, .box [.t (tI r4.1.Torque), .t (tI r4.1.Source)]), (17, .box [.t (tI r5.1.Low), .t (tI r5.1.High)]), (19, .box [.t (tI r6.1.Low), .t (tI r6.1.High)])]⟩) rfl ?_ ?_ ?_
        · refine TieO.run 3 rfl ?_
          refine TieO.nil ?_
          exact TieS.leaf ⟨rfl, .of rfl rfl⟩
        · refine TieO.run 3 rfl ?_
          refine TieO.nil ?_
          exact TieS.leaf ⟨rfl, .of rfl rfl⟩
        refine TieO.run 1 rfl ?_
        refine TieO.selAnd (v := (r5.2 == 0)) 3 114 (fun b => ⟨[(10, .t (tS Pv.encI r2.1)), (13, .ptr 13 0), (15, .ptr 15 0), (17, .ptr 17 0), (19, .ptr 19 0), (20, .t (tI r6.2)), (21, .t (tS Pv.encI r7.1)), (22, .t (tI r7.2)), (117, .t (tB b))], [(13, .box [.t (tI r3.1.Torque), .t (tI r3.1.Source)]), (15, .box [.t (tI r4.1.Torque), .t (tI r4.1.Source)]), (17, .box [.t (tI r5.1.Low), .t (tI r5.1.High)]), (19, .box [.t (tI r6.1.Low), .t (tI r6.1.High)])]⟩) rfl ?_ ?_ ?_
        · refine TieO.run 3 rfl ?_
          refine TieO.nil ?_
          exact TieS.leaf ⟨rfl, .of rfl rfl⟩
        · refine TieO.run 3 rfl ?_
          refine TieO.nil ?_
          exact TieS.leaf ⟨rfl, .of rfl rfl⟩
        refine TieO.run 1 rfl ?_
        refine TieO.selAnd (v := (r6.2 == 0)) 3 118 (fun b => ⟨[(10, .t (tS Pv.encI r2.1)), (13, .ptr 13 0), (15, .ptr 15 0), (17, .ptr 17 0), (19, .ptr 19 0), (21, .t (tS Pv.encI r7.1)), (22, .t (tI r7.2)), (121, .t (tB b))], [(13, .box [.t (tI r3.1.Torque), .t (tI r3.1.Source)]), (15, .box [.t (tI r4.1.Torque), .t (tI r4.1.Source)]), (17, .box [.t (tI r5.1.Low), .t (tI r5.1.High)]), (19, .box [.t (tI r6.1.Low), .t (tI r6.1.High)])]⟩) rfl ?_ ?_ ?_
        · refine TieO.run 3 rfl ?_
          refine TieO.nil ?_
          exact TieS.leaf ⟨rfl, .of rfl rfl⟩
        · refine TieO.run 3 rfl ?_
          refine TieO.nil ?_
          exact TieS.leaf ⟨rfl, .of rfl rfl⟩
        refine TieO.run 1 rfl ?_
        refine TieO.selAnd (v := (r7.2 == 0)) 3 122 (fun b => ⟨[(10, .t (tS Pv.encI r2.1)), (13, .ptr 13 0), (15, .ptr 15 0), (17, .ptr 17 0), (19, .ptr 19 0), (21, .t (tS Pv.encI r7.1)), (125, .t (tB b))], [(13, .box [.t (tI r3.1.Torque), .t (tI r3.1.Source)]), (15, .box [.t (tI r4.1.Torque), .t (tI r4.1.Source)]), (17, .box [.t (tI r5.1.Low), .t (tI r5.1.High)]), (19, .box [.t (tI r6.1.Low), .t (tI r6.1.High)])]⟩) rfl ?_ ?_ ?_
        · refine TieO.run 3 rfl ?_
          refine TieO.nil ?_
          exact TieS.leaf ⟨rfl, .of rfl rfl⟩
        · refine TieO.run 3 rfl ?_
          refine TieO.nil ?_
          exact TieS.leaf ⟨rfl, .of rfl rfl⟩
        refine TieO.run 1 rfl ?_
        refine TieO.bind 4 (fun b3 => ⟨[(10, .t (tS Pv.encI r2.1)), (17, .ptr 17 0), (19, .ptr 19 0), (21, .t (tS Pv.encI r7.1)), (130, .t (tB b3))], [(17, .box [.t (tI r5.1.Low), .t (tI r5.1.High)]), (19, .box [.t (tI r6.1.Low), .t (tI r6.1.High)])]⟩) (TieO.split 126 rfl ?_ ?_) fun b3 _ => ?_
        · refine TieO.run 2 rfl ?_
          refine TieO.eqS [.int .i64 r3.1.Torque, .int .i64 r3.1.Source] [.int .i64 r4.1.Torque, .int .i64 r4.1.Source] (eqv_43 r3.1.Torque r3.1.Source r4.1.Torque r4.1.Source) rfl rfl rfl rfl rfl rfl ?_
          refine TieO.run 1 rfl ?_
          refine TieO.nil ?_
          exact TieS.leaf ⟨rfl, .of rfl rfl⟩
        · refine TieO.run 4 rfl ?_
          refine TieO.nil ?_
          exact TieS.leaf ⟨rfl, .of rfl rfl⟩
        refine TieO.run 1 rfl ?_
        refine TieO.bind 4 (fun b4 => ⟨[(10, .t (tS Pv.encI r2.1)), (21, .t (tS Pv.encI r7.1)), (135, .t (tB b4))], []⟩) (TieO.split 131 rfl ?_ ?_) fun b4 _ => ?_
        · refine TieO.run 2 rfl ?_
          refine TieO.eqS [.int .i64 r5.1.Low, .int .i64 r5.1.High] [.int .i64 r6.1.Low, .int .i64 r6.1.High] (eqv_30 r5.1.Low r5.1.High r6.1.Low r6.1.High) rfl rfl rfl rfl rfl rfl ?_
          refine TieO.run 1 rfl ?_
          refine TieO.nil ?_
          exact TieS.leaf ⟨rfl, .of rfl rfl⟩
        · refine TieO.run 4 rfl ?_
          refine TieO.nil ?_
          exact TieS.leaf ⟨rfl, .of rfl rfl⟩
        refine TieO.run 1 rfl ?_
        refine TieO.bind 4 (fun b5 => ⟨[(140, .t (tB b5))], []⟩) (TieO.split 136 rfl ?_ ?_) fun b5 _ => ?_
        · refine TieO.run 2 rfl ?_
          refine TieO.call _ rfl rfl rfl (tie_slices_Equal_sint r2.1 r7.1) (fun _ => rfl) fun v6 => ?_
          refine TieO.run 1 rfl ?_
          refine TieO.nil ?_
          exact TieS.leaf ⟨rfl, .of rfl rfl⟩
        · refine TieO.run 4 rfl ?_
          refine TieO.nil ?_
          exact TieS.leaf ⟨rfl, .of rfl rfl⟩
        refine TieO.run 1 rfl ?_
        refine TieO.nil ?_
        exact TieS.ret ⟨.inl rfl, rfl⟩
-- magneto/magnetolaw36.ArbiterMonotone
set_option maxRecDepth 100000 in
theorem tie_magnetolaw36_ArbiterMonotone (l : List SRequest) (low : Int) (high : Int) (which : Int) (v_by : Int) : TieF Try.prog 6 [.t (tS enc_SRequest l), .t (tI low), .t (tI high), .t (tK .u8 which), .t (tK .u16 v_by)] (magnetolaw36_ArbiterMonotone l low high which v_by) (fun r => .t (tB r)) := by
  refine TieF.intro htab 123 [.tmp 10] Try.call6 Try.func6 rfl rfl rfl (Nat.le_of_ble_eq_true rfl) fun w0 L => ?_
  refine TieS.seq ?_
  refine TieS.region ?_
  refine TieO.run 1 rfl ?_
  refine TieO.nil ?_
  refine TieS.seq ?_
  refine TieS.seq ?_
  refine TieS.region ?_
  refine TieO.call _ rfl rfl rfl (tie_magnetolaw36_awake) (fun _ => rfl) fun v => ?_
  refine TieO.run 2 rfl ?_
  refine TieO.selOr (v := decide ((l.length : Int) > 32)) 4 21 (fun b => ⟨[(0, .t (tS enc_SRequest l)), (1, .t (tI low)), (2, .t (tI high)), (3, .t (tK .u8 which)), (4, .t (tK .u16 v_by)), (25, .t (tB b))], []⟩) rfl ?_ ?_ ?_
  · refine TieO.run 4 rfl ?_
    refine TieO.nil ?_
    exact TieS.leaf ⟨rfl, .of rfl rfl⟩
  · refine TieO.run 4 rfl ?_
    refine TieO.nil ?_
    exact TieS.leaf ⟨rfl, .of rfl rfl⟩
  refine TieO.run 1 rfl ?_
  refine TieO.selOr (v := ((l.length : Int) == 0)) 4 26 (fun b => ⟨[(0, .t (tS enc_SRequest l)), (1, .t (tI low)), (2, .t (tI high)), (3, .t (tK .u8 which)), (4, .t (tK .u16 v_by)), (30, .t (tB b))], []⟩) rfl ?_ ?_ ?_
  · refine TieO.run 4 rfl ?_
    refine TieO.nil ?_
    exact TieS.leaf ⟨rfl, .of rfl rfl⟩
  · refine TieO.run 4 rfl ?_
    refine TieO.nil ?_
    exact TieS.leaf ⟨rfl, .of rfl rfl⟩
  refine TieO.run 1 rfl ?_
  refine TieO.bind 6 (fun b2 => ⟨[(0, .t (tS enc_SRequest l)), (1, .t (tI low)), (2, .t (tI high)), (3, .t (tK .u8 which)), (4, .t (tK .u16 v_by)), (37, .t (tB b2))], []⟩) (TieO.split 31 rfl ?_ ?_) fun b2 _ => ?_
  · refine TieO.run 6 rfl ?_
    refine TieO.nil ?_
    exact TieS.leaf ⟨rfl, .of rfl rfl⟩
  · refine TieO.run 3 rfl ?_
    refine TieO.call _ rfl rfl rfl (tie_magnetoref36_Check l low high) (fun _ => rfl) fun v2 => ?_
    refine TieO.run 2 rfl ?_
    refine TieO.nil ?_
    exact TieS.leaf ⟨rfl, .of rfl rfl⟩
  refine TieO.nil ?_
  refine TieS.cond rfl ?_ ?_
  · refine TieS.seq ?_
    refine TieS.region ?_
    refine TieO.call _ rfl rfl rfl (tie_magnetolaw36_awake) (fun _ => rfl) fun v3 => ?_
    refine TieO.run 1 rfl ?_
    refine TieO.nil ?_
    exact TieS.ret ⟨.inl rfl, rfl⟩
  · refine TieS.skip ?_
    refine TieS.seq ?_
    refine TieS.region ?_
    refine TieO.run 4 rfl ?_
    refine TieO.rem rfl rfl rfl rfl rfl rfl fun q => ?_
    refine TieO.run 1 rfl ?_
    refine TieO.nil ?_
    refine TieS.seq ?_
    refine TieS.region ?_
    refine TieO.run 1 rfl ?_
    refine TieO.callG [] [(900000, 2360)] (fun v4 => ⟨[(0, .t (tS enc_SRequest l)), (1, .t (tI low)), (2, .t (tI high)), (3, .t (tK .u8 which)), (4, .t (tK .u16 v_by)), (11, .t (tI q)), (37, .t (tB b2)), (39, .t (tK .u8 which)), (40, .t (tI (w64 which))), (41, .t (tS enc_SRequest l)), (42, .t (tI (l.length : Int))), (43, .t (tI q)), (44, .t (tS enc_SRequest l)), (45, .own 2360)], [(2360, .rows 35 4 v4.length (v4.map enc_SRequest))]⟩) (tie_slices_Clone_sRequest l) rfl rfl rfl rfl rfl rfl rfl (fun _ => rfl) (fun _ => rfl) (fun _ => rfl) (fun _ => .of rfl rfl) fun v4 hv4 => ?_
    refine TieO.run 1 rfl ?_
    refine TieO.nil ?_
    refine TieS.seq ?_
    refine TieS.region ?_
    refine TieO.run 4 rfl ?_
    refine TieO.indexO rfl rfl rfl rfl rfl rfl rfl rfl rfl rfl fun x hx => ?_
    refine TieO.run 1 rfl ?_
    refine TieO.loadY hx rfl rfl rfl rfl rfl rfl rfl rfl ?_
    refine TieO.run 4 rfl ?_
    refine TieO.indexOH hx rfl rfl rfl rfl rfl rfl rfl rfl rfl rfl ?_
    refine TieO.run 1 rfl ?_
    refine TieO.storeY (⟨x.Source, x.Kind, maxI (-5000) (w64 (x.Torque - (w64 v_by))), x.Priority⟩ : SRequest) [tI (maxI (-5000) (w64 (x.Torque - (w64 v_by))))] hx rfl rfl rfl rfl rfl rfl rfl rfl rfl rfl rfl rfl fun l2 hl2 => ?_
    refine TieO.nil ?_
    refine TieS.seq ?_
    refine TieS.region ?_
    refine TieO.run 3 rfl ?_
    refine TieO.call _ rfl rfl rfl (tie_arbiter_Bounds l low high) (fun _ => rfl) fun r2 => ?_
    refine TieO.run 6 rfl ?_
    refine TieO.nil ?_
    refine TieS.seq ?_
    refine TieS.region ?_
    refine TieO.run 3 rfl ?_
    refine TieO.callS _ rfl rfl rfl (tie_arbiter_Bounds l2 low high) (fun _ => rfl) (fun _ => rfl) fun r3 => ?_
    refine TieO.run 6 rfl ?_
    refine TieO.nil ?_
    refine TieS.seq ?_
    refine TieS.region ?_
    refine TieO.run 8 rfl ?_
    refine TieO.call _ rfl rfl rfl (tie_arbiter_Bounds l low (maxI low (w64 (high - (w64 v_by))))) (fun _ => rfl) fun r4 => ?_
    refine TieO.run 6 rfl ?_
    refine TieO.nil ?_
    refine TieS.seq ?_
    refine TieS.region ?_
    refine TieO.run 3 rfl ?_
    refine TieO.selAnd (v := (r3.2 == 0)) 3 87 (fun b => ⟨[(13, .ptr 13 0), (15, .ptr 15 0), (17, .ptr 17 0), (18, .t (tI r4.2)), (90, .t (tB b))], [(13, .box [.t (tI r2.1.Low), .t (tI r2.1.High)]), (15, .box [.t (tI r3.1.Low), .t (tI r3.1.High)]), (17, .box [.t (tI r4.1.Low), .t (tI r4.1.High)])]⟩) rfl ?_ ?_ ?_
    · refine TieO.run 3 rfl ?_
      refine TieO.nil ?_
      exact TieS.leaf ⟨rfl, .of rfl rfl⟩
    · refine TieO.run 3 rfl ?_
      refine TieO.nil ?_
      exact TieS.leaf ⟨rfl, .of rfl rfl⟩
    refine TieO.run 1 rfl ?_
    refine TieO.selAnd (v := (r4.2 == 0)) 3 91 (fun b => ⟨[(13, .ptr 13 0), (15, .ptr 15 0), (17, .ptr 17 0), (94, .t (tB b))], [(13, .box [.t (tI r2.1.Low), .t (tI r2.1.High)]), (15, .box [.t (tI r3.1.Low), .t (tI r3.1.High)]), (17, .box [.t (tI r4.1.Low), .t (tI r4.1.High)])]⟩) rfl ?_ ?_ ?_
    · refine TieO.run 3 rfl ?_
      refine TieO.nil ?_
      exact TieS.leaf ⟨rfl, .of rfl rfl⟩
    · refine TieO.run 3 rfl ?_
      refine TieO.nil ?_
      exact TieS.leaf ⟨rfl, .of rfl rfl⟩
    refine TieO.run 1 rfl ?_
    refine TieO.selAnd (v := decide (r3.1.Low ≤ r2.1.Low)) 6 95 (fun b => ⟨[(13, .ptr 13 0), (15, .ptr 15 0), (17, .ptr 17 0), (101, .t (tB b))], [(13, .box [.t (tI r2.1.Low), .t (tI r2.1.High)]), (15, .box [.t (tI r3.1.Low), .t (tI r3.1.High)]), (17, .box [.t (tI r4.1.Low), .t (tI r4.1.High)])]⟩) rfl ?_ ?_ ?_
    · refine TieO.run 6 rfl ?_
      refine TieO.nil ?_
      exact TieS.leaf ⟨rfl, .of rfl rfl⟩
    · refine TieO.run 6 rfl ?_
      refine TieO.nil ?_
      exact TieS.leaf ⟨rfl, .of rfl rfl⟩
    refine TieO.run 1 rfl ?_
    refine TieO.selAnd (v := decide (r3.1.High ≤ r2.1.High)) 6 102 (fun b => ⟨[(13, .ptr 13 0), (17, .ptr 17 0), (108, .t (tB b))], [(13, .box [.t (tI r2.1.Low), .t (tI r2.1.High)]), (17, .box [.t (tI r4.1.Low), .t (tI r4.1.High)])]⟩) rfl ?_ ?_ ?_
    · refine TieO.run 6 rfl ?_
      refine TieO.nil ?_
      exact TieS.leaf ⟨rfl, .of rfl rfl⟩
    · refine TieO.run 6 rfl ?_
      refine TieO.nil ?_
      exact TieS.leaf ⟨rfl, .of rfl rfl⟩
    refine TieO.run 1 rfl ?_
    refine TieO.selAnd (v := decide (r4.1.Low ≤ r2.1.Low)) 6 109 (fun b => ⟨[(13, .ptr 13 0), (17, .ptr 17 0), (115, .t (tB b))], [(13, .box [.t (tI r2.1.Low), .t (tI r2.1.High)]), (17, .box [.t (tI r4.1.Low), .t (tI r4.1.High)])]⟩) rfl ?_ ?_ ?_
    · refine TieO.run 6 rfl ?_
      refine TieO.nil ?_
      exact TieS.leaf ⟨rfl, .of rfl rfl⟩
    · refine TieO.run 6 rfl ?_
      refine TieO.nil ?_
      exact TieS.leaf ⟨rfl, .of rfl rfl⟩
    refine TieO.run 1 rfl ?_
    refine TieO.selAnd (v := decide (r4.1.High ≤ r2.1.High)) 6 116 (fun b => ⟨[(122, .t (tB b))], []⟩) rfl ?_ ?_ ?_
    · refine TieO.run 6 rfl ?_
      refine TieO.nil ?_
      exact TieS.leaf ⟨rfl, .of rfl rfl⟩
    · refine TieO.run 6 rfl ?_
      refine TieO.nil ?_
      exact TieS.leaf ⟨rfl, .of rfl rfl⟩
    refine TieO.run 1 rfl ?_
    refine TieO.nil ?_
    exact TieS.ret ⟨.inl rfl, rfl⟩
-- slices.Reverse[[]magneto/api.Request,magneto/api.Request]
set_option maxRecDepth 100000 in
theorem tie_slices_Reverse_sRequest (s : List SRequest) : TieG Try.prog 25 [.own 1000000] [(1000000, .rows 35 4 s.length (s.map enc_SRequest))] (slices_Reverse_sRequest s) (fun _ => .tup []) (fun r => [(1000000, .rows 35 4 r.length (r.map enc_SRequest))]) := by
  refine TieG.intro htab 28 [] Try.call25 Try.func25 rfl rfl rfl (Nat.le_of_ble_eq_true rfl) fun w0 L => ?_
  refine TieS.seq ?_
  refine TieS.region ?_
  refine TieO.run 5 rfl ?_
  refine TieO.nil ?_
  refine TieS.block ?_
  refine TieS.loop (fun t => ⟨[(0, .own 1000000), (2, .t (tI t.1)), (3, .t (tI t.2.1))], [(1000000, .rows 35 4 t.2.2.length (t.2.2.map enc_SRequest))]⟩) (fun b e σ' => match b with | .inl t => e = .exit 0 ∧ Sub ⟨[], [(1000000, .rows 35 4 t.2.2.length (t.2.2.map enc_SRequest))]⟩ σ' | .inr t => False) (.of rfl rfl) ?_ ?_
  · intro s2
    refine TieS.seq ?_
    refine TieS.seq ?_
    refine TieS.region ?_
    refine TieO.run 3 rfl ?_
    refine TieO.nil ?_
    refine TieS.cond rfl ?_ ?_
    · refine TieS.skip ?_
      refine TieS.seq ?_
      refine TieS.block ?_
      refine TieS.bind (Q₁ := fun t e σ' => e = .normal ∧ Sub ⟨[(0, .own 1000000), (2, .t (tI s2.1)), (3, .t (tI s2.2.1))], [(1000000, .rows 35 4 t.length (t.map enc_SRequest))]⟩ σ') ?_ ?_
      · refine TieX.pre fun x hx => ?_
        refine TieX.pre fun x2 hx2 => ?_
        refine TieX.pre fun l hl => ?_
        refine TieS.draws 14 [false, false, false, false, false, false, false, false, false, false, false, false, false, false, false, false] [true, true, true, true, true, true, true, true, true, true, true, true, true, true, false, false] ⟨[(0, .own 1000000), (2, .t (tI s2.1)), (3, .t (tI s2.2.1)), (14, .own 1000000), (15, .t (tI s2.1)), (16, .own 1000000), (17, .t (tI s2.2.1)), (18, .own 1000000), (19, .t (tI s2.2.1)), (20, .pe 1000000 (Int.toNat s2.2.1) 4 0), (21, .agg [.t (tI x.Source), .t (tI x.Kind), .t (tI x.Torque), .t (tI x.Priority)]), (22, .own 1000000), (23, .t (tI s2.1)), (24, .pe 1000000 (Int.toNat s2.1) 4 0), (25, .agg [.t (tI x2.Source), .t (tI x2.Kind), .t (tI x2.Torque), .t (tI x2.Priority)]), (26, .pe 1000000 (Int.toNat s2.1) 4 0)], [(1000000, .rows 35 4 l.length (l.map enc_SRequest))]⟩ mixed (fun _ _ _ h => by cases h.1) rfl rfl rfl rfl ?_ ?_
        · refine TieA.have_ (fuel₁ := 2) (l₁ := [true, true, true, true, true, true, true, true, true, true, true, true, true, true, false, false]) (σ₁ := ⟨[(0, .own 1000000), (2, .t (tI s2.1)), (3, .t (tI s2.2.1)), (14, .own 1000000), (15, .t (tI s2.1)), (16, .own 1000000), (17, .t (tI s2.2.1)), (18, .own 1000000), (19, .t (tI s2.2.1)), (20, .pe 1000000 (Int.toNat s2.2.1) 4 0), (21, .agg [.t (tI x.Source), .t (tI x.Kind), .t (tI x.Torque), .t (tI x.Priority)]), (22, .own 1000000), (23, .t (tI s2.1)), (24, .pe 1000000 (Int.toNat s2.1) 4 0), (25, .agg [.t (tI x2.Source), .t (tI x2.Kind), .t (tI x2.Torque), .t (tI x2.Priority)]), (26, .pe 1000000 (Int.toNat s2.1) 4 0)], [(1000000, .rows 35 4 l.length (l.map enc_SRequest))]⟩) ?_ fun A_3 => ?_
          · exact TieA.done (.of rfl rfl)
          refine TieA.have_ (fuel₁ := 4) (l₁ := [true, true, true, true, true, true, true, true, true, true, true, true, false, false, false, false]) (σ₁ := ⟨[(0, .own 1000000), (2, .t (tI s2.1)), (3, .t (tI s2.2.1)), (14, .own 1000000), (15, .t (tI s2.1)), (16, .own 1000000), (17, .t (tI s2.2.1)), (18, .own 1000000), (19, .t (tI s2.2.1)), (20, .pe 1000000 (Int.toNat s2.2.1) 4 0), (21, .agg [.t (tI x.Source), .t (tI x.Kind), .t (tI x.Torque), .t (tI x.Priority)]), (22, .own 1000000), (23, .t (tI s2.1)), (24, .pe 1000000 (Int.toNat s2.1) 4 0), (25, .agg [.t (tI x2.Source), .t (tI x2.Kind), .t (tI x2.Torque), .t (tI x2.Priority)])], [(1000000, .rows 35 4 s2.2.2.length (s2.2.2.map enc_SRequest))]⟩) ?_ fun A_2 => ?_
          · refine TieA.idx 12 [true, true, true, true, true, true, true, true, true, true, true, true, true, false, false, false] hx2 rfl rfl rfl rfl rfl rfl (by kernel_rfl) (by kernel_rfl) (by kernel_rfl) rfl rfl rfl rfl rfl rfl ?_
            refine TieA.all [13] (by kernel_rfl) rfl ?_
            refine AllA.cons (σ₁ := ⟨[(0, .own 1000000), (2, .t (tI s2.1)), (3, .t (tI s2.2.1)), (14, .own 1000000), (15, .t (tI s2.1)), (16, .own 1000000), (17, .t (tI s2.2.1)), (18, .own 1000000), (19, .t (tI s2.2.1)), (20, .pe 1000000 (Int.toNat s2.2.1) 4 0), (21, .agg [.t (tI x.Source), .t (tI x.Kind), .t (tI x.Torque), .t (tI x.Priority)]), (22, .own 1000000), (23, .t (tI s2.1)), (24, .pe 1000000 (Int.toNat s2.1) 4 0), (25, .agg [.t (tI x2.Source), .t (tI x2.Kind), .t (tI x2.Torque), .t (tI x2.Priority)]), (26, .pe 1000000 (Int.toNat s2.1) 4 0)], [(1000000, .rows 35 4 l.length (l.map enc_SRequest))]⟩) [true, true, true, true, true, true, true, true, true, true, true, true, true, true, false, false] rfl rfl ?_ A_3 ?_
            · refine TieO.withH hl (TieO.storeY x [tI x.Source, tI x.Kind, tI x.Torque, tI x.Priority] hx2 rfl rfl rfl rfl rfl rfl rfl rfl rfl rfl rfl rfl (TieO.ifG ?_))
              exact TieO.nil (TieS.leaf ⟨rfl, .of rfl rfl⟩)
            exact AllA.nil
          refine TieA.have_ (fuel₁ := 5) (l₁ := [true, true, true, true, true, true, true, true, true, true, true, false, false, false, false, false]) (σ₁ := ⟨[(0, .own 1000000), (2, .t (tI s2.1)), (3, .t (tI s2.2.1)), (14, .own 1000000), (15, .t (tI s2.1)), (16, .own 1000000), (17, .t (tI s2.2.1)), (18, .own 1000000), (19, .t (tI s2.2.1)), (20, .pe 1000000 (Int.toNat s2.2.1) 4 0), (21, .agg [.t (tI x.Source), .t (tI x.Kind), .t (tI x.Torque), .t (tI x.Priority)]), (22, .own 1000000), (23, .t (tI s2.1)), (24, .pe 1000000 (Int.toNat s2.1) 4 0)], [(1000000, .rows 35 4 s2.2.2.length (s2.2.2.map enc_SRequest))]⟩) ?_ fun A_1 => ?_
          · refine TieA.all [11] (by kernel_rfl) rfl ?_
            refine AllA.cons (σ₁ := ⟨[(0, .own 1000000), (2, .t (tI s2.1)), (3, .t (tI s2.2.1)), (14, .own 1000000), (15, .t (tI s2.1)), (16, .own 1000000), (17, .t (tI s2.2.1)), (18, .own 1000000), (19, .t (tI s2.2.1)), (20, .pe 1000000 (Int.toNat s2.2.1) 4 0), (21, .agg [.t (tI x.Source), .t (tI x.Kind), .t (tI x.Torque), .t (tI x.Priority)]), (22, .own 1000000), (23, .t (tI s2.1)), (24, .pe 1000000 (Int.toNat s2.1) 4 0), (25, .agg [.t (tI x2.Source), .t (tI x2.Kind), .t (tI x2.Torque), .t (tI x2.Priority)])], [(1000000, .rows 35 4 s2.2.2.length (s2.2.2.map enc_SRequest))]⟩) [true, true, true, true, true, true, true, true, true, true, true, true, false, false, false, false] rfl rfl ?_ A_2 ?_
            · refine TieO.loadY hx2 rfl rfl rfl rfl rfl rfl rfl rfl ?_
              exact TieO.nil (TieS.leaf ⟨rfl, .of rfl rfl⟩)
            exact AllA.nil
          refine TieA.have_ (fuel₁ := 5) (l₁ := [true, true, true, true, true, true, true, false, true, true, true, true, false, false, false, false]) (σ₁ := ⟨[(0, .own 1000000), (2, .t (tI s2.1)), (3, .t (tI s2.2.1)), (14, .own 1000000), (15, .t (tI s2.1)), (16, .own 1000000), (17, .t (tI s2.2.1)), (18, .own 1000000), (19, .t (tI s2.2.1)), (20, .pe 1000000 (Int.toNat s2.2.1) 4 0), (22, .own 1000000), (23, .t (tI s2.1)), (24, .pe 1000000 (Int.toNat s2.1) 4 0), (25, .agg [.t (tI x2.Source), .t (tI x2.Kind), .t (tI x2.Torque), .t (tI x2.Priority)])], [(1000000, .rows 35 4 s2.2.2.length (s2.2.2.map enc_SRequest))]⟩) ?_ fun A_4 => ?_
          · refine TieA.all [7] (by kernel_rfl) rfl ?_
            refine AllA.cons (σ₁ := ⟨[(0, .own 1000000), (2, .t (tI s2.1)), (3, .t (tI s2.2.1)), (14, .own 1000000), (15, .t (tI s2.1)), (16, .own 1000000), (17, .t (tI s2.2.1)), (18, .own 1000000), (19, .t (tI s2.2.1)), (20, .pe 1000000 (Int.toNat s2.2.1) 4 0), (21, .agg [.t (tI x.Source), .t (tI x.Kind), .t (tI x.Torque), .t (tI x.Priority)]), (22, .own 1000000), (23, .t (tI s2.1)), (24, .pe 1000000 (Int.toNat s2.1) 4 0), (25, .agg [.t (tI x2.Source), .t (tI x2.Kind), .t (tI x2.Torque), .t (tI x2.Priority)])], [(1000000, .rows 35 4 s2.2.2.length (s2.2.2.map enc_SRequest))]⟩) [true, true, true, true, true, true, true, true, true, true, true, true, false, false, false, false] rfl rfl ?_ A_2 ?_
            · refine TieO.loadY hx rfl rfl rfl rfl rfl rfl rfl rfl ?_
              exact TieO.nil (TieS.leaf ⟨rfl, .of rfl rfl⟩)
            exact AllA.nil
          refine TieA.move 0 [true, false, false, false, false, false, false, false, false, false, false, false, false, false, false, false] rfl rfl (by first | exact .inl rfl | exact .inr rfl) rfl rfl rfl (by kernel_rfl) (by kernel_rfl) (by kernel_rfl) rfl ?_
          refine TieA.move 1 [true, true, false, false, false, false, false, false, false, false, false, false, false, false, false, false] rfl rfl (by first | exact .inl rfl | exact .inr rfl) rfl rfl rfl (by kernel_rfl) (by kernel_rfl) (by kernel_rfl) rfl ?_
          refine TieA.move 2 [true, true, true, false, false, false, false, false, false, false, false, false, false, false, false, false] rfl rfl (by first | exact .inl rfl | exact .inr rfl) rfl rfl rfl (by kernel_rfl) (by kernel_rfl) (by kernel_rfl) rfl ?_
          refine TieA.move 3 [true, true, true, true, false, false, false, false, false, false, false, false, false, false, false, false] rfl rfl (by first | exact .inl rfl | exact .inr rfl) rfl rfl rfl (by kernel_rfl) (by kernel_rfl) (by kernel_rfl) rfl ?_
          refine TieA.move 4 [true, true, true, true, true, false, false, false, false, false, false, false, false, false, false, false] rfl rfl (by first | exact .inl rfl | exact .inr rfl) rfl rfl rfl (by kernel_rfl) (by kernel_rfl) (by kernel_rfl) rfl ?_
          refine TieA.move 5 [true, true, true, true, true, true, false, false, false, false, false, false, false, false, false, false] rfl rfl (by first | exact .inl rfl | exact .inr rfl) rfl rfl rfl (by kernel_rfl) (by kernel_rfl) (by kernel_rfl) rfl ?_
          refine TieA.idx 6 [true, true, true, true, true, true, true, false, false, false, false, false, false, false, false, false] hx rfl rfl rfl rfl rfl rfl (by kernel_rfl) (by kernel_rfl) (by kernel_rfl) rfl rfl rfl rfl rfl rfl ?_
          refine TieA.move 8 [true, true, true, true, true, true, true, false, true, false, false, false, false, false, false, false] rfl rfl (by first | exact .inl rfl | exact .inr rfl) rfl rfl rfl (by kernel_rfl) (by kernel_rfl) (by kernel_rfl) rfl ?_
          refine TieA.move 9 [true, true, true, true, true, true, true, false, true, true, false, false, false, false, false, false] rfl rfl (by first | exact .inl rfl | exact .inr rfl) rfl rfl rfl (by kernel_rfl) (by kernel_rfl) (by kernel_rfl) rfl ?_
          refine TieA.idx 10 [true, true, true, true, true, true, true, false, true, true, true, false, false, false, false, false] hx2 rfl rfl rfl rfl rfl rfl (by kernel_rfl) (by kernel_rfl) (by kernel_rfl) rfl rfl rfl rfl rfl rfl ?_
          refine TieA.all [7, 11] (by kernel_rfl) rfl ?_
          refine AllA.cons (σ₁ := ⟨[(0, .own 1000000), (2, .t (tI s2.1)), (3, .t (tI s2.2.1)), (14, .own 1000000), (15, .t (tI s2.1)), (16, .own 1000000), (17, .t (tI s2.2.1)), (18, .own 1000000), (19, .t (tI s2.2.1)), (20, .pe 1000000 (Int.toNat s2.2.1) 4 0), (21, .agg [.t (tI x.Source), .t (tI x.Kind), .t (tI x.Torque), .t (tI x.Priority)]), (22, .own 1000000), (23, .t (tI s2.1)), (24, .pe 1000000 (Int.toNat s2.1) 4 0)], [(1000000, .rows 35 4 s2.2.2.length (s2.2.2.map enc_SRequest))]⟩) [true, true, true, true, true, true, true, true, true, true, true, false, false, false, false, false] rfl rfl ?_ A_1 ?_
          · refine TieO.loadY hx rfl rfl rfl rfl rfl rfl rfl rfl ?_
            exact TieO.nil (TieS.leaf ⟨rfl, .of rfl rfl⟩)
          refine AllA.cons (σ₁ := ⟨[(0, .own 1000000), (2, .t (tI s2.1)), (3, .t (tI s2.2.1)), (14, .own 1000000), (15, .t (tI s2.1)), (16, .own 1000000), (17, .t (tI s2.2.1)), (18, .own 1000000), (19, .t (tI s2.2.1)), (20, .pe 1000000 (Int.toNat s2.2.1) 4 0), (22, .own 1000000), (23, .t (tI s2.1)), (24, .pe 1000000 (Int.toNat s2.1) 4 0), (25, .agg [.t (tI x2.Source), .t (tI x2.Kind), .t (tI x2.Torque), .t (tI x2.Priority)])], [(1000000, .rows 35 4 s2.2.2.length (s2.2.2.map enc_SRequest))]⟩) [true, true, true, true, true, true, true, false, true, true, true, true, false, false, false, false] rfl rfl ?_ A_4 ?_
          · refine TieO.loadY hx2 rfl rfl rfl rfl rfl rfl rfl rfl ?_
            exact TieO.nil (TieS.leaf ⟨rfl, .of rfl rfl⟩)
          exact AllA.nil
        refine TieO.indexO rfl rfl rfl rfl rfl rfl rfl rfl rfl rfl fun x3 hx3 => ?_
        refine TieO.storeY x2 [tI x2.Source, tI x2.Kind, tI x2.Torque, tI x2.Priority] hx3 rfl rfl rfl rfl rfl rfl rfl rfl rfl rfl rfl rfl fun l2 hl2 => ?_
        refine TieO.nil ?_
        exact TieS.leaf ⟨rfl, .of rfl rfl⟩
      rintro f2 e σ' _ ⟨rfl, hs⟩
      refine TieX.sub hs ?_
      refine TieS.endb ?_
      refine TieS.region ?_
      refine TieO.run 6 rfl ?_
      refine TieO.nil ?_
      exact TieS.leaf ⟨rfl, .of rfl rfl⟩
    · exact TieS.exitOut rfl ⟨(fun h => by cases h), rfl, .of rfl rfl⟩
  rintro (s3 | r) e σ' _ hq
  · obtain ⟨rfl, hs⟩ := hq
    refine TieX.exit rfl (TieX.sub hs ?_)
    exact TieS.leaf ⟨.inr rfl, ⟨[(1000000, 1000000)], _, _, rfl, rfl, rfl, rfl, rfl⟩⟩
  · exact hq.elim
-- magneto/magnetolaw36.ArbiterOrder
set_option maxRecDepth 100000 in
theorem tie_magnetolaw36_ArbiterOrder (l : List SRequest) (low : Int) (high : Int) (turn : Int) : TieF Try.prog 8 [.t (tS enc_SRequest l), .t (tI low), .t (tI high), .t (tK .u8 turn)] (magnetolaw36_ArbiterOrder l low high turn) (fun r => .t (tB r)) := by
  refine TieF.intro htab 122 [.tmp 8] Try.call8 Try.func8 rfl rfl rfl (Nat.le_of_ble_eq_true rfl) fun w0 L => ?_
  refine TieS.seq ?_
  refine TieS.region ?_
  refine TieO.run 1 rfl ?_
  refine TieO.nil ?_
  refine TieS.seq ?_
  refine TieS.seq ?_
  refine TieS.region ?_
  refine TieO.call _ rfl rfl rfl (tie_magnetolaw36_awake) (fun _ => rfl) fun v => ?_
  refine TieO.run 2 rfl ?_
  refine TieO.selOr (v := decide ((l.length : Int) > 16)) 4 23 (fun b => ⟨[(0, .t (tS enc_SRequest l)), (1, .t (tI low)), (2, .t (tI high)), (3, .t (tK .u8 turn)), (27, .t (tB b))], []⟩) rfl ?_ ?_ ?_
  · refine TieO.run 4 rfl ?_
    refine TieO.nil ?_
    exact TieS.leaf ⟨rfl, .of rfl rfl⟩
  · refine TieO.run 4 rfl ?_
    refine TieO.nil ?_
    exact TieS.leaf ⟨rfl, .of rfl rfl⟩
  refine TieO.run 1 rfl ?_
  refine TieO.selOr (v := ((l.length : Int) == 0)) 4 28 (fun b => ⟨[(0, .t (tS enc_SRequest l)), (1, .t (tI low)), (2, .t (tI high)), (3, .t (tK .u8 turn)), (32, .t (tB b))], []⟩) rfl ?_ ?_ ?_
  · refine TieO.run 4 rfl ?_
    refine TieO.nil ?_
    exact TieS.leaf ⟨rfl, .of rfl rfl⟩
  · refine TieO.run 4 rfl ?_
    refine TieO.nil ?_
    exact TieS.leaf ⟨rfl, .of rfl rfl⟩
  refine TieO.run 1 rfl ?_
  refine TieO.bind 6 (fun b2 => ⟨[(0, .t (tS enc_SRequest l)), (1, .t (tI low)), (2, .t (tI high)), (3, .t (tK .u8 turn)), (39, .t (tB b2))], []⟩) (TieO.split 33 rfl ?_ ?_) fun b2 _ => ?_
  · refine TieO.run 6 rfl ?_
    refine TieO.nil ?_
    exact TieS.leaf ⟨rfl, .of rfl rfl⟩
  · refine TieO.run 3 rfl ?_
    refine TieO.call _ rfl rfl rfl (tie_magnetoref36_Check l low high) (fun _ => rfl) fun v2 => ?_
    refine TieO.run 2 rfl ?_
    refine TieO.nil ?_
    exact TieS.leaf ⟨rfl, .of rfl rfl⟩
  refine TieO.nil ?_
  refine TieS.cond rfl ?_ ?_
  · refine TieS.seq ?_
    refine TieS.region ?_
    refine TieO.call _ rfl rfl rfl (tie_magnetolaw36_awake) (fun _ => rfl) fun v3 => ?_
    refine TieO.run 1 rfl ?_
    refine TieO.nil ?_
    exact TieS.ret ⟨.inl rfl, rfl⟩
  · refine TieS.skip ?_
    refine TieS.seq ?_
    refine TieS.region ?_
    refine TieO.run 1 rfl ?_
    refine TieO.callG [] [(900000, 2336)] (fun v4 => ⟨[(0, .t (tS enc_SRequest l)), (1, .t (tI low)), (2, .t (tI high)), (3, .t (tK .u8 turn)), (39, .t (tB b2)), (41, .t (tS enc_SRequest l)), (42, .own 2336)], [(2336, .rows 35 4 v4.length (v4.map enc_SRequest))]⟩) (tie_slices_Clone_sRequest l) rfl rfl rfl rfl rfl rfl rfl (fun _ => rfl) (fun _ => rfl) (fun _ => rfl) (fun _ => .of rfl rfl) fun v4 hv4 => ?_
    refine TieO.run 1 rfl ?_
    refine TieO.nil ?_
    refine TieS.seq ?_
    refine TieS.seq ?_
    refine TieS.region ?_
    refine TieO.run 3 rfl ?_
    refine TieO.nil ?_
    refine TieS.block ?_
    refine TieS.loop (fun p => ⟨[(1, .t (tI low)), (2, .t (tI high)), (3, .t (tK .u8 turn)), (9, .own 2336), (44, .t (tI (v4.length : Int))), (45, .t (tI p.1))], [(2336, .rows 35 4 p.2.length (p.2.map enc_SRequest))]⟩) (fun b e σ' => match b with | .inl t => e = .exit 0 ∧ Sub ⟨[(1, .t (tI low)), (2, .t (tI high)), (3, .t (tK .u8 turn)), (9, .own 2336)], [(2336, .rows 35 4 t.length (t.map enc_SRequest))]⟩ σ' | .inr t => False) (.of rfl rfl) ?_ ?_
    · rintro ⟨i, f2⟩
      refine TieS.seq ?_
      refine TieS.region ?_
      refine TieO.run 1 rfl ?_
      refine TieO.nil ?_
      refine TieS.seq ?_
      refine TieS.cond rfl ?_ ?_
      · refine TieS.skip ?_
        refine TieS.seq ?_
        refine TieX.sub (σ' := ⟨[(1, .t (tI low)), (2, .t (tI high)), (3, .t (tK .u8 turn)), (9, .own 2336), (44, .t (tI (v4.length : Int))), (45, .t (tI i))], [(2336, .rows 35 4 f2.length (f2.map enc_SRequest))]⟩) (.of rfl rfl) ?_
        refine TieS.bind (Q₁ := fun f e σ' => match f with | .next t => e = .normal ∧ Sub ⟨[(1, .t (tI low)), (2, .t (tI high)), (3, .t (tK .u8 turn)), (9, .own 2336), (44, .t (tI (v4.length : Int))), (45, .t (tI i))], [(2336, .rows 35 4 t.length (t.map enc_SRequest))]⟩ σ' | .brk t => e = .exit 0 ∧ Sub ⟨[(1, .t (tI low)), (2, .t (tI high)), (3, .t (tK .u8 turn)), (9, .own 2336)], [(2336, .rows 35 4 t.length (t.map enc_SRequest))]⟩ σ' | .ret r => False) ?_ ?_
        · refine TieS.block ?_
          refine TieS.seq ?_
          refine TieS.region ?_
          refine TieO.run 2 rfl ?_
          refine TieO.nil ?_
          refine TieS.region ?_
          refine TieO.run 4 rfl ?_
          refine TieO.indexO rfl rfl rfl rfl rfl rfl rfl rfl rfl rfl fun x hx => ?_
          refine TieO.run 1 rfl ?_
          refine TieO.storeY (⟨x.Source, x.Kind, x.Torque, w64 (15 - i)⟩ : SRequest) [tI (w64 (15 - i))] hx rfl rfl rfl rfl rfl rfl rfl rfl rfl rfl rfl rfl fun l2 hl2 => ?_
          refine TieO.nil ?_
          refine TieS.endb ?_
          exact TieS.leaf ⟨rfl, .of rfl rfl⟩
        rintro (t | t | r) e σ' _ hq
        · obtain ⟨rfl, hs⟩ := hq
          refine TieX.sub hs ?_
          refine TieS.region ?_
          refine TieO.run 2 rfl ?_
          refine TieO.nil ?_
          exact TieS.leaf ⟨rfl, .of rfl rfl⟩
        · obtain ⟨rfl, hs⟩ := hq
          exact TieX.exitOut rfl ⟨(fun h => by cases h), rfl, hs⟩
        · exact hq.elim
      · exact TieS.exitOut rfl ⟨(fun h => by cases h), rfl, .of rfl rfl⟩
    rintro (f3 | r) e σ' _ hq
    · obtain ⟨rfl, hs⟩ := hq
      refine TieX.exit rfl (TieX.sub hs ?_)
      refine TieS.seq ?_
      refine TieS.region ?_
      refine TieO.run 4 rfl ?_
      refine TieO.rem rfl rfl rfl rfl rfl rfl fun q => ?_
      refine TieO.run 1 rfl ?_
      refine TieO.nil ?_
      refine TieS.seq ?_
      refine TieS.bind (Q₁ := fun t e σ' => e = .normal ∧ Sub ⟨[(1, .t (tI low)), (2, .t (tI high)), (9, .t (tS enc_SRequest t.1)), (12, .own 2536)], [(2536, .rows 35 4 t.2.length (t.2.map enc_SRequest))]⟩ σ') ?_ ?_
      · refine TieX.pre fun l3 hl3 => ?_
        refine TieX.pre fun l4 hl4 => ?_
        refine TieS.draws 6 [false, false, false, false, false, false, false, false, false] [true, true, true, true, true, true, false, false, false] ⟨[(1, .t (tI low)), (2, .t (tI high)), (9, .t (tS enc_SRequest f3)), (11, .t (tI q)), (60, .t (tS enc_SRequest f3)), (61, .t (tI q)), (62, .t (tS enc_SRequest l3)), (63, .t (tS enc_SRequest f3)), (64, .t (tI q)), (65, .t (tS enc_SRequest l4))], []⟩ mixed (fun _ _ _ h => by cases h.1) rfl rfl rfl rfl ?_ ?_
        · refine TieA.have_ (fuel₁ := 3) (l₁ := [true, true, true, true, true, true, false, false, false]) (σ₁ := ⟨[(1, .t (tI low)), (2, .t (tI high)), (9, .t (tS enc_SRequest f3)), (11, .t (tI q)), (60, .t (tS enc_SRequest f3)), (61, .t (tI q)), (62, .t (tS enc_SRequest l3)), (63, .t (tS enc_SRequest f3)), (64, .t (tI q)), (65, .t (tS enc_SRequest l4))], []⟩) ?_ fun A_2 => ?_
          · exact TieA.done (.of rfl rfl)
          refine TieA.have_ (fuel₁ := 4) (l₁ := [true, true, true, true, true, false, false, false, false]) (σ₁ := ⟨[(1, .t (tI low)), (2, .t (tI high)), (9, .t (tS enc_SRequest f3)), (11, .t (tI q)), (60, .t (tS enc_SRequest f3)), (61, .t (tI q)), (62, .t (tS enc_SRequest l3)), (63, .t (tS enc_SRequest f3)), (64, .t (tI q))], []⟩) ?_ fun A_1 => ?_
          · refine TieA.all [5] (by kernel_rfl) rfl ?_
            refine AllA.cons (σ₁ := ⟨[(1, .t (tI low)), (2, .t (tI high)), (9, .t (tS enc_SRequest f3)), (11, .t (tI q)), (60, .t (tS enc_SRequest f3)), (61, .t (tI q)), (62, .t (tS enc_SRequest l3)), (63, .t (tS enc_SRequest f3)), (64, .t (tI q)), (65, .t (tS enc_SRequest l4))], []⟩) [true, true, true, true, true, true, false, false, false] rfl rfl ?_ A_2 ?_
            · refine TieO.withH hl4 (TieO.sliceF rfl rfl rfl rfl rfl rfl rfl (fun _ => rfl) rfl rfl (TieO.ifG ?_))
              exact TieO.nil (TieS.leaf ⟨rfl, .of rfl rfl⟩)
            exact AllA.nil
          refine TieA.have_ (fuel₁ := 4) (l₁ := [true, true, false, true, true, true, false, false, false]) (σ₁ := ⟨[(1, .t (tI low)), (2, .t (tI high)), (9, .t (tS enc_SRequest f3)), (11, .t (tI q)), (60, .t (tS enc_SRequest f3)), (61, .t (tI q)), (63, .t (tS enc_SRequest f3)), (64, .t (tI q)), (65, .t (tS enc_SRequest l4))], []⟩) ?_ fun A_3 => ?_
          · refine TieA.all [2] (by kernel_rfl) rfl ?_
            refine AllA.cons (σ₁ := ⟨[(1, .t (tI low)), (2, .t (tI high)), (9, .t (tS enc_SRequest f3)), (11, .t (tI q)), (60, .t (tS enc_SRequest f3)), (61, .t (tI q)), (62, .t (tS enc_SRequest l3)), (63, .t (tS enc_SRequest f3)), (64, .t (tI q)), (65, .t (tS enc_SRequest l4))], []⟩) [true, true, true, true, true, true, false, false, false] rfl rfl ?_ A_2 ?_
            · refine TieO.withH hl3 (TieO.sliceF rfl rfl rfl rfl rfl rfl rfl (fun _ => rfl) rfl rfl (TieO.ifG ?_))
              exact TieO.nil (TieS.leaf ⟨rfl, .of rfl rfl⟩)
            exact AllA.nil
          refine TieA.move 0 [true, false, false, false, false, false, false, false, false] rfl rfl (by first | exact .inl rfl | exact .inr rfl) rfl rfl rfl (by kernel_rfl) (by kernel_rfl) (by kernel_rfl) rfl ?_
          refine TieA.move 1 [true, true, false, false, false, false, false, false, false] rfl rfl (by first | exact .inl rfl | exact .inr rfl) rfl rfl rfl (by kernel_rfl) (by kernel_rfl) (by kernel_rfl) rfl ?_
          refine TieA.move 3 [true, true, false, true, false, false, false, false, false] rfl rfl (by first | exact .inl rfl | exact .inr rfl) rfl rfl rfl (by kernel_rfl) (by kernel_rfl) (by kernel_rfl) rfl ?_
          refine TieA.move 4 [true, true, false, true, true, false, false, false, false] rfl rfl (by first | exact .inl rfl | exact .inr rfl) rfl rfl rfl (by kernel_rfl) (by kernel_rfl) (by kernel_rfl) rfl ?_
          refine TieA.all [2, 5] (by kernel_rfl) rfl ?_
          refine AllA.cons (σ₁ := ⟨[(1, .t (tI low)), (2, .t (tI high)), (9, .t (tS enc_SRequest f3)), (11, .t (tI q)), (60, .t (tS enc_SRequest f3)), (61, .t (tI q)), (62, .t (tS enc_SRequest l3)), (63, .t (tS enc_SRequest f3)), (64, .t (tI q))], []⟩) [true, true, true, true, true, false, false, false, false] rfl rfl ?_ A_1 ?_
          · refine TieO.frz 2336 rfl ?_
            refine TieO.withH hl3 (TieO.sliceF rfl rfl rfl rfl rfl rfl rfl (fun _ => rfl) rfl rfl (TieO.ifG ?_))
            exact TieO.nil (TieS.leaf ⟨rfl, .of rfl rfl⟩)
          refine AllA.cons (σ₁ := ⟨[(1, .t (tI low)), (2, .t (tI high)), (9, .t (tS enc_SRequest f3)), (11, .t (tI q)), (60, .t (tS enc_SRequest f3)), (61, .t (tI q)), (63, .t (tS enc_SRequest f3)), (64, .t (tI q)), (65, .t (tS enc_SRequest l4))], []⟩) [true, true, false, true, true, true, false, false, false] rfl rfl ?_ A_3 ?_
          · refine TieO.frz 2336 rfl ?_
            refine TieO.withH hl4 (TieO.sliceF rfl rfl rfl rfl rfl rfl rfl (fun _ => rfl) rfl rfl (TieO.ifG ?_))
            exact TieO.nil (TieS.leaf ⟨rfl, .of rfl rfl⟩)
          exact AllA.nil
        refine TieO.run 1 rfl ?_
        refine TieO.frz 66 rfl ?_
        refine TieO.callG [] [(900000, 2536)] (fun v5 => ⟨[(1, .t (tI low)), (2, .t (tI high)), (9, .t (tS enc_SRequest f3)), (11, .t (tI q)), (60, .t (tS enc_SRequest f3)), (61, .t (tI q)), (62, .t (tS enc_SRequest l3)), (63, .t (tS enc_SRequest f3)), (64, .t (tI q)), (65, .t (tS enc_SRequest l4)), (66, .t (tS (Pv.encS enc_SRequest) ([l3, l4] : List (List SRequest)))), (67, .own 2536)], [(2536, .rows 35 4 v5.length (v5.map enc_SRequest))]⟩) (tie_slices_Concat_sRequest ([l3, l4] : List (List SRequest))) rfl rfl rfl rfl rfl rfl rfl (fun _ => rfl) (fun _ => rfl) (fun _ => rfl) (fun _ => .of rfl rfl) fun v5 hv5 => ?_
        refine TieO.run 1 rfl ?_
        refine TieO.nil ?_
        exact TieS.leaf ⟨rfl, .of rfl rfl⟩
      rintro s e σ' _ ⟨rfl, hs⟩
      refine TieX.sub hs ?_
      refine TieS.seq ?_
      refine TieS.region ?_
      refine TieO.run 1 rfl ?_
      refine TieO.callG [(1000000, 2536)] [] (fun v6 => ⟨[(1, .t (tI low)), (2, .t (tI high)), (9, .t (tS enc_SRequest s.1)), (12, .own 2536), (68, .own 2536), (69, .tup [])], [(2536, .rows 35 4 v6.length (v6.map enc_SRequest))]⟩) (tie_slices_Reverse_sRequest s.2) rfl rfl rfl rfl rfl rfl rfl (fun _ => rfl) (fun _ => rfl) (fun _ => rfl) (fun _ => .of rfl rfl) fun v6 hv6 => ?_
      refine TieO.nil ?_
      refine TieS.seq ?_
      refine TieS.region ?_
      refine TieO.run 3 rfl ?_
      refine TieO.call _ rfl rfl rfl (tie_arbiter_Decide s.1 low high) (fun _ => rfl) fun r2 => ?_
      refine TieO.run 6 rfl ?_
      refine TieO.nil ?_
      refine TieS.seq ?_
      refine TieS.region ?_
      refine TieO.run 3 rfl ?_
      refine TieO.callS _ rfl rfl rfl (tie_arbiter_Decide v6 low high) (fun _ => rfl) (fun _ => rfl) fun r3 => ?_
      refine TieO.run 6 rfl ?_
      refine TieO.nil ?_
      refine TieS.seq ?_
      refine TieS.region ?_
      refine TieO.run 3 rfl ?_
      refine TieO.call _ rfl rfl rfl (tie_arbiter_Explain s.1 low high) (fun _ => rfl) fun r4 => ?_
      refine TieO.run 5 rfl ?_
      refine TieO.nil ?_
      refine TieS.seq ?_
      refine TieS.region ?_
      refine TieO.run 3 rfl ?_
      refine TieO.frz 2536 rfl ?_
      refine TieO.call _ rfl rfl rfl (tie_arbiter_Explain v6 low high) (fun _ => rfl) fun r5 => ?_
      refine TieO.run 5 rfl ?_
      refine TieO.nil ?_
      refine TieS.seq ?_
      refine TieS.region ?_
      refine TieO.run 3 rfl ?_
      refine TieO.selAnd (v := (r3.2 == 0)) 3 100 (fun b => ⟨[(13, .ptr 13 0), (15, .ptr 15 0), (17, .t (tS Pv.encI r4.1)), (18, .t (tI r4.2)), (19, .t (tS Pv.encI r5.1)), (20, .t (tI r5.2)), (103, .t (tB b))], [(13, .box [.t (tI r2.1.Torque), .t (tI r2.1.Source)]), (15, .box [.t (tI r3.1.Torque), .t (tI r3.1.Source)])]⟩) rfl ?_ ?_ ?_
      · refine TieO.run 3 rfl ?_
        refine TieO.nil ?_
        exact TieS.leaf ⟨rfl, .of rfl rfl⟩
      · refine TieO.run 3 rfl ?_
        refine TieO.nil ?_
        exact TieS.leaf ⟨rfl, .of rfl rfl⟩
      refine TieO.run 1 rfl ?_
      refine TieO.selAnd (v := (r4.2 == 0)) 3 104 (fun b => ⟨[(13, .ptr 13 0), (15, .ptr 15 0), (17, .t (tS Pv.encI r4.1)), (19, .t (tS Pv.encI r5.1)), (20, .t (tI r5.2)), (107, .t (tB b))], [(13, .box [.t (tI r2.1.Torque), .t (tI r2.1.Source)]), (15, .box [.t (tI r3.1.Torque), .t (tI r3.1.Source)])]⟩) rfl ?_ ?_ ?_
      · refine TieO.run 3 rfl ?_
        refine TieO.nil ?_
        exact TieS.leaf ⟨rfl, .of rfl rfl⟩
      · refine TieO.run 3 rfl ?_
        refine TieO.nil ?_
        exact TieS.leaf ⟨rfl, .of rfl rfl⟩
      refine TieO.run 1 rfl ?_
      refine TieO.selAnd (v := (r5.2 == 0)) 3 108 (fun b => ⟨[(13, .ptr 13 0), (15, .ptr 15 0), (17, .t (tS Pv.encI r4.1)), (19, .t (tS Pv.encI r5.1)), (111, .t (tB b))], [(13, .box [.t (tI r2.1.Torque), .t (tI r2.1.Source)]), (15, .box [.t (tI r3.1.Torque), .t (tI r3.1.Source)])]⟩) rfl ?_ ?_ ?_
      · refine TieO.run 3 rfl ?_
        refine TieO.nil ?_
        exact TieS.leaf ⟨rfl, .of rfl rfl⟩
      · refine TieO.run 3 rfl ?_
        refine TieO.nil ?_
        exact TieS.leaf ⟨rfl, .of rfl rfl⟩
      refine TieO.run 1 rfl ?_
      refine TieO.bind 4 (fun b3 => ⟨[(17, .t (tS Pv.encI r4.1)), (19, .t (tS Pv.encI r5.1)), (116, .t (tB b3))], []⟩) (TieO.split 112 rfl ?_ ?_) fun b3 _ => ?_
      · refine TieO.run 2 rfl ?_
        refine TieO.eqS [.int .i64 r2.1.Torque, .int .i64 r2.1.Source] [.int .i64 r3.1.Torque, .int .i64 r3.1.Source] (eqv_43 r2.1.Torque r2.1.Source r3.1.Torque r3.1.Source) rfl rfl rfl rfl rfl rfl ?_
        refine TieO.run 1 rfl ?_
        refine TieO.nil ?_
        exact TieS.leaf ⟨rfl, .of rfl rfl⟩
      · refine TieO.run 4 rfl ?_
        refine TieO.nil ?_
        exact TieS.leaf ⟨rfl, .of rfl rfl⟩
      refine TieO.run 1 rfl ?_
      refine TieO.bind 4 (fun b4 => ⟨[(121, .t (tB b4))], []⟩) (TieO.split 117 rfl ?_ ?_) fun b4 _ => ?_
      · refine TieO.run 2 rfl ?_
        refine TieO.call _ rfl rfl rfl (tie_slices_Equal_sint r4.1 r5.1) (fun _ => rfl) fun v7 => ?_
        refine TieO.run 1 rfl ?_
        refine TieO.nil ?_
        exact TieS.leaf ⟨rfl, .of rfl rfl⟩
      · refine TieO.run 4 rfl ?_
        refine TieO.nil ?_
        exact TieS.leaf ⟨rfl, .of rfl rfl⟩
      refine TieO.run 1 rfl ?_
      refine TieO.nil ?_
      exact TieS.ret ⟨.inl rfl, rfl⟩
    · exact hq.elim
end Go.Proofs.Ytoiamgpgodcioaa

/- This file joins: Ties, printed by gen.py: each function of the loaded program computes its model. What the arguments are known to be. Printed by law.py. What the arguments of the rows hold. Printed by law.py. The probe answers true: the models at its data. Maps: surface.Valid and its reference answer alike. Plain Lean. The corner of a map: the monitor's and the reference's. Plain Lean. The plain law of MonitorPermits. The plain law of MonitorLimits. Part Xg: loops by invariants, lists. Plain Lean. -/
import Derived.Test.YtllofihbdbdaeaaMonitorGrantsE
import Derived.Test.YtllofihbdbdaeaaProg
import Derived.KernelRfl
namespace Go.Proofs.Ytllofihbdbdaeaa
open Go Go.Pv Go.Proofs
-- slices.symMergeCmpFunc[magneto/api.Request]
set_option maxRecDepth 100000 in
set_option maxHeartbeats 4000000 in
theorem tie_slices_symMergeCmpFunc_Request (fu : Nat) : ∀ (data : List SRequest) (a : Int) (m2 : Int) (b2 : Int) (n2 : Nat) (cs : List (List Tree)) (cmp : SRequest → SRequest → Option Int) (h2 : ∀ x0 x1, TieF Try.prog n2 ([A_SRequest x0, A_SRequest x1] ++ cs.map T.el) (cmp x0 x1) (fun r => .t (tI r))), TieG Try.prog 104 [.own 1000000, .t (tI a), .t (tI m2), .t (tI b2), .fz n2 cs] [(1000000, .rows 44 4 data.length (data.map enc_SRequest))] (slices_symMergeCmpFunc_Request fu data a m2 b2 cmp) (fun _ => .tup []) (fun r => [(1000000, .rows 44 4 r.length (r.map enc_SRequest))]) := by
  induction fu with
  | zero => exact fun _ _ _ _ _ _ _ _ => ⟨Try.call104, fun _ hr => by have hr2 : (none : Option (List SRequest)) = some _ := hr; cases hr2⟩
  | succ fu ih =>
    rw [show slices_symMergeCmpFunc_Request (fu + 1) = slices_symMergeCmpFunc_Request_s (slices_symMergeCmpFunc_Request fu) from rfl]
    generalize slices_symMergeCmpFunc_Request fu = rc at ih ⊢
    intro data a m2 b2 n2 cs cmp h2
    refine TieG.intro htab 220 [] Try.call104 Try.func104 rfl rfl rfl (Nat.le_of_ble_eq_true rfl) fun w0 L => ?_
    refine TieS.seq ?_
    refine TieS.seq ?_
    refine TieS.region ?_
    refine TieO.run 4 rfl ?_
    refine TieO.nil ?_
    refine TieS.cond rfl ?_ ?_
    · refine TieS.seq ?_
      refine TieS.region ?_
      refine TieO.run 2 rfl ?_
      refine TieO.nil ?_
      refine TieS.seq ?_
      refine TieS.region ?_
      refine TieO.run 2 rfl ?_
      refine TieO.nil ?_
      refine TieS.seq ?_
      refine TieS.block ?_
      refine TieS.loop (fun t => ⟨[(0, .own 1000000), (1, .t (tI a)), (4, .fz n2 cs), (10, .t (tI t.1)), (11, .t (tI t.2))], [(1000000, .rows 44 4 data.length (data.map enc_SRequest))]⟩) (fun b e σ' => match b with | .inl t => e = .exit 0 ∧ Sub ⟨[(0, .own 1000000), (1, .t (tI a)), (10, .t (tI t.1))], [(1000000, .rows 44 4 data.length (data.map enc_SRequest))]⟩ σ' | .inr t => False) (.of rfl rfl) ?_ ?_
      · intro s
        refine TieS.seq ?_
        refine TieS.seq ?_
        refine TieS.region ?_
        refine TieO.run 3 rfl ?_
        refine TieO.nil ?_
        refine TieS.cond rfl ?_ ?_
        · refine TieS.skip ?_
          refine TieS.block ?_
          refine TieS.seq ?_
          refine TieS.region ?_
          refine TieO.run 7 rfl ?_
          refine TieO.nil ?_
          refine TieS.seq ?_
          refine TieX.pre fun x hx => ?_
          refine TieX.pre fun x2 hx2 => ?_
          refine TieX.pre fun v hv => ?_
          refine TieS.draw 11 [.fz n2 cs, .own 1000000, .t (tI (w64 (bitShr .u64 (IntKind.u64.wrap (w64 (s.1 + s.2))) 1))), .pe 1000000 (Int.toNat (w64 (bitShr .u64 (IntKind.u64.wrap (w64 (s.1 + s.2))) 1))) 4 0, .agg [.t (tI x.Source), .t (tI x.Kind), .t (tI x.Torque), .t (tI x.Priority)], .own 1000000, .t (tI a), .pe 1000000 (Int.toNat a) 4 0, .agg [.t (tI x2.Source), .t (tI x2.Kind), .t (tI x2.Torque), .t (tI x2.Priority)], .t (tI v), .t (tB (decide (v < 0)))] [(0, .own 1000000), (1, .t (tI a)), (4, .fz n2 cs), (10, .t (tI s.1)), (11, .t (tI s.2)), (12, .t (tI (w64 (bitShr .u64 (IntKind.u64.wrap (w64 (s.1 + s.2))) 1))))] [(1000000, .rows 44 4 data.length (data.map enc_SRequest))] mixed (.of rfl rfl) rfl rfl rfl rfl (.cons (.quiet rfl rfl rfl) (.cons (.quiet rfl rfl rfl) (.cons (.quiet rfl rfl rfl) (.cons (.indexO (sz := 4) hx rfl rfl rfl rfl rfl rfl rfl rfl) (.cons (.loadY hx rfl rfl rfl rfl rfl rfl) (.cons (.quiet rfl rfl rfl) (.cons (.quiet rfl rfl rfl) (.cons (.indexO (sz := 4) hx2 rfl rfl rfl rfl rfl rfl rfl rfl) (.cons (.loadY hx2 rfl rfl rfl rfl rfl rfl) (.cons (.callV (h2 x x2) hv rfl rfl rfl rfl) (.cons (.quiet rfl rfl rfl) (.nil)))))))))))) ?_
          refine TieO.nil ?_
          refine TieS.cond rfl ?_ ?_
          · refine TieS.region ?_
            refine TieO.run 3 rfl ?_
            refine TieO.nil ?_
            refine TieS.endb ?_
            exact TieS.leaf ⟨rfl, .of rfl rfl⟩
          · refine TieS.region ?_
            refine TieO.run 2 rfl ?_
            refine TieO.nil ?_
            refine TieS.endb ?_
            exact TieS.leaf ⟨rfl, .of rfl rfl⟩
        · exact TieS.exitOut rfl ⟨(fun h => by cases h), rfl, .of rfl rfl⟩
      rintro (s2 | r) e σ' _ hq
      · obtain ⟨rfl, hs⟩ := hq
        refine TieX.exit rfl (TieX.sub hs ?_)
        refine TieS.seq ?_
        refine TieS.seq ?_
        refine TieS.region ?_
        refine TieO.run 2 rfl ?_
        refine TieO.nil ?_
        refine TieS.block ?_
        refine TieS.loop (fun t => ⟨[(0, .own 1000000), (10, .t (tI s2.1)), (13, .t (tI t.1))], [(1000000, .rows 44 4 t.2.length (t.2.map enc_SRequest))]⟩) (fun b e σ' => match b with | .inl t => e = .exit 2 ∧ Sub ⟨[], [(1000000, .rows 44 4 t.2.length (t.2.map enc_SRequest))]⟩ σ' | .inr t => False) (.of rfl rfl) ?_ ?_
        · intro s3
          refine TieS.seq ?_
          refine TieS.seq ?_
          refine TieS.region ?_
          refine TieO.run 4 rfl ?_
          refine TieO.nil ?_
          refine TieS.cond rfl ?_ ?_
          · refine TieS.skip ?_
            refine TieS.seq ?_
            refine TieS.block ?_
            refine TieS.bind (Q₁ := fun t e σ' => e = .normal ∧ Sub ⟨[(0, .own 1000000), (10, .t (tI s2.1)), (13, .t (tI s3.1))], [(1000000, .rows 44 4 t.length (t.map enc_SRequest))]⟩ σ') ?_ ?_
            · refine TieX.pre fun x3 hx3 => ?_
              refine TieX.pre fun x4 hx4 => ?_
              refine TieX.pre fun l hl => ?_
              refine TieS.draws 16 [false, false, false, false, false, false, false, false, false, false, false, false, false, false, false, false, false, false] [true, true, true, true, true, true, true, true, true, true, true, true, true, true, true, true, false, false] ⟨[(0, .own 1000000), (10, .t (tI s2.1)), (13, .t (tI s3.1)), (61, .own 1000000), (62, .t (tI s3.1)), (63, .own 1000000), (64, .t (tI s3.1)), (65, .t (tI (w64 (s3.1 + 1)))), (66, .own 1000000), (67, .t (tI s3.1)), (68, .t (tI (w64 (s3.1 + 1)))), (69, .pe 1000000 (Int.toNat (w64 (s3.1 + 1))) 4 0), (70, .agg [.t (tI x3.Source), .t (tI x3.Kind), .t (tI x3.Torque), .t (tI x3.Priority)]), (71, .own 1000000), (72, .t (tI s3.1)), (73, .pe 1000000 (Int.toNat s3.1) 4 0), (74, .agg [.t (tI x4.Source), .t (tI x4.Kind), .t (tI x4.Torque), .t (tI x4.Priority)]), (75, .pe 1000000 (Int.toNat s3.1) 4 0)], [(1000000, .rows 44 4 l.length (l.map enc_SRequest))]⟩ mixed (fun _ _ _ h => by cases h.1) rfl rfl rfl rfl ?_ ?_
              · refine TieA.have_ (fuel₁ := 2) (l₁ := [true, true, true, true, true, true, true, true, true, true, true, true, true, true, true, true, false, false]) (σ₁ := ⟨[(0, .own 1000000), (10, .t (tI s2.1)), (13, .t (tI s3.1)), (61, .own 1000000), (62, .t (tI s3.1)), (63, .own 1000000), (64, .t (tI s3.1)), (65, .t (tI (w64 (s3.1 + 1)))), (66, .own 1000000), (67, .t (tI s3.1)), (68, .t (tI (w64 (s3.1 + 1)))), (69, .pe 1000000 (Int.toNat (w64 (s3.1 + 1))) 4 0), (70, .agg [.t (tI x3.Source), .t (tI x3.Kind), .t (tI x3.Torque), .t (tI x3.Priority)]), (71, .own 1000000), (72, .t (tI s3.1)), (73, .pe 1000000 (Int.toNat s3.1) 4 0), (74, .agg [.t (tI x4.Source), .t (tI x4.Kind), .t (tI x4.Torque), .t (tI x4.Priority)]), (75, .pe 1000000 (Int.toNat s3.1) 4 0)], [(1000000, .rows 44 4 l.length (l.map enc_SRequest))]⟩) ?_ fun A_3 => ?_
                · exact TieA.done (.of rfl rfl)
                refine TieA.have_ (fuel₁ := 4) (l₁ := [true, true, true, true, true, true, true, true, true, true, true, true, true, true, false, false, false, false]) (σ₁ := ⟨[(0, .own 1000000), (10, .t (tI s2.1)), (13, .t (tI s3.1)), (61, .own 1000000), (62, .t (tI s3.1)), (63, .own 1000000), (64, .t (tI s3.1)), (65, .t (tI (w64 (s3.1 + 1)))), (66, .own 1000000), (67, .t (tI s3.1)), (68, .t (tI (w64 (s3.1 + 1)))), (69, .pe 1000000 (Int.toNat (w64 (s3.1 + 1))) 4 0), (70, .agg [.t (tI x3.Source), .t (tI x3.Kind), .t (tI x3.Torque), .t (tI x3.Priority)]), (71, .own 1000000), (72, .t (tI s3.1)), (73, .pe 1000000 (Int.toNat s3.1) 4 0), (74, .agg [.t (tI x4.Source), .t (tI x4.Kind), .t (tI x4.Torque), .t (tI x4.Priority)])], [(1000000, .rows 44 4 s3.2.length (s3.2.map enc_SRequest))]⟩) ?_ fun A_2 => ?_
                · refine TieA.idx 14 [true, true, true, true, true, true, true, true, true, true, true, true, true, true, true, false, false, false] hx4 rfl rfl rfl rfl rfl rfl (by kernel_rfl) (by kernel_rfl) (by kernel_rfl) rfl rfl rfl rfl rfl rfl ?_
                  refine TieA.all [15] (by kernel_rfl) rfl ?_
                  refine AllA.cons (σ₁ := ⟨[(0, .own 1000000), (10, .t (tI s2.1)), (13, .t (tI s3.1)), (61, .own 1000000), (62, .t (tI s3.1)), (63, .own 1000000), (64, .t (tI s3.1)), (65, .t (tI (w64 (s3.1 + 1)))), (66, .own 1000000), (67, .t (tI s3.1)), (68, .t (tI (w64 (s3.1 + 1)))), (69, .pe 1000000 (Int.toNat (w64 (s3.1 + 1))) 4 0), (70, .agg [.t (tI x3.Source), .t (tI x3.Kind), .t (tI x3.Torque), .t (tI x3.Priority)]), (71, .own 1000000), (72, .t (tI s3.1)), (73, .pe 1000000 (Int.toNat s3.1) 4 0), (74, .agg [.t (tI x4.Source), .t (tI x4.Kind), .t (tI x4.Torque), .t (tI x4.Priority)]), (75, .pe 1000000 (Int.toNat s3.1) 4 0)], [(1000000, .rows 44 4 l.length (l.map enc_SRequest))]⟩) [true, true, true, true, true, true, true, true, true, true, true, true, true, true, true, true, false, false] rfl rfl ?_ A_3 ?_
                  · refine TieO.withH hl (TieO.storeY x3 [tI x3.Source, tI x3.Kind, tI x3.Torque, tI x3.Priority] hx4 rfl rfl rfl rfl rfl rfl rfl rfl rfl rfl rfl rfl (TieO.ifG ?_))
                    exact TieO.nil (TieS.leaf ⟨rfl, .of rfl rfl⟩)
                  exact AllA.nil
                refine TieA.have_ (fuel₁ := 5) (l₁ := [true, true, true, true, true, true, true, true, true, true, true, true, true, false, false, false, false, false]) (σ₁ := ⟨[(0, .own 1000000), (10, .t (tI s2.1)), (13, .t (tI s3.1)), (61, .own 1000000), (62, .t (tI s3.1)), (63, .own 1000000), (64, .t (tI s3.1)), (65, .t (tI (w64 (s3.1 + 1)))), (66, .own 1000000), (67, .t (tI s3.1)), (68, .t (tI (w64 (s3.1 + 1)))), (69, .pe 1000000 (Int.toNat (w64 (s3.1 + 1))) 4 0), (70, .agg [.t (tI x3.Source), .t (tI x3.Kind), .t (tI x3.Torque), .t (tI x3.Priority)]), (71, .own 1000000), (72, .t (tI s3.1)), (73, .pe 1000000 (Int.toNat s3.1) 4 0)], [(1000000, .rows 44 4 s3.2.length (s3.2.map enc_SRequest))]⟩) ?_ fun A_1 => ?_
                · refine TieA.all [13] (by kernel_rfl) rfl ?_
                  refine AllA.cons (σ₁ := ⟨[(0, .own 1000000), (10, .t (tI s2.1)), (13, .t (tI s3.1)), (61, .own 1000000), (62, .t (tI s3.1)), (63, .own 1000000), (64, .t (tI s3.1)), (65, .t (tI (w64 (s3.1 + 1)))), (66, .own 1000000), (67, .t (tI s3.1)), (68, .t (tI (w64 (s3.1 + 1)))), (69, .pe 1000000 (Int.toNat (w64 (s3.1 + 1))) 4 0), (70, .agg [.t (tI x3.Source), .t (tI x3.Kind), .t (tI x3.Torque), .t (tI x3.Priority)]), (71, .own 1000000), (72, .t (tI s3.1)), (73, .pe 1000000 (Int.toNat s3.1) 4 0), (74, .agg [.t (tI x4.Source), .t (tI x4.Kind), .t (tI x4.Torque), .t (tI x4.Priority)])], [(1000000, .rows 44 4 s3.2.length (s3.2.map enc_SRequest))]⟩) [true, true, true, true, true, true, true, true, true, true, true, true, true, true, false, false, false, false] rfl rfl ?_ A_2 ?_
                  · refine TieO.loadY hx4 rfl rfl rfl rfl rfl rfl rfl rfl ?_
                    exact TieO.nil (TieS.leaf ⟨rfl, .of rfl rfl⟩)
                  exact AllA.nil
                refine TieA.have_ (fuel₁ := 5) (l₁ := [true, true, true, true, true, true, true, true, true, false, true, true, true, true, false, false, false, false]) (σ₁ := ⟨[(0, .own 1000000), (10, .t (tI s2.1)), (13, .t (tI s3.1)), (61, .own 1000000), (62, .t (tI s3.1)), (63, .own 1000000), (64, .t (tI s3.1)), (65, .t (tI (w64 (s3.1 + 1)))), (66, .own 1000000), (67, .t (tI s3.1)), (68, .t (tI (w64 (s3.1 + 1)))), (69, .pe 1000000 (Int.toNat (w64 (s3.1 + 1))) 4 0), (71, .own 1000000), (72, .t (tI s3.1)), (73, .pe 1000000 (Int.toNat s3.1) 4 0), (74, .agg [.t (tI x4.Source), .t (tI x4.Kind), .t (tI x4.Torque), .t (tI x4.Priority)])], [(1000000, .rows 44 4 s3.2.length (s3.2.map enc_SRequest))]⟩) ?_ fun A_4 => ?_
                · refine TieA.all [9] (by kernel_rfl) rfl ?_
                  refine AllA.cons (σ₁ := ⟨[(0, .own 1000000), (10, .t (tI s2.1)), (13, .t (tI s3.1)), (61, .own 1000000), (62, .t (tI s3.1)), (63, .own 1000000), (64, .t (tI s3.1)), (65, .t (tI (w64 (s3.1 + 1)))), (66, .own 1000000), (67, .t (tI s3.1)), (68, .t (tI (w64 (s3.1 + 1)))), (69, .pe 1000000 (Int.toNat (w64 (s3.1 + 1))) 4 0), (70, .agg [.t (tI x3.Source), .t (tI x3.Kind), .t (tI x3.Torque), .t (tI x3.Priority)]), (71, .own 1000000), (72, .t (tI s3.1)), (73, .pe 1000000 (Int.toNat s3.1) 4 0), (74, .agg [.t (tI x4.Source), .t (tI x4.Kind), .t (tI x4.Torque), .t (tI x4.Priority)])], [(1000000, .rows 44 4 s3.2.length (s3.2.map enc_SRequest))]⟩) [true, true, true, true, true, true, true, true, true, true, true, true, true, true, false, false, false, false] rfl rfl ?_ A_2 ?_
                  · refine TieO.loadY hx3 rfl rfl rfl rfl rfl rfl rfl rfl ?_
                    exact TieO.nil (TieS.leaf ⟨rfl, .of rfl rfl⟩)
                  exact AllA.nil
                refine TieA.move 0 [true, false, false, false, false, false, false, false, false, false, false, false, false, false, false, false, false, false] rfl rfl (by first | exact .inl rfl | exact .inr rfl) rfl rfl rfl (by kernel_rfl) (by kernel_rfl) (by kernel_rfl) rfl ?_
                refine TieA.move 1 [true, true, false, false, false, false, false, false, false, false, false, false, false, false, false, false, false, false] rfl rfl (by first | exact .inl rfl | exact .inr rfl) rfl rfl rfl (by kernel_rfl) (by kernel_rfl) (by kernel_rfl) rfl ?_
                refine TieA.move 2 [true, true, true, false, false, false, false, false, false, false, false, false, false, false, false, false, false, false] rfl rfl (by first | exact .inl rfl | exact .inr rfl) rfl rfl rfl (by kernel_rfl) (by kernel_rfl) (by kernel_rfl) rfl ?_
                refine TieA.move 3 [true, true, true, true, false, false, false, false, false, false, false, false, false, false, false, false, false, false] rfl rfl (by first | exact .inl rfl | exact .inr rfl) rfl rfl rfl (by kernel_rfl) (by kernel_rfl) (by kernel_rfl) rfl ?_
                refine TieA.bin (V := .t (tI (w64 (s3.1 + 1)))) 4 [true, true, true, true, true, false, false, false, false, false, false, false, false, false, false, false, false, false] rfl rfl rfl rfl rfl rfl (by kernel_rfl) (by kernel_rfl) (by kernel_rfl) rfl rfl rfl rfl ?_
                refine TieA.move 5 [true, true, true, true, true, true, false, false, false, false, false, false, false, false, false, false, false, false] rfl rfl (by first | exact .inl rfl | exact .inr rfl) rfl rfl rfl (by kernel_rfl) (by kernel_rfl) (by kernel_rfl) rfl ?_
                refine TieA.move 6 [true, true, true, true, true, true, true, false, false, false, false, false, false, false, false, false, false, false] rfl rfl (by first | exact .inl rfl | exact .inr rfl) rfl rfl rfl (by kernel_rfl) (by kernel_rfl) (by kernel_rfl) rfl ?_
                refine TieA.bin (V := .t (tI (w64 (s3.1 + 1)))) 7 [true, true, true, true, true, true, true, true, false, false, false, false, false, false, false, false, false, false] rfl rfl rfl rfl rfl rfl (by kernel_rfl) (by kernel_rfl) (by kernel_rfl) rfl rfl rfl rfl ?_
                refine TieA.idx 8 [true, true, true, true, true, true, true, true, true, false, false, false, false, false, false, false, false, false] hx3 rfl rfl rfl rfl rfl rfl (by kernel_rfl) (by kernel_rfl) (by kernel_rfl) rfl rfl rfl rfl rfl rfl ?_
                refine TieA.move 10 [true, true, true, true, true, true, true, true, true, false, true, false, false, false, false, false, false, false] rfl rfl (by first | exact .inl rfl | exact .inr rfl) rfl rfl rfl (by kernel_rfl) (by kernel_rfl) (by kernel_rfl) rfl ?_
                refine TieA.move 11 [true, true, true, true, true, true, true, true, true, false, true, true, false, false, false, false, false, false] rfl rfl (by first | exact .inl rfl | exact .inr rfl) rfl rfl rfl (by kernel_rfl) (by kernel_rfl) (by kernel_rfl) rfl ?_
                refine TieA.idx 12 [true, true, true, true, true, true, true, true, true, false, true, true, true, false, false, false, false, false] hx4 rfl rfl rfl rfl rfl rfl (by kernel_rfl) (by kernel_rfl) (by kernel_rfl) rfl rfl rfl rfl rfl rfl ?_
                refine TieA.all [9, 13] (by kernel_rfl) rfl ?_
                refine AllA.cons (σ₁ := ⟨[(0, .own 1000000), (10, .t (tI s2.1)), (13, .t (tI s3.1)), (61, .own 1000000), (62, .t (tI s3.1)), (63, .own 1000000), (64, .t (tI s3.1)), (65, .t (tI (w64 (s3.1 + 1)))), (66, .own 1000000), (67, .t (tI s3.1)), (68, .t (tI (w64 (s3.1 + 1)))), (69, .pe 1000000 (Int.toNat (w64 (s3.1 + 1))) 4 0), (70, .agg [.t (tI x3.Source), .t (tI x3.Kind), .t (tI x3.Torque), .t (tI x3.Priority)]), (71, .own 1000000), (72, .t (tI s3.1)), (73, .pe 1000000 (Int.toNat s3.1) 4 0)], [(1000000, .rows 44 4 s3.2.length (s3.2.map enc_SRequest))]⟩) [true, true, true, true, true, true, true, true, true, true, true, true, true, false, false, false, false, false] rfl rfl ?_ A_1 ?_
                · refine TieO.loadY hx3 rfl rfl rfl rfl rfl rfl rfl rfl ?_
                  exact TieO.nil (TieS.leaf ⟨rfl, .of rfl rfl⟩)
                refine AllA.cons (σ₁ := ⟨[(0, .own 1000000), (10, .t (tI s2.1)), (13, .t (tI s3.1)), (61, .own 1000000), (62, .t (tI s3.1)), (63, .own 1000000), (64, .t (tI s3.1)), (65, .t (tI (w64 (s3.1 + 1)))), (66, .own 1000000), (67, .t (tI s3.1)), (68, .t (tI (w64 (s3.1 + 1)))), (69, .pe 1000000 (Int.toNat (w64 (s3.1 + 1))) 4 0), (71, .own 1000000), (72, .t (tI s3.1)), (73, .pe 1000000 (Int.toNat s3.1) 4 0), (74, .agg [.t (tI x4.Source), .t (tI x4.Kind), .t (tI x4.Torque), .t (tI x4.Priority)])], [(1000000, .rows 44 4 s3.2.length (s3.2.map enc_SRequest))]⟩) [true, true, true, true, true, true, true, true, true, false, true, true, true, true, false, false, false, false] rfl rfl ?_ A_4 ?_
                · refine TieO.loadY hx4 rfl rfl rfl rfl rfl rfl rfl rfl ?_
                  exact TieO.nil (TieS.leaf ⟨rfl, .of rfl rfl⟩)
                exact AllA.nil
              refine TieO.indexO rfl rfl rfl rfl rfl rfl rfl rfl rfl rfl fun x5 hx5 => ?_
              refine TieO.storeY x4 [tI x4.Source, tI x4.Kind, tI x4.Torque, tI x4.Priority] hx5 rfl rfl rfl rfl rfl rfl rfl rfl rfl rfl rfl rfl fun l2 hl2 => ?_
              refine TieO.nil ?_
              exact TieS.leaf ⟨rfl, .of rfl rfl⟩
            rintro f2 e σ' _ ⟨rfl, hs⟩
            refine TieX.sub hs ?_
            refine TieS.endb ?_
            refine TieS.region ?_
            refine TieO.run 3 rfl ?_
            refine TieO.nil ?_
            exact TieS.leaf ⟨rfl, .of rfl rfl⟩
          · exact TieS.exitOut rfl ⟨(fun h => by cases h), rfl, .of rfl rfl⟩
        rintro (s4 | r) e σ' _ hq
        · obtain ⟨rfl, hs⟩ := hq
          refine TieX.exit rfl (TieX.sub hs ?_)
          exact TieS.ret ⟨.inl rfl, ⟨[(1000000, 1000000)], _, _, rfl, rfl, rfl, rfl, rfl⟩⟩
        · exact hq.elim
      · exact hq.elim
    · refine TieS.skip ?_
      refine TieS.seq ?_
      refine TieS.seq ?_
      refine TieS.region ?_
      refine TieO.run 4 rfl ?_
      refine TieO.nil ?_
      refine TieS.cond rfl ?_ ?_
      · refine TieS.seq ?_
        refine TieS.region ?_
        refine TieO.run 2 rfl ?_
        refine TieO.nil ?_
        refine TieS.seq ?_
        refine TieS.region ?_
        refine TieO.run 2 rfl ?_
        refine TieO.nil ?_
        refine TieS.seq ?_
        refine TieS.block ?_
        refine TieS.loop (fun t => ⟨[(0, .own 1000000), (2, .t (tI m2)), (4, .fz n2 cs), (14, .t (tI t.1)), (15, .t (tI t.2))], [(1000000, .rows 44 4 data.length (data.map enc_SRequest))]⟩) (fun b e σ' => match b with | .inl t => e = .exit 4 ∧ Sub ⟨[(0, .own 1000000), (2, .t (tI m2)), (14, .t (tI t.1))], [(1000000, .rows 44 4 data.length (data.map enc_SRequest))]⟩ σ' | .inr t => False) (.of rfl rfl) ?_ ?_
        · intro s5
          refine TieS.seq ?_
          refine TieS.seq ?_
          refine TieS.region ?_
          refine TieO.run 3 rfl ?_
          refine TieO.nil ?_
          refine TieS.cond rfl ?_ ?_
          · refine TieS.skip ?_
            refine TieS.block ?_
            refine TieS.seq ?_
            refine TieS.region ?_
            refine TieO.run 7 rfl ?_
            refine TieO.nil ?_
            refine TieS.seq ?_
            refine TieX.pre fun x6 hx6 => ?_
            refine TieX.pre fun x7 hx7 => ?_
            refine TieX.pre fun v2 hv2 => ?_
            refine TieS.draw 12 [.fz n2 cs, .own 1000000, .t (tI m2), .pe 1000000 (Int.toNat m2) 4 0, .agg [.t (tI x6.Source), .t (tI x6.Kind), .t (tI x6.Torque), .t (tI x6.Priority)], .own 1000000, .t (tI (w64 (bitShr .u64 (IntKind.u64.wrap (w64 (s5.1 + s5.2))) 1))), .pe 1000000 (Int.toNat (w64 (bitShr .u64 (IntKind.u64.wrap (w64 (s5.1 + s5.2))) 1))) 4 0, .agg [.t (tI x7.Source), .t (tI x7.Kind), .t (tI x7.Torque), .t (tI x7.Priority)], .t (tI v2), .t (tB (decide (v2 < 0))), .t (tB (!(decide (v2 < 0))))] [(0, .own 1000000), (2, .t (tI m2)), (4, .fz n2 cs), (14, .t (tI s5.1)), (15, .t (tI s5.2)), (16, .t (tI (w64 (bitShr .u64 (IntKind.u64.wrap (w64 (s5.1 + s5.2))) 1))))] [(1000000, .rows 44 4 data.length (data.map enc_SRequest))] mixed (.of rfl rfl) rfl rfl rfl rfl (.cons (.quiet rfl rfl rfl) (.cons (.quiet rfl rfl rfl) (.cons (.quiet rfl rfl rfl) (.cons (.indexO (sz := 4) hx6 rfl rfl rfl rfl rfl rfl rfl rfl) (.cons (.loadY hx6 rfl rfl rfl rfl rfl rfl) (.cons (.quiet rfl rfl rfl) (.cons (.quiet rfl rfl rfl) (.cons (.indexO (sz := 4) hx7 rfl rfl rfl rfl rfl rfl rfl rfl) (.cons (.loadY hx7 rfl rfl rfl rfl rfl rfl) (.cons (.callV (h2 x6 x7) hv2 rfl rfl rfl rfl) (.cons (.quiet rfl rfl rfl) (.cons (.quiet rfl rfl rfl) (.nil))))))))))))) ?_
            refine TieO.nil ?_
            refine TieS.cond rfl ?_ ?_
            · refine TieS.region ?_
              refine TieO.run 3 rfl ?_
              refine TieO.nil ?_
              refine TieS.endb ?_
              exact TieS.leaf ⟨rfl, .of rfl rfl⟩
            · refine TieS.region ?_
              refine TieO.run 2 rfl ?_
              refine TieO.nil ?_
              refine TieS.endb ?_
              exact TieS.leaf ⟨rfl, .of rfl rfl⟩
          · exact TieS.exitOut rfl ⟨(fun h => by cases h), rfl, .of rfl rfl⟩
        rintro (s6 | r) e σ' _ hq
        · obtain ⟨rfl, hs⟩ := hq
          refine TieX.exit rfl (TieX.sub hs ?_)
          refine TieS.seq ?_
          refine TieS.seq ?_
          refine TieS.region ?_
          refine TieO.run 2 rfl ?_
          refine TieO.nil ?_
          refine TieS.block ?_
          refine TieS.loop (fun t => ⟨[(0, .own 1000000), (14, .t (tI s6.1)), (17, .t (tI t.1))], [(1000000, .rows 44 4 t.2.length (t.2.map enc_SRequest))]⟩) (fun b e σ' => match b with | .inl t => e = .exit 6 ∧ Sub ⟨[], [(1000000, .rows 44 4 t.2.length (t.2.map enc_SRequest))]⟩ σ' | .inr t => False) (.of rfl rfl) ?_ ?_
          · intro s7
            refine TieS.seq ?_
            refine TieS.seq ?_
            refine TieS.region ?_
            refine TieO.run 3 rfl ?_
            refine TieO.nil ?_
            refine TieS.cond rfl ?_ ?_
            · refine TieS.skip ?_
              refine TieS.seq ?_
              refine TieS.block ?_
              refine TieS.bind (Q₁ := fun t e σ' => e = .normal ∧ Sub ⟨[(0, .own 1000000), (14, .t (tI s6.1)), (17, .t (tI s7.1))], [(1000000, .rows 44 4 t.length (t.map enc_SRequest))]⟩ σ') ?_ ?_
              · refine TieX.pre fun x8 hx8 => ?_
                refine TieX.pre fun x9 hx9 => ?_
                refine TieX.pre fun l3 hl3 => ?_
                refine TieS.draws 16 [false, false, false, false, false, false, false, false, false, false, false, false, false, false, false, false, false, false] [true, true, true, true, true, true, true, true, true, true, true, true, true, true, true, true, false, false] ⟨[(0, .own 1000000), (14, .t (tI s6.1)), (17, .t (tI s7.1)), (113, .own 1000000), (114, .t (tI s7.1)), (115, .own 1000000), (116, .t (tI s7.1)), (117, .t (tI (w64 (s7.1 - 1)))), (118, .own 1000000), (119, .t (tI s7.1)), (120, .t (tI (w64 (s7.1 - 1)))), (121, .pe 1000000 (Int.toNat (w64 (s7.1 - 1))) 4 0), (122, .agg [.t (tI x8.Source), .t (tI x8.Kind), .t (tI x8.Torque), .t (tI x8.Priority)]), (123, .own 1000000), (124, .t (tI s7.1)), (125, .pe 1000000 (Int.toNat s7.1) 4 0), (126, .agg [.t (tI x9.Source), .t (tI x9.Kind), .t (tI x9.Torque), .t (tI x9.Priority)]), (127, .pe 1000000 (Int.toNat s7.1) 4 0)], [(1000000, .rows 44 4 l3.length (l3.map enc_SRequest))]⟩ mixed (fun _ _ _ h => by cases h.1) rfl rfl rfl rfl ?_ ?_
                · refine TieA.have_ (fuel₁ := 2) (l₁ := [true, true, true, true, true, true, true, true, true, true, true, true, true, true, true, true, false, false]) (σ₁ := ⟨[(0, .own 1000000), (14, .t (tI s6.1)), (17, .t (tI s7.1)), (113, .own 1000000), (114, .t (tI s7.1)), (115, .own 1000000), (116, .t (tI s7.1)), (117, .t (tI (w64 (s7.1 - 1)))), (118, .own 1000000), (119, .t (tI s7.1)), (120, .t (tI (w64 (s7.1 - 1)))), (121, .pe 1000000 (Int.toNat (w64 (s7.1 - 1))) 4 0), (122, .agg [.t (tI x8.Source), .t (tI x8.Kind), .t (tI x8.Torque), .t (tI x8.Priority)]), (123, .own 1000000), (124, .t (tI s7.1)), (125, .pe 1000000 (Int.toNat s7.1) 4 0), (126, .agg [.t (tI x9.Source), .t (tI x9.Kind), .t (tI x9.Torque), .t (tI x9.Priority)]), (127, .pe 1000000 (Int.toNat s7.1) 4 0)], [(1000000, .rows 44 4 l3.length (l3.map enc_SRequest))]⟩) ?_ fun A_3 => ?_
                  · exact TieA.done (.of rfl rfl)
                  refine TieA.have_ (fuel₁ := 4) (l₁ := [true, true, true, true, true, true, true, true, true, true, true, true, true, true, false, false, false, false]) (σ₁ := ⟨[(0, .own 1000000), (14, .t (tI s6.1)), (17, .t (tI s7.1)), (113, .own 1000000), (114, .t (tI s7.1)), (115, .own 1000000), (116, .t (tI s7.1)), (117, .t (tI (w64 (s7.1 - 1)))), (118, .own 1000000), (119, .t (tI s7.1)), (120, .t (tI (w64 (s7.1 - 1)))), (121, .pe 1000000 (Int.toNat (w64 (s7.1 - 1))) 4 0), (122, .agg [.t (tI x8.Source), .t (tI x8.Kind), .t (tI x8.Torque), .t (tI x8.Priority)]), (123, .own 1000000), (124, .t (tI s7.1)), (125, .pe 1000000 (Int.toNat s7.1) 4 0), (126, .agg [.t (tI x9.Source), .t (tI x9.Kind), .t (tI x9.Torque), .t (tI x9.Priority)])], [(1000000, .rows 44 4 s7.2.length (s7.2.map enc_SRequest))]⟩) ?_ fun A_2 => ?_
                  · refine TieA.idx 14 [true, true, true, true, true, true, true, true, true, true, true, true, true, true, true, false, false, false] hx9 rfl rfl rfl rfl rfl rfl (by kernel_rfl) (by kernel_rfl) (by kernel_rfl) rfl rfl rfl rfl rfl rfl ?_
                    refine TieA.all [15] (by kernel_rfl) rfl ?_
                    refine AllA.cons (σ₁ := ⟨[(0, .own 1000000), (14, .t (tI s6.1)), (17, .t (tI s7.1)), (113, .own 1000000), (114, .t (tI s7.1)), (115, .own 1000000), (116, .t (tI s7.1)), (117, .t (tI (w64 (s7.1 - 1)))), (118, .own 1000000), (119, .t (tI s7.1)), (120, .t (tI (w64 (s7.1 - 1)))), (121, .pe 1000000 (Int.toNat (w64 (s7.1 - 1))) 4 0), (122, .agg [.t (tI x8.Source), .t (tI x8.Kind), .t (tI x8.Torque), .t (tI x8.Priority)]), (123, .own 1000000), (124, .t (tI s7.1)), (125, .pe 1000000 (Int.toNat s7.1) 4 0), (126, .agg [.t (tI x9.Source), .t (tI x9.Kind), .t (tI x9.Torque), .t (tI x9.Priority)]), (127, .pe 1000000 (Int.toNat s7.1) 4 0)], [(1000000, .rows 44 4 l3.length (l3.map enc_SRequest))]⟩) [true, true, true, true, true, true, true, true, true, true, true, true, true, true, true, true, false, false] rfl rfl ?_ A_3 ?_
                    · refine TieO.withH hl3 (TieO.storeY x8 [tI x8.Source, tI x8.Kind, tI x8.Torque, tI x8.Priority] hx9 rfl rfl rfl rfl rfl rfl rfl rfl rfl rfl rfl rfl (TieO.ifG ?_))
                      exact TieO.nil (TieS.leaf ⟨rfl, .of rfl rfl⟩)
                    exact AllA.nil
                  refine TieA.have_ (fuel₁ := 5) (l₁ := [true, true, true, true, true, true, true, true, true, true, true, true, true, false, false, false, false, false]) (σ₁ := ⟨[(0, .own 1000000), (14, .t (tI s6.1)), (17, .t (tI s7.1)), (113, .own 1000000), (114, .t (tI s7.1)), (115, .own 1000000), (116, .t (tI s7.1)), (117, .t (tI (w64 (s7.1 - 1)))), (118, .own 1000000), (119, .t (tI s7.1)), (120, .t (tI (w64 (s7.1 - 1)))), (121, .pe 1000000 (Int.toNat (w64 (s7.1 - 1))) 4 0), (122, .agg [.t (tI x8.Source), .t (tI x8.Kind), .t (tI x8.Torque), .t (tI x8.Priority)]), (123, .own 1000000), (124, .t (tI s7.1)), (125, .pe 1000000 (Int.toNat s7.1) 4 0)], [(1000000, .rows 44 4 s7.2.length (s7.2.map enc_SRequest))]⟩) ?_ fun A_1 => ?_
                  · refine TieA.all [13] (by kernel_rfl) rfl ?_
                    refine AllA.cons (σ₁ := ⟨[(0, .own 1000000), (14, .t (tI s6.1)), (17, .t (tI s7.1)), (113, .own 1000000), (114, .t (tI s7.1)), (115, .own 1000000), (116, .t (tI s7.1)), (117, .t (tI (w64 (s7.1 - 1)))), (118, .own 1000000), (119, .t (tI s7.1)), (120, .t (tI (w64 (s7.1 - 1)))), (121, .pe 1000000 (Int.toNat (w64 (s7.1 - 1))) 4 0), (122, .agg [.t (tI x8.Source), .t (tI x8.Kind), .t (tI x8.Torque), .t (tI x8.Priority)]), (123, .own 1000000), (124, .t (tI s7.1)), (125, .pe 1000000 (Int.toNat s7.1) 4 0), (126, .agg [.t (tI x9.Source), .t (tI x9.Kind), .t (tI x9.Torque), .t (tI x9.Priority)])], [(1000000, .rows 44 4 s7.2.length (s7.2.map enc_SRequest))]⟩) [true, true, true, true, true, true, true, true, true, true, true, true, true, true, false, false, false, false] rfl rfl ?_ A_2 ?_
                    · refine TieO.loadY hx9 rfl rfl rfl rfl rfl rfl rfl rfl ?_
                      exact TieO.nil (TieS.leaf ⟨rfl, .of rfl rfl⟩)
                    exact AllA.nil
                  refine TieA.have_ (fuel₁ := 5) (l₁ := [true, true, true, true, true, true, true, true, true, false, true, true, true, true, false, false, false, false]) (σ₁ := ⟨[(0, .own 1000000), (14, .t (tI s6.1)), (17, .t (tI s7.1)), (113, .own 1000000), (114, .t (tI s7.1)), (115, .own 1000000), (116, .t (tI s7.1)), (117, .t (tI (w64 (s7.1 - 1)))), (118, .own 1000000), (119, .t (tI s7.1)), (120, .t (tI (w64 (s7.1 - 1)))), (121, .pe 1000000 (Int.toNat (w64 (s7.1 - 1))) 4 0), (123, .own 1000000), (124, .t (tI s7.1)), (125, .pe 1000000 (Int.toNat s7.1) 4 0), (126, .agg [.t (tI x9.Source), .t (tI x9.Kind), .t (tI x9.Torque), .t (tI x9.Priority)])], [(1000000, .rows 44 4 s7.2.length (s7.2.map enc_SRequest))]⟩) ?_ fun A_4 => ?_
                  · refine TieA.all [9] (by kernel_rfl) rfl ?_
                    refine AllA.cons (σ₁ := ⟨[(0, .own 1000000), (14, .t (tI s6.1)), (17, .t (tI s7.1)), (113, .own 1000000), (114, .t (tI s7.1)), (115, .own 1000000), (116, .t (tI s7.1)), (117, .t (tI (w64 (s7.1 - 1)))), (118, .own 1000000), (119, .t (tI s7.1)), (120, .t (tI (w64 (s7.1 - 1)))), (121, .pe 1000000 (Int.toNat (w64 (s7.1 - 1))) 4 0), (122, .agg [.t (tI x8.Source), .t (tI x8.Kind), .t (tI x8.Torque), .t (tI x8.Priority)]), (123, .own 1000000), (124, .t (tI s7.1)), (125, .pe 1000000 (Int.toNat s7.1) 4 0), (126, .agg [.t (tI x9.Source), .t (tI x9.Kind), .t (tI x9.Torque), .t (tI x9.Priority)])], [(1000000, .rows 44 4 s7.2.length (s7.2.map enc_SRequest))]⟩) [true, true, true, true, true, true, true, true, true, true, true, true, true, true, false, false, false, false] rfl rfl ?_ A_2 ?_
                    · refine TieO.loadY hx8 rfl rfl rfl rfl rfl rfl rfl rfl ?_
                      exact TieO.nil (TieS.leaf ⟨rfl, .of rfl rfl⟩)
                    exact AllA.nil
                  refine TieA.move 0 [true, false, false, false, false, false, false, false, false, false, false, false, false, false, false, false, false, false] rfl rfl (by first | exact .inl rfl | exact .inr rfl) rfl rfl rfl (by kernel_rfl) (by kernel_rfl) (by kernel_rfl) rfl ?_
                  refine TieA.move 1 [true, true, false, false, false, false, false, false, false, false, false, false, false, false, false, false, false, false] rfl rfl (by first | exact .inl rfl | exact .inr rfl) rfl rfl rfl (by kernel_rfl) (by kernel_rfl) (by kernel_rfl) rfl ?_
                  refine TieA.move 2 [true, true, true, false, false, false, false, false, false, false, false, false, false, false, false, false, false, false] rfl rfl (by first | exact .inl rfl | exact .inr rfl) rfl rfl rfl (by kernel_rfl) (by kernel_rfl) (by kernel_rfl) rfl ?_
                  refine TieA.move 3 [true, true, true, true, false, false, false, false, false, false, false, false, false, false, false, false, false, false] rfl rfl (by first | exact .inl rfl | exact .inr rfl) rfl rfl rfl (by kernel_rfl) (by kernel_rfl) (by kernel_rfl) rfl ?_
                  refine TieA.bin (V := .t (tI (w64 (s7.1 - 1)))) 4 [true, true, true, true, true, false, false, false, false, false, false, false, false, false, false, false, false, false] rfl rfl rfl rfl rfl rfl (by kernel_rfl) (by kernel_rfl) (by kernel_rfl) rfl rfl rfl rfl ?_
                  refine TieA.move 5 [true, true, true, true, true, true, false, false, false, false, false, false, false, false, false, false, false, false] rfl rfl (by first | exact .inl rfl | exact .inr rfl) rfl rfl rfl (by kernel_rfl) (by kernel_rfl) (by kernel_rfl) rfl ?_
                  refine TieA.move 6 [true, true, true, true, true, true, true, false, false, false, false, false, false, false, false, false, false, false] rfl rfl (by first | exact .inl rfl | exact .inr rfl) rfl rfl rfl (by kernel_rfl) (by kernel_rfl) (by kernel_rfl) rfl ?_
                  refine TieA.bin (V := .t (tI (w64 (s7.1 - 1)))) 7 [true, true, true, true, true, true, true, true, false, false, false, false, false, false, false, false, false, false] rfl rfl rfl rfl rfl rfl (by kernel_rfl) (by kernel_rfl) (by kernel_rfl) rfl rfl rfl rfl ?_
                  refine TieA.idx 8 [true, true, true, true, true, true, true, true, true, false, false, false, false, false, false, false, false, false] hx8 rfl rfl rfl rfl rfl rfl (by kernel_rfl) (by kernel_rfl) (by kernel_rfl) rfl rfl rfl rfl rfl rfl ?_
                  refine TieA.move 10 [true, true, true, true, true, true, true, true, true, false, true, false, false, false, false, false, false, false] rfl rfl (by first | exact .inl rfl | exact .inr rfl) rfl rfl rfl (by kernel_rfl) (by kernel_rfl) (by kernel_rfl) rfl ?_
                  refine TieA.move 11 [true, true, true, true, true, true, true, true, true, false, true, true, false, false, false, false, false, false] rfl rfl (by first | exact .inl rfl | exact .inr rfl) rfl rfl rfl (by kernel_rfl) (by kernel_rfl) (by kernel_rfl) rfl ?_
                  refine TieA.idx 12 [true, true, true, true, true, true, true, true, true, false, true, true, true, false, false, false, false, false] hx9 rfl rfl rfl rfl rfl rfl (by kernel_rfl) (by kernel_rfl) (by kernel_rfl) rfl rfl rfl rfl rfl rfl ?_
                  refine TieA.all [9, 13] (by kernel_rfl) rfl ?_
                  refine AllA.cons (σ₁ := ⟨[(0, .own 1000000), (14, .t (tI s6.1)), (17, .t (tI s7.1)), (113, .own 1000000), (114, .t (tI s7.1)), (115, .own 1000000), (116, .t (tI s7.1)), (117, .t (tI (w64 (s7.1 - 1)))), (118, .own 1000000), (119, .t (tI s7.1)), (120, .t (tI (w64 (s7.1 - 1)))), (121, .pe 1000000 (Int.toNat (w64 (s7.1 - 1))) 4 0), (122, .agg [.t (tI x8.Source), .t (tI x8.Kind), .t (tI x8.Torque), .t (tI x8.Priority)]), (123, .own 1000000), (124, .t (tI s7.1)), (125, .pe 1000000 (Int.toNat s7.1) 4 0)], [(1000000, .rows 44 4 s7.2.length (s7.2.map enc_SRequest))]⟩) [true, true, true, true, true, true, true, true, true, true, true, true, true, false, false, false, false, false] rfl rfl ?_ A_1 ?_
                  · refine TieO.loadY hx8 rfl rfl rfl rfl rfl rfl rfl rfl ?_
                    exact TieO.nil (TieS.leaf ⟨rfl, .of rfl rfl⟩)
                  refine AllA.cons (σ₁ := ⟨[(0, .own 1000000), (14, .t (tI s6.1)), (17, .t (tI s7.1)), (113, .own 1000000), (114, .t (tI s7.1)), (115, .own 1000000), (116, .t (tI s7.1)), (117, .t (tI (w64 (s7.1 - 1)))), (118, .own 1000000), (119, .t (tI s7.1)), (120, .t (tI (w64 (s7.1 - 1)))), (121, .pe 1000000 (Int.toNat (w64 (s7.1 - 1))) 4 0), (123, .own 1000000), (124, .t (tI s7.1)), (125, .pe 1000000 (Int.toNat s7.1) 4 0), (126, .agg [.t (tI x9.Source), .t (tI x9.Kind), .t (tI x9.Torque), .t (tI x9.Priority)])], [(1000000, .rows 44 4 s7.2.length (s7.2.map enc_SRequest))]⟩) [true, true, true, true, true, true, true, true, true, false, true, true, true, true, false, false, false, false] rfl rfl ?_ A_4 ?_
                  · refine TieO.loadY hx9 rfl rfl rfl rfl rfl rfl rfl rfl ?_
                    exact TieO.nil (TieS.leaf ⟨rfl, .of rfl rfl⟩)
                  exact AllA.nil
                refine TieO.indexO rfl rfl rfl rfl rfl rfl rfl rfl rfl rfl fun x10 hx10 => ?_
                refine TieO.storeY x9 [tI x9.Source, tI x9.Kind, tI x9.Torque, tI x9.Priority] hx10 rfl rfl rfl rfl rfl rfl rfl rfl rfl rfl rfl rfl fun l4 hl4 => ?_
                refine TieO.nil ?_
                exact TieS.leaf ⟨rfl, .of rfl rfl⟩
              rintro f3 e σ' _ ⟨rfl, hs⟩
              refine TieX.sub hs ?_
              refine TieS.endb ?_
              refine TieS.region ?_
              refine TieO.run 3 rfl ?_
              refine TieO.nil ?_
              exact TieS.leaf ⟨rfl, .of rfl rfl⟩
            · exact TieS.exitOut rfl ⟨(fun h => by cases h), rfl, .of rfl rfl⟩
          rintro (s8 | r) e σ' _ hq
          · obtain ⟨rfl, hs⟩ := hq
            refine TieX.exit rfl (TieX.sub hs ?_)
            exact TieS.ret ⟨.inl rfl, ⟨[(1000000, 1000000)], _, _, rfl, rfl, rfl, rfl, rfl⟩⟩
          · exact hq.elim
        · exact hq.elim
      · refine TieS.skip ?_
        refine TieS.seq ?_
        refine TieS.region ?_
        refine TieO.run 7 rfl ?_
        refine TieO.nil ?_
        refine TieS.seq ?_
        refine TieS.region ?_
        refine TieO.run 4 rfl ?_
        refine TieO.nil ?_
        refine TieS.seq ?_
        refine TieS.region ?_
        refine TieO.run 2 rfl ?_
        refine TieO.nil ?_
        refine TieS.seq ?_
        refine TieS.seq ?_
        refine TieS.region ?_
        refine TieO.run 3 rfl ?_
        refine TieO.nil ?_
        refine TieS.bind (Q₁ := fun t e σ' => e = .normal ∧ Sub ⟨[(0, .own 1000000), (1, .t (tI a)), (2, .t (tI m2)), (3, .t (tI b2)), (4, .fz n2 cs), (18, .t (tI (w64 (bitShr .u64 (IntKind.u64.wrap (w64 (a + b2))) 1)))), (19, .t (tI (w64 ((w64 (bitShr .u64 (IntKind.u64.wrap (w64 (a + b2))) 1)) + m2)))), (20, .t (tI t.1)), (21, .t (tI t.2))], [(1000000, .rows 44 4 data.length (data.map enc_SRequest))]⟩ σ') ?_ ?_
        · refine TieS.cond rfl ?_ ?_
          · refine TieS.seq ?_
            refine TieS.region ?_
            refine TieO.run 4 rfl ?_
            refine TieO.nil ?_
            refine TieS.region ?_
            refine TieO.run 2 rfl ?_
            refine TieO.nil ?_
            exact TieS.leaf ⟨rfl, .of rfl rfl⟩
          · refine TieS.seq ?_
            refine TieS.region ?_
            refine TieO.run 2 rfl ?_
            refine TieO.nil ?_
            refine TieS.region ?_
            refine TieO.run 2 rfl ?_
            refine TieO.nil ?_
            exact TieS.leaf ⟨rfl, .of rfl rfl⟩
        rintro s9 e σ' _ ⟨rfl, hs⟩
        refine TieX.sub hs ?_
        refine TieS.seq ?_
        refine TieS.region ?_
        refine TieO.run 3 rfl ?_
        refine TieO.nil ?_
        refine TieS.seq ?_
        refine TieS.block ?_
        refine TieS.loop (fun t => ⟨[(0, .own 1000000), (1, .t (tI a)), (2, .t (tI m2)), (3, .t (tI b2)), (4, .fz n2 cs), (18, .t (tI (w64 (bitShr .u64 (IntKind.u64.wrap (w64 (a + b2))) 1)))), (19, .t (tI (w64 ((w64 (bitShr .u64 (IntKind.u64.wrap (w64 (a + b2))) 1)) + m2)))), (20, .t (tI t.1)), (21, .t (tI t.2)), (22, .t (tI (w64 ((w64 ((w64 (bitShr .u64 (IntKind.u64.wrap (w64 (a + b2))) 1)) + m2)) - 1))))], [(1000000, .rows 44 4 data.length (data.map enc_SRequest))]⟩) (fun b e σ' => match b with | .inl t => e = .exit 8 ∧ Sub ⟨[(0, .own 1000000), (1, .t (tI a)), (2, .t (tI m2)), (3, .t (tI b2)), (4, .fz n2 cs), (18, .t (tI (w64 (bitShr .u64 (IntKind.u64.wrap (w64 (a + b2))) 1)))), (19, .t (tI (w64 ((w64 (bitShr .u64 (IntKind.u64.wrap (w64 (a + b2))) 1)) + m2)))), (20, .t (tI t.1))], [(1000000, .rows 44 4 data.length (data.map enc_SRequest))]⟩ σ' | .inr t => False) (.of rfl rfl) ?_ ?_
        · intro s10
          refine TieS.seq ?_
          refine TieS.seq ?_
          refine TieS.region ?_
          refine TieO.run 3 rfl ?_
          refine TieO.nil ?_
          refine TieS.cond rfl ?_ ?_
          · refine TieS.skip ?_
            refine TieS.block ?_
            refine TieS.seq ?_
            refine TieS.region ?_
            refine TieO.run 7 rfl ?_
            refine TieO.nil ?_
            refine TieS.seq ?_
            refine TieX.pre fun x11 hx11 => ?_
            refine TieX.pre fun x12 hx12 => ?_
            refine TieX.pre fun v3 hv3 => ?_
            refine TieS.draw 14 [.fz n2 cs, .own 1000000, .t (tI (w64 ((w64 ((w64 (bitShr .u64 (IntKind.u64.wrap (w64 (a + b2))) 1)) + m2)) - 1))), .t (tI (w64 (bitShr .u64 (IntKind.u64.wrap (w64 (s10.1 + s10.2))) 1))), .t (tI (w64 ((w64 ((w64 ((w64 (bitShr .u64 (IntKind.u64.wrap (w64 (a + b2))) 1)) + m2)) - 1)) - (w64 (bitShr .u64 (IntKind.u64.wrap (w64 (s10.1 + s10.2))) 1))))), .pe 1000000 (Int.toNat (w64 ((w64 ((w64 ((w64 (bitShr .u64 (IntKind.u64.wrap (w64 (a + b2))) 1)) + m2)) - 1)) - (w64 (bitShr .u64 (IntKind.u64.wrap (w64 (s10.1 + s10.2))) 1))))) 4 0, .agg [.t (tI x11.Source), .t (tI x11.Kind), .t (tI x11.Torque), .t (tI x11.Priority)], .own 1000000, .t (tI (w64 (bitShr .u64 (IntKind.u64.wrap (w64 (s10.1 + s10.2))) 1))), .pe 1000000 (Int.toNat (w64 (bitShr .u64 (IntKind.u64.wrap (w64 (s10.1 + s10.2))) 1))) 4 0, .agg [.t (tI x12.Source), .t (tI x12.Kind), .t (tI x12.Torque), .t (tI x12.Priority)], .t (tI v3), .t (tB (decide (v3 < 0))), .t (tB (!(decide (v3 < 0))))] [(0, .own 1000000), (1, .t (tI a)), (2, .t (tI m2)), (3, .t (tI b2)), (4, .fz n2 cs), (18, .t (tI (w64 (bitShr .u64 (IntKind.u64.wrap (w64 (a + b2))) 1)))), (19, .t (tI (w64 ((w64 (bitShr .u64 (IntKind.u64.wrap (w64 (a + b2))) 1)) + m2)))), (20, .t (tI s10.1)), (21, .t (tI s10.2)), (22, .t (tI (w64 ((w64 ((w64 (bitShr .u64 (IntKind.u64.wrap (w64 (a + b2))) 1)) + m2)) - 1)))), (23, .t (tI (w64 (bitShr .u64 (IntKind.u64.wrap (w64 (s10.1 + s10.2))) 1))))] [(1000000, .rows 44 4 data.length (data.map enc_SRequest))] mixed (.of rfl rfl) rfl rfl rfl rfl (.cons (.quiet rfl rfl rfl) (.cons (.quiet rfl rfl rfl) (.cons (.quiet rfl rfl rfl) (.cons (.quiet rfl rfl rfl) (.cons (.quiet rfl rfl rfl) (.cons (.indexO (sz := 4) hx11 rfl rfl rfl rfl rfl rfl rfl rfl) (.cons (.loadY hx11 rfl rfl rfl rfl rfl rfl) (.cons (.quiet rfl rfl rfl) (.cons (.quiet rfl rfl rfl) (.cons (.indexO (sz := 4) hx12 rfl rfl rfl rfl rfl rfl rfl rfl) (.cons (.loadY hx12 rfl rfl rfl rfl rfl rfl) (.cons (.callV (h2 x11 x12) hv3 rfl rfl rfl rfl) (.cons (.quiet rfl rfl rfl) (.cons (.quiet rfl rfl rfl) (.nil))))))))))))))) ?_
            refine TieO.nil ?_
            refine TieS.cond rfl ?_ ?_
            · refine TieS.region ?_
              refine TieO.run 3 rfl ?_
              refine TieO.nil ?_
              refine TieS.endb ?_
              exact TieS.leaf ⟨rfl, .of rfl rfl⟩
            · refine TieS.region ?_
              refine TieO.run 2 rfl ?_
              refine TieO.nil ?_
              refine TieS.endb ?_
              exact TieS.leaf ⟨rfl, .of rfl rfl⟩
          · exact TieS.exitOut rfl ⟨(fun h => by cases h), rfl, .of rfl rfl⟩
        rintro (s11 | r) e σ' _ hq
        · obtain ⟨rfl, hs⟩ := hq
          refine TieX.exit rfl (TieX.sub hs ?_)
          refine TieS.seq ?_
          refine TieS.region ?_
          refine TieO.run 4 rfl ?_
          refine TieO.nil ?_
          refine TieS.seq ?_
          refine TieS.seq ?_
          refine TieS.region ?_
          refine TieO.run 4 rfl ?_
          refine TieO.selAnd (v := decide (m2 < (w64 ((w64 ((w64 (bitShr .u64 (IntKind.u64.wrap (w64 (a + b2))) 1)) + m2)) - s11.1)))) 4 181 (fun b => ⟨[(0, .own 1000000), (1, .t (tI a)), (2, .t (tI m2)), (3, .t (tI b2)), (4, .fz n2 cs), (18, .t (tI (w64 (bitShr .u64 (IntKind.u64.wrap (w64 (a + b2))) 1)))), (20, .t (tI s11.1)), (24, .t (tI (w64 ((w64 ((w64 (bitShr .u64 (IntKind.u64.wrap (w64 (a + b2))) 1)) + m2)) - s11.1)))), (185, .t (tB b))], [(1000000, .rows 44 4 data.length (data.map enc_SRequest))]⟩) rfl ?_ ?_ ?_
          · refine TieO.run 4 rfl ?_
            refine TieO.nil ?_
            exact TieS.leaf ⟨rfl, .of rfl rfl⟩
          · refine TieO.run 4 rfl ?_
            refine TieO.nil ?_
            exact TieS.leaf ⟨rfl, .of rfl rfl⟩
          refine TieO.nil ?_
          refine TieS.bind (Q₁ := fun t e σ' => e = .normal ∧ Sub ⟨[(0, .own 1000000), (1, .t (tI a)), (3, .t (tI b2)), (4, .fz n2 cs), (18, .t (tI (w64 (bitShr .u64 (IntKind.u64.wrap (w64 (a + b2))) 1)))), (20, .t (tI s11.1)), (24, .t (tI (w64 ((w64 ((w64 (bitShr .u64 (IntKind.u64.wrap (w64 (a + b2))) 1)) + m2)) - s11.1))))], [(1000000, .rows 44 4 t.length (t.map enc_SRequest))]⟩ σ') ?_ ?_
          · refine TieS.cond rfl ?_ ?_
            · refine TieS.region ?_
              refine TieO.run 5 rfl ?_
              refine TieO.callG [(1000000, 1000000)] [] (fun v4 => ⟨[(0, .own 1000000), (1, .t (tI a)), (2, .t (tI m2)), (3, .t (tI b2)), (4, .fz n2 cs), (18, .t (tI (w64 (bitShr .u64 (IntKind.u64.wrap (w64 (a + b2))) 1)))), (20, .t (tI s11.1)), (24, .t (tI (w64 ((w64 ((w64 (bitShr .u64 (IntKind.u64.wrap (w64 (a + b2))) 1)) + m2)) - s11.1)))), (185, .t (tB ((decide (s11.1 < m2)) && (decide (m2 < (w64 ((w64 ((w64 (bitShr .u64 (IntKind.u64.wrap (w64 (a + b2))) 1)) + m2)) - s11.1))))))), (186, .own 1000000), (187, .t (tI s11.1)), (188, .t (tI m2)), (189, .t (tI (w64 ((w64 ((w64 (bitShr .u64 (IntKind.u64.wrap (w64 (a + b2))) 1)) + m2)) - s11.1)))), (190, .fz n2 cs), (191, .tup [])], [(1000000, .rows 44 4 v4.length (v4.map enc_SRequest))]⟩) (tie_slices_rotateCmpFunc_Request data s11.1 m2 (w64 ((w64 ((w64 (bitShr .u64 (IntKind.u64.wrap (w64 (a + b2))) 1)) + m2)) - s11.1)) n2 cs cmp h2) rfl rfl rfl rfl rfl rfl rfl (fun _ => rfl) (fun _ => rfl) (fun _ => rfl) (fun _ => .of rfl rfl) fun v4 hv4 => ?_
              refine TieO.nil ?_
              exact TieS.leaf ⟨rfl, .of rfl rfl⟩
            · refine TieS.skip ?_
              exact TieS.leaf ⟨rfl, .of rfl rfl⟩
          rintro f4 e σ' _ ⟨rfl, hs⟩
          refine TieX.sub hs ?_
          refine TieS.seq ?_
          refine TieS.seq ?_
          refine TieS.region ?_
          refine TieO.run 4 rfl ?_
          refine TieO.selAnd (v := decide (s11.1 < (w64 (bitShr .u64 (IntKind.u64.wrap (w64 (a + b2))) 1)))) 4 195 (fun b => ⟨[(0, .own 1000000), (1, .t (tI a)), (3, .t (tI b2)), (4, .fz n2 cs), (18, .t (tI (w64 (bitShr .u64 (IntKind.u64.wrap (w64 (a + b2))) 1)))), (20, .t (tI s11.1)), (24, .t (tI (w64 ((w64 ((w64 (bitShr .u64 (IntKind.u64.wrap (w64 (a + b2))) 1)) + m2)) - s11.1)))), (199, .t (tB b))], [(1000000, .rows 44 4 f4.length (f4.map enc_SRequest))]⟩) rfl ?_ ?_ ?_
          · refine TieO.run 4 rfl ?_
            refine TieO.nil ?_
            exact TieS.leaf ⟨rfl, .of rfl rfl⟩
          · refine TieO.run 4 rfl ?_
            refine TieO.nil ?_
            exact TieS.leaf ⟨rfl, .of rfl rfl⟩
          refine TieO.nil ?_
          refine TieS.bind (Q₁ := fun t e σ' => e = .normal ∧ Sub ⟨[(0, .own 1000000), (3, .t (tI b2)), (4, .fz n2 cs), (18, .t (tI (w64 (bitShr .u64 (IntKind.u64.wrap (w64 (a + b2))) 1)))), (24, .t (tI (w64 ((w64 ((w64 (bitShr .u64 (IntKind.u64.wrap (w64 (a + b2))) 1)) + m2)) - s11.1))))], [(1000000, .rows 44 4 t.length (t.map enc_SRequest))]⟩ σ') ?_ ?_
          · refine TieS.cond rfl ?_ ?_
            · refine TieS.region ?_
              refine TieO.run 5 rfl ?_
              refine TieO.callG [(1000000, 1000000)] [] (fun v5 => ⟨[(0, .own 1000000), (1, .t (tI a)), (3, .t (tI b2)), (4, .fz n2 cs), (18, .t (tI (w64 (bitShr .u64 (IntKind.u64.wrap (w64 (a + b2))) 1)))), (20, .t (tI s11.1)), (24, .t (tI (w64 ((w64 ((w64 (bitShr .u64 (IntKind.u64.wrap (w64 (a + b2))) 1)) + m2)) - s11.1)))), (199, .t (tB ((decide (a < s11.1)) && (decide (s11.1 < (w64 (bitShr .u64 (IntKind.u64.wrap (w64 (a + b2))) 1))))))), (200, .own 1000000), (201, .t (tI a)), (202, .t (tI s11.1)), (203, .t (tI (w64 (bitShr .u64 (IntKind.u64.wrap (w64 (a + b2))) 1)))), (204, .fz n2 cs), (205, .tup [])], [(1000000, .rows 44 4 v5.length (v5.map enc_SRequest))]⟩) (ih f4 a s11.1 (w64 (bitShr .u64 (IntKind.u64.wrap (w64 (a + b2))) 1)) n2 cs cmp h2) rfl rfl rfl rfl rfl rfl rfl (fun _ => rfl) (fun _ => rfl) (fun _ => rfl) (fun _ => .of rfl rfl) fun v5 hv5 => ?_
              refine TieO.nil ?_
              exact TieS.leaf ⟨rfl, .of rfl rfl⟩
            · refine TieS.skip ?_
              exact TieS.leaf ⟨rfl, .of rfl rfl⟩
          rintro f5 e σ' _ ⟨rfl, hs⟩
          refine TieX.sub hs ?_
          refine TieS.seq ?_
          refine TieS.region ?_
          refine TieO.run 4 rfl ?_
          refine TieO.selAnd (v := decide ((w64 ((w64 ((w64 (bitShr .u64 (IntKind.u64.wrap (w64 (a + b2))) 1)) + m2)) - s11.1)) < b2)) 4 209 (fun b => ⟨[(0, .own 1000000), (3, .t (tI b2)), (4, .fz n2 cs), (18, .t (tI (w64 (bitShr .u64 (IntKind.u64.wrap (w64 (a + b2))) 1)))), (24, .t (tI (w64 ((w64 ((w64 (bitShr .u64 (IntKind.u64.wrap (w64 (a + b2))) 1)) + m2)) - s11.1)))), (213, .t (tB b))], [(1000000, .rows 44 4 f5.length (f5.map enc_SRequest))]⟩) rfl ?_ ?_ ?_
          · refine TieO.run 4 rfl ?_
            refine TieO.nil ?_
            exact TieS.leaf ⟨rfl, .of rfl rfl⟩
          · refine TieO.run 4 rfl ?_
            refine TieO.nil ?_
            exact TieS.leaf ⟨rfl, .of rfl rfl⟩
          refine TieO.nil ?_
          refine TieS.cond rfl ?_ ?_
          · refine TieS.region ?_
            refine TieO.run 5 rfl ?_
            refine TieO.callG [(1000000, 1000000)] [] (fun v6 => ⟨[(0, .own 1000000), (3, .t (tI b2)), (4, .fz n2 cs), (18, .t (tI (w64 (bitShr .u64 (IntKind.u64.wrap (w64 (a + b2))) 1)))), (24, .t (tI (w64 ((w64 ((w64 (bitShr .u64 (IntKind.u64.wrap (w64 (a + b2))) 1)) + m2)) - s11.1)))), (213, .t (tB ((decide ((w64 (bitShr .u64 (IntKind.u64.wrap (w64 (a + b2))) 1)) < (w64 ((w64 ((w64 (bitShr .u64 (IntKind.u64.wrap (w64 (a + b2))) 1)) + m2)) - s11.1)))) && (decide ((w64 ((w64 ((w64 (bitShr .u64 (IntKind.u64.wrap (w64 (a + b2))) 1)) + m2)) - s11.1)) < b2))))), (214, .own 1000000), (215, .t (tI (w64 (bitShr .u64 (IntKind.u64.wrap (w64 (a + b2))) 1)))), (216, .t (tI (w64 ((w64 ((w64 (bitShr .u64 (IntKind.u64.wrap (w64 (a + b2))) 1)) + m2)) - s11.1)))), (217, .t (tI b2)), (218, .fz n2 cs), (219, .tup [])], [(1000000, .rows 44 4 v6.length (v6.map enc_SRequest))]⟩) (ih f5 (w64 (bitShr .u64 (IntKind.u64.wrap (w64 (a + b2))) 1)) (w64 ((w64 ((w64 (bitShr .u64 (IntKind.u64.wrap (w64 (a + b2))) 1)) + m2)) - s11.1)) b2 n2 cs cmp h2) rfl rfl rfl rfl rfl rfl rfl (fun _ => rfl) (fun _ => rfl) (fun _ => rfl) (fun _ => .of rfl rfl) fun v6 hv6 => ?_
            refine TieO.nil ?_
            exact TieS.leaf ⟨.inr rfl, ⟨[(1000000, 1000000)], _, _, rfl, rfl, rfl, rfl, rfl⟩⟩
          · refine TieS.skip ?_
            exact TieS.leaf ⟨.inr rfl, ⟨[(1000000, 1000000)], _, _, rfl, rfl, rfl, rfl, rfl⟩⟩
        · exact hq.elim
-- slices.stableCmpFunc[magneto/api.Request]
set_option maxRecDepth 100000 in
theorem tie_slices_stableCmpFunc_Request (data : List SRequest) (n2 : Int) (n3 : Nat) (cs : List (List Tree)) (cmp : SRequest → SRequest → Option Int) (h2 : ∀ x0 x1, TieF Try.prog n3 ([A_SRequest x0, A_SRequest x1] ++ cs.map T.el) (cmp x0 x1) (fun r => .t (tI r))) : TieG Try.prog 88 [.own 1000000, .t (tI n2), .fz n3 cs] [(1000000, .rows 44 4 data.length (data.map enc_SRequest))] (slices_stableCmpFunc_Request data n2 cmp) (fun _ => .tup []) (fun r => [(1000000, .rows 44 4 r.length (r.map enc_SRequest))]) := by
  refine TieG.intro htab 63 [] Try.call88 Try.func88 rfl rfl rfl (Nat.le_of_ble_eq_true rfl) fun w0 L => ?_
  refine TieS.seq ?_
  refine TieS.region ?_
  refine TieO.run 1 rfl ?_
  refine TieO.nil ?_
  refine TieS.seq ?_
  refine TieS.region ?_
  refine TieO.run 3 rfl ?_
  refine TieO.nil ?_
  refine TieS.seq ?_
  refine TieS.block ?_
  refine TieS.loop (fun t => ⟨[(0, .own 1000000), (1, .t (tI n2)), (2, .fz n3 cs), (6, .t (tI 20)), (7, .t (tI t.1)), (8, .t (tI t.2.1))], [(1000000, .rows 44 4 t.2.2.length (t.2.2.map enc_SRequest))]⟩) (fun b e σ' => match b with | .inl t => e = .exit 0 ∧ Sub ⟨[(0, .own 1000000), (1, .t (tI n2)), (2, .fz n3 cs), (6, .t (tI 20)), (7, .t (tI t.1))], [(1000000, .rows 44 4 t.2.2.length (t.2.2.map enc_SRequest))]⟩ σ' | .inr t => False) (.of rfl rfl) ?_ ?_
  · intro s
    refine TieS.seq ?_
    refine TieS.seq ?_
    refine TieS.region ?_
    refine TieO.run 3 rfl ?_
    refine TieO.nil ?_
    refine TieS.cond rfl ?_ ?_
    · refine TieS.skip ?_
      refine TieS.block ?_
      refine TieS.seq ?_
      refine TieS.region ?_
      refine TieO.run 4 rfl ?_
      refine TieO.callG [(1000000, 1000000)] [] (fun v => ⟨[(0, .own 1000000), (1, .t (tI n2)), (2, .fz n3 cs), (6, .t (tI 20)), (7, .t (tI s.1)), (8, .t (tI s.2.1)), (11, .t (tI s.2.1)), (12, .t (tI n2)), (13, .t (tB (decide (s.2.1 ≤ n2)))), (14, .own 1000000), (15, .t (tI s.1)), (16, .t (tI s.2.1)), (17, .fz n3 cs), (18, .tup [])], [(1000000, .rows 44 4 v.length (v.map enc_SRequest))]⟩) (tie_slices_insertionSortCmpFunc_Request s.2.2 s.1 s.2.1 n3 cs cmp h2) rfl rfl rfl rfl rfl rfl rfl (fun _ => rfl) (fun _ => rfl) (fun _ => rfl) (fun _ => .of rfl rfl) fun v hv => ?_
      refine TieO.nil ?_
      refine TieS.seq ?_
      refine TieS.region ?_
      refine TieO.run 2 rfl ?_
      refine TieO.nil ?_
      refine TieS.region ?_
      refine TieO.run 4 rfl ?_
      refine TieO.nil ?_
      refine TieS.endb ?_
      exact TieS.leaf ⟨rfl, .of rfl rfl⟩
    · exact TieS.exitOut rfl ⟨(fun h => by cases h), rfl, .of rfl rfl⟩
  rintro (s2 | r) e σ' _ hq
  · obtain ⟨rfl, hs⟩ := hq
    refine TieX.exit rfl (TieX.sub hs ?_)
    refine TieS.seq ?_
    refine TieS.region ?_
    refine TieO.run 4 rfl ?_
    refine TieO.callG [(1000000, 1000000)] [] (fun v2 => ⟨[(0, .own 1000000), (1, .t (tI n2)), (2, .fz n3 cs), (6, .t (tI 20)), (7, .t (tI s2.1)), (23, .own 1000000), (24, .t (tI s2.1)), (25, .t (tI n2)), (26, .fz n3 cs), (27, .tup [])], [(1000000, .rows 44 4 v2.length (v2.map enc_SRequest))]⟩) (tie_slices_insertionSortCmpFunc_Request s2.2.2 s2.1 n2 n3 cs cmp h2) rfl rfl rfl rfl rfl rfl rfl (fun _ => rfl) (fun _ => rfl) (fun _ => rfl) (fun _ => .of rfl rfl) fun v2 hv2 => ?_
    refine TieO.nil ?_
    refine TieS.block ?_
    refine TieS.loop (fun t => ⟨[(0, .own 1000000), (1, .t (tI n2)), (2, .fz n3 cs), (6, .t (tI t.1))], [(1000000, .rows 44 4 t.2.length (t.2.map enc_SRequest))]⟩) (fun b e σ' => match b with | .inl t => e = .exit 2 ∧ Sub ⟨[], [(1000000, .rows 44 4 t.2.length (t.2.map enc_SRequest))]⟩ σ' | .inr t => False) (.of rfl rfl) ?_ ?_
    · intro s3
      refine TieS.seq ?_
      refine TieS.seq ?_
      refine TieS.region ?_
      refine TieO.run 3 rfl ?_
      refine TieO.nil ?_
      refine TieS.cond rfl ?_ ?_
      · refine TieS.skip ?_
        refine TieS.block ?_
        refine TieS.seq ?_
        refine TieS.region ?_
        refine TieO.run 4 rfl ?_
        refine TieO.nil ?_
        refine TieS.seq ?_
        refine TieS.block ?_
        refine TieS.loop (fun t => ⟨[(0, .own 1000000), (1, .t (tI n2)), (2, .fz n3 cs), (6, .t (tI s3.1)), (7, .t (tI t.1)), (8, .t (tI t.2.1))], [(1000000, .rows 44 4 t.2.2.length (t.2.2.map enc_SRequest))]⟩) (fun b e σ' => match b with | .inl t => e = .exit 4 ∧ Sub ⟨[(0, .own 1000000), (1, .t (tI n2)), (2, .fz n3 cs), (6, .t (tI s3.1)), (7, .t (tI t.1))], [(1000000, .rows 44 4 t.2.2.length (t.2.2.map enc_SRequest))]⟩ σ' | .inr t => False) (.of rfl rfl) ?_ ?_
        · intro s4
          refine TieS.seq ?_
          refine TieS.seq ?_
          refine TieS.region ?_
          refine TieO.run 3 rfl ?_
          refine TieO.nil ?_
          refine TieS.cond rfl ?_ ?_
          · refine TieS.skip ?_
            refine TieS.block ?_
            refine TieS.seq ?_
            refine TieS.region ?_
            refine TieO.run 7 rfl ?_
            refine TieO.callG [(1000000, 1000000)] [] (fun v3 => ⟨[(0, .own 1000000), (1, .t (tI n2)), (2, .fz n3 cs), (6, .t (tI s3.1)), (7, .t (tI s4.1)), (8, .t (tI s4.2.1)), (33, .t (tI s4.2.1)), (34, .t (tI n2)), (35, .t (tB (decide (s4.2.1 ≤ n2)))), (36, .own 1000000), (37, .t (tI s4.1)), (38, .t (tI s4.1)), (39, .t (tI s3.1)), (40, .t (tI (w64 (s4.1 + s3.1)))), (41, .t (tI s4.2.1)), (42, .fz n3 cs), (43, .tup [])], [(1000000, .rows 44 4 v3.length (v3.map enc_SRequest))]⟩) (tie_slices_symMergeCmpFunc_Request 64 s4.2.2 s4.1 (w64 (s4.1 + s3.1)) s4.2.1 n3 cs cmp h2) rfl rfl rfl rfl rfl rfl rfl (fun _ => rfl) (fun _ => rfl) (fun _ => rfl) (fun _ => .of rfl rfl) fun v3 hv3 => ?_
            refine TieO.nil ?_
            refine TieS.seq ?_
            refine TieS.region ?_
            refine TieO.run 2 rfl ?_
            refine TieO.nil ?_
            refine TieS.region ?_
            refine TieO.run 5 rfl ?_
            refine TieO.nil ?_
            refine TieS.endb ?_
            exact TieS.leaf ⟨rfl, .of rfl rfl⟩
          · exact TieS.exitOut rfl ⟨(fun h => by cases h), rfl, .of rfl rfl⟩
        rintro (s5 | r) e σ' _ hq
        · obtain ⟨rfl, hs⟩ := hq
          refine TieX.exit rfl (TieX.sub hs ?_)
          refine TieS.seq ?_
          refine TieS.seq ?_
          refine TieS.region ?_
          refine TieO.run 4 rfl ?_
          refine TieO.nil ?_
          refine TieS.seq ?_
          refine TieS.region ?_
          refine TieO.run 3 rfl ?_
          refine TieO.nil ?_
          refine TieS.cond rfl ?_ ?_
          · refine TieS.region ?_
            refine TieO.run 5 rfl ?_
            refine TieO.callG [(1000000, 1000000)] [] (fun v4 => ⟨[(0, .own 1000000), (1, .t (tI n2)), (2, .fz n3 cs), (6, .t (tI s3.1)), (7, .t (tI s5.1)), (9, .t (tI (w64 (s5.1 + s3.1)))), (49, .t (tI s5.1)), (50, .t (tI s3.1)), (51, .t (tI (w64 (s5.1 + s3.1)))), (52, .t (tI (w64 (s5.1 + s3.1)))), (53, .t (tI n2)), (54, .t (tB (decide ((w64 (s5.1 + s3.1)) < n2)))), (55, .own 1000000), (56, .t (tI s5.1)), (57, .t (tI (w64 (s5.1 + s3.1)))), (58, .t (tI n2)), (59, .fz n3 cs), (60, .tup [])], [(1000000, .rows 44 4 v4.length (v4.map enc_SRequest))]⟩) (tie_slices_symMergeCmpFunc_Request 64 s5.2.2 s5.1 (w64 (s5.1 + s3.1)) n2 n3 cs cmp h2) rfl rfl rfl rfl rfl rfl rfl (fun _ => rfl) (fun _ => rfl) (fun _ => rfl) (fun _ => .of rfl rfl) fun v4 hv4 => ?_
            refine TieO.nil ?_
            refine TieS.region ?_
            refine TieO.run 3 rfl ?_
            refine TieO.nil ?_
            refine TieS.endb ?_
            exact TieS.leaf ⟨rfl, .of rfl rfl⟩
          · refine TieS.skip ?_
            refine TieS.region ?_
            refine TieO.run 3 rfl ?_
            refine TieO.nil ?_
            refine TieS.endb ?_
            exact TieS.leaf ⟨rfl, .of rfl rfl⟩
        · exact hq.elim
      · exact TieS.exitOut rfl ⟨(fun h => by cases h), rfl, .of rfl rfl⟩
    rintro (s6 | r) e σ' _ hq
    · obtain ⟨rfl, hs⟩ := hq
      refine TieX.exit rfl (TieX.sub hs ?_)
      exact TieS.leaf ⟨.inr rfl, ⟨[(1000000, 1000000)], _, _, rfl, rfl, rfl, rfl, rfl⟩⟩
    · exact hq.elim
  · exact hq.elim
-- slices.SortStableFunc[[]magneto/api.Request,magneto/api.Request]
set_option maxRecDepth 100000 in
theorem tie_slices_SortStableFunc_sRequest (x : List SRequest) (n2 : Nat) (cs : List (List Tree)) (cmp : SRequest → SRequest → Option Int) (h2 : ∀ x0 x1, TieF Try.prog n2 ([A_SRequest x0, A_SRequest x1] ++ cs.map T.el) (cmp x0 x1) (fun r => .t (tI r))) : TieG Try.prog 71 [.own 1000000, .fz n2 cs] [(1000000, .rows 44 4 x.length (x.map enc_SRequest))] (slices_SortStableFunc_sRequest x cmp) (fun _ => .tup []) (fun r => [(1000000, .rows 44 4 r.length (r.map enc_SRequest))]) := by
  refine TieG.intro htab 9 [] Try.call71 Try.func71 rfl rfl rfl (Nat.le_of_ble_eq_true rfl) fun w0 L => ?_
  refine TieS.region ?_
  refine TieO.run 4 rfl ?_
  refine TieO.callG [(1000000, 1000000)] [] (fun v => ⟨[(0, .own 1000000), (1, .fz n2 cs), (4, .own 1000000), (5, .own 1000000), (6, .t (tI (x.length : Int))), (7, .fz n2 cs), (8, .tup [])], [(1000000, .rows 44 4 v.length (v.map enc_SRequest))]⟩) (tie_slices_stableCmpFunc_Request x (x.length : Int) n2 cs cmp h2) rfl rfl rfl rfl rfl rfl rfl (fun _ => rfl) (fun _ => rfl) (fun _ => rfl) (fun _ => .of rfl rfl) fun v hv => ?_
  refine TieO.nil ?_
  exact TieS.leaf ⟨.inr rfl, ⟨[(1000000, 1000000)], _, _, rfl, rfl, rfl, rfl, rfl⟩⟩
-- magneto/arbiter.decide$1
set_option maxRecDepth 100000 in
theorem tie_arbiter_decide_1 (a : SRequest) (b2 : SRequest) : TieF Try.prog 72 [A_SRequest a, A_SRequest b2] (arbiter_decide_1 a b2) (fun r => .t (tI r)) := by
  refine TieF.intro htab 10 [.tmp 4] Try.call72 Try.func72 rfl rfl rfl (Nat.le_of_ble_eq_true rfl) fun w0 L => ?_
  refine TieS.seq ?_
  refine TieS.region ?_
  refine TieO.run 3 rfl ?_
  refine TieO.nil ?_
  refine TieS.seq ?_
  refine TieS.region ?_
  refine TieO.run 6 rfl ?_
  refine TieO.nil ?_
  exact TieS.ret ⟨.inl rfl, rfl⟩
-- (*magneto/arbiter.span).atMost
set_option maxRecDepth 100000 in
theorem tie_arbiter_span_atMost (s : Sarbiter_span) (t2 : Int) : TieG Try.prog 89 [.ptr 1000000 0, .t (tI t2)] [(1000000, .box [.t (tI s.low), .t (tI s.high), .t (tI s.source)])] (arbiter_span_atMost s t2) (fun _ => .tup []) (fun r => [(1000000, .box [.t (tI r.low), .t (tI r.high), .t (tI r.source)])]) := by
  refine TieG.intro htab 18 [] Try.call89 Try.func89 rfl rfl rfl (Nat.le_of_ble_eq_true rfl) fun w0 L => ?_
  refine TieS.draw 14 [.ptr 1000000 0, .ptr 1000000 0, .ptr 1000000 0, .ptr 1000000 0, .t (tI s.low), .ptr 1000000 0, .ptr 1000000 0, .ptr 1000000 1, .t (tI s.high), .t (tI t2), .t (tI (minI s.high t2)), .t (tI (maxI s.low (minI s.high t2))), .ptr 1000000 0, .ptr 1000000 1] [(0, .ptr 1000000 0), (1, .t (tI t2))] [(1000000, .box [.t (tI s.low), .t (tI s.high), .t (tI s.source)])] mixed (.of rfl rfl) rfl rfl rfl rfl (.cons (.quiet rfl rfl rfl) (.cons (.quiet rfl rfl rfl) (.cons (.quiet rfl rfl rfl) (.cons (.quiet rfl rfl rfl) (.cons (.quiet rfl rfl rfl) (.cons (.quiet rfl rfl rfl) (.cons (.quiet rfl rfl rfl) (.cons (.quiet rfl rfl rfl) (.cons (.quiet rfl rfl rfl) (.cons (.quiet rfl rfl rfl) (.cons (.quiet rfl rfl rfl) (.cons (.quiet rfl rfl rfl) (.cons (.quiet rfl rfl rfl) (.cons (.quiet rfl rfl rfl) (.nil))))))))))))))) ?_
  refine TieO.run 1 rfl ?_
  refine TieO.nil ?_
  exact TieS.leaf ⟨.inr rfl, ⟨[(1000000, 1000000)], _, _, rfl, rfl, rfl, rfl, rfl⟩⟩
-- (*magneto/arbiter.span).atLeast
set_option maxRecDepth 100000 in
theorem tie_arbiter_span_atLeast (s : Sarbiter_span) (t2 : Int) : TieG Try.prog 90 [.ptr 1000000 0, .t (tI t2)] [(1000000, .box [.t (tI s.low), .t (tI s.high), .t (tI s.source)])] (arbiter_span_atLeast s t2) (fun _ => .tup []) (fun r => [(1000000, .box [.t (tI r.low), .t (tI r.high), .t (tI r.source)])]) := by
  refine TieG.intro htab 18 [] Try.call90 Try.func90 rfl rfl rfl (Nat.le_of_ble_eq_true rfl) fun w0 L => ?_
  refine TieS.draw 14 [.ptr 1000000 0, .ptr 1000000 0, .ptr 1000000 0, .ptr 1000000 1, .t (tI s.high), .ptr 1000000 0, .ptr 1000000 0, .ptr 1000000 0, .t (tI s.low), .t (tI t2), .t (tI (maxI s.low t2)), .t (tI (minI s.high (maxI s.low t2))), .ptr 1000000 0, .ptr 1000000 0] [(0, .ptr 1000000 0), (1, .t (tI t2))] [(1000000, .box [.t (tI s.low), .t (tI s.high), .t (tI s.source)])] mixed (.of rfl rfl) rfl rfl rfl rfl (.cons (.quiet rfl rfl rfl) (.cons (.quiet rfl rfl rfl) (.cons (.quiet rfl rfl rfl) (.cons (.quiet rfl rfl rfl) (.cons (.quiet rfl rfl rfl) (.cons (.quiet rfl rfl rfl) (.cons (.quiet rfl rfl rfl) (.cons (.quiet rfl rfl rfl) (.cons (.quiet rfl rfl rfl) (.cons (.quiet rfl rfl rfl) (.cons (.quiet rfl rfl rfl) (.cons (.quiet rfl rfl rfl) (.cons (.quiet rfl rfl rfl) (.cons (.quiet rfl rfl rfl) (.nil))))))))))))))) ?_
  refine TieO.run 1 rfl ?_
  refine TieO.nil ?_
  exact TieS.leaf ⟨.inr rfl, ⟨[(1000000, 1000000)], _, _, rfl, rfl, rfl, rfl, rfl⟩⟩
-- (*magneto/arbiter.span).exactly
set_option maxRecDepth 100000 in
theorem tie_arbiter_span_exactly (s : Sarbiter_span) (t2 : Int) : TieG Try.prog 91 [.ptr 1000000 0, .t (tI t2)] [(1000000, .box [.t (tI s.low), .t (tI s.high), .t (tI s.source)])] (arbiter_span_exactly s t2) (fun _ => .tup []) (fun r => [(1000000, .box [.t (tI r.low), .t (tI r.high), .t (tI r.source)])]) := by
  refine TieG.intro htab 22 [] Try.call91 Try.func91 rfl rfl rfl (Nat.le_of_ble_eq_true rfl) fun w0 L => ?_
  refine TieS.seq ?_
  refine TieX.pre fun v hv => ?_
  refine TieS.draw 10 [.t (tI t2), .ptr 1000000 0, .ptr 1000000 0, .ptr 1000000 0, .t (tI s.low), .ptr 1000000 0, .ptr 1000000 0, .ptr 1000000 1, .t (tI s.high), .t (tI v)] [(0, .ptr 1000000 0), (1, .t (tI t2))] [(1000000, .box [.t (tI s.low), .t (tI s.high), .t (tI s.source)])] mixed (.of rfl rfl) rfl rfl rfl rfl (.cons (.quiet rfl rfl rfl) (.cons (.quiet rfl rfl rfl) (.cons (.quiet rfl rfl rfl) (.cons (.quiet rfl rfl rfl) (.cons (.quiet rfl rfl rfl) (.cons (.quiet rfl rfl rfl) (.cons (.quiet rfl rfl rfl) (.cons (.quiet rfl rfl rfl) (.cons (.quiet rfl rfl rfl) (.cons (.callV (tie_arith_Clamp t2 s.low s.high) hv rfl rfl rfl rfl) (.nil))))))))))) ?_
  refine TieO.run 1 rfl ?_
  refine TieO.nil ?_
  refine TieS.region ?_
  refine TieO.run 10 rfl ?_
  refine TieO.nil ?_
  exact TieS.leaf ⟨.inr rfl, ⟨[(1000000, 1000000)], _, _, rfl, rfl, rfl, rfl, rfl⟩⟩
-- (*magneto/arbiter.span).narrow
set_option maxRecDepth 100000 in
theorem tie_arbiter_span_narrow (s : Sarbiter_span) (r2 : SRequest) : TieG Try.prog 73 [.ptr 1000000 0, A_SRequest r2] [(1000000, .box [.t (tI s.low), .t (tI s.high), .t (tI s.source)])] (arbiter_span_narrow s r2) (fun r => .t (tB r.1)) (fun r => [(1000000, .box [.t (tI r.2.low), .t (tI r.2.high), .t (tI r.2.source)])]) := by
  refine TieG.intro htab 57 [.tmp 4] Try.call73 Try.func73 rfl rfl rfl (Nat.le_of_ble_eq_true rfl) fun w0 L => ?_
  refine TieS.seq ?_
  refine TieS.region ?_
  refine TieO.run 2 rfl ?_
  refine TieO.nil ?_
  refine TieS.seq ?_
  refine TieS.region ?_
  refine TieO.run 5 rfl ?_
  refine TieO.nil ?_
  refine TieS.seq ?_
  refine TieS.seq ?_
  refine TieS.region ?_
  refine TieO.run 2 rfl ?_
  refine TieO.nil ?_
  refine TieS.bind (Q₁ := fun t e σ' => e = .normal ∧ Sub ⟨[(0, .ptr 1000000 0), (3, .ptr 3 0), (5, .ptr 5 0)], [(3, .box [.t (tI r2.Source), .t (tI r2.Kind), .t (tI r2.Torque), .t (tI r2.Priority)]), (5, .box [.t (tI s.low), .t (tI s.high), .t (tI s.source)]), (1000000, .box [.t (tI t.low), .t (tI t.high), .t (tI t.source)])]⟩ σ') ?_ ?_
  · refine TieS.block ?_
    refine TieS.seq ?_
    refine TieS.region ?_
    refine TieO.run 2 rfl ?_
    refine TieO.nil ?_
    refine TieS.cond rfl ?_ ?_
    · refine TieS.region ?_
      refine TieO.run 3 rfl ?_
      refine TieO.callG [(1000000, 1000000)] [] (fun v => ⟨[(0, .ptr 1000000 0), (1, .agg [.t (tI r2.Source), .t (tI r2.Kind), .t (tI r2.Torque), .t (tI r2.Priority)]), (3, .ptr 3 0), (4, .t (tB false)), (5, .ptr 5 0), (6, .ptr 1000000 0), (7, .ptr 1000000 0), (8, .agg [.t (tI s.low), .t (tI s.high), .t (tI s.source)]), (9, .ptr 3 1), (10, .t (tI r2.Kind)), (11, .t (tB (r2.Kind == 1))), (12, .t (tB (r2.Kind == 1))), (13, .ptr 1000000 0), (14, .ptr 3 2), (15, .t (tI r2.Torque)), (16, .tup [])], [(3, .box [.t (tI r2.Source), .t (tI r2.Kind), .t (tI r2.Torque), .t (tI r2.Priority)]), (5, .box [.t (tI s.low), .t (tI s.high), .t (tI s.source)]), (1000000, .box [.t (tI v.low), .t (tI v.high), .t (tI v.source)])]⟩) (tie_arbiter_span_atMost s r2.Torque) rfl rfl rfl rfl rfl rfl rfl (fun _ => rfl) (fun _ => rfl) (fun _ => rfl) (fun _ => .of rfl rfl) fun v hv => ?_
      refine TieO.nil ?_
      refine TieS.endb ?_
      exact TieS.leaf ⟨rfl, .of rfl rfl⟩
    · refine TieS.seq ?_
      refine TieS.region ?_
      refine TieO.run 2 rfl ?_
      refine TieO.nil ?_
      refine TieS.cond rfl ?_ ?_
      · refine TieS.region ?_
        refine TieO.run 3 rfl ?_
        refine TieO.callG [(1000000, 1000000)] [] (fun v2 => ⟨[(0, .ptr 1000000 0), (1, .agg [.t (tI r2.Source), .t (tI r2.Kind), .t (tI r2.Torque), .t (tI r2.Priority)]), (3, .ptr 3 0), (4, .t (tB false)), (5, .ptr 5 0), (6, .ptr 1000000 0), (7, .ptr 1000000 0), (8, .agg [.t (tI s.low), .t (tI s.high), .t (tI s.source)]), (9, .ptr 3 1), (10, .t (tI r2.Kind)), (11, .t (tB (r2.Kind == 1))), (12, .t (tB (r2.Kind == 1))), (17, .t (tB (r2.Kind == 2))), (18, .t (tB (r2.Kind == 2))), (19, .ptr 1000000 0), (20, .ptr 3 2), (21, .t (tI r2.Torque)), (22, .tup [])], [(3, .box [.t (tI r2.Source), .t (tI r2.Kind), .t (tI r2.Torque), .t (tI r2.Priority)]), (5, .box [.t (tI s.low), .t (tI s.high), .t (tI s.source)]), (1000000, .box [.t (tI v2.low), .t (tI v2.high), .t (tI v2.source)])]⟩) (tie_arbiter_span_atLeast s r2.Torque) rfl rfl rfl rfl rfl rfl rfl (fun _ => rfl) (fun _ => rfl) (fun _ => rfl) (fun _ => .of rfl rfl) fun v2 hv2 => ?_
        refine TieO.nil ?_
        refine TieS.endb ?_
        exact TieS.leaf ⟨rfl, .of rfl rfl⟩
      · refine TieS.seq ?_
        refine TieS.region ?_
        refine TieO.run 2 rfl ?_
        refine TieO.nil ?_
        refine TieS.cond rfl ?_ ?_
        · refine TieS.region ?_
          refine TieO.run 3 rfl ?_
          refine TieO.callG [(1000000, 1000000)] [] (fun v3 => ⟨[(0, .ptr 1000000 0), (1, .agg [.t (tI r2.Source), .t (tI r2.Kind), .t (tI r2.Torque), .t (tI r2.Priority)]), (3, .ptr 3 0), (4, .t (tB false)), (5, .ptr 5 0), (6, .ptr 1000000 0), (7, .ptr 1000000 0), (8, .agg [.t (tI s.low), .t (tI s.high), .t (tI s.source)]), (9, .ptr 3 1), (10, .t (tI r2.Kind)), (11, .t (tB (r2.Kind == 1))), (12, .t (tB (r2.Kind == 1))), (17, .t (tB (r2.Kind == 2))), (18, .t (tB (r2.Kind == 2))), (23, .t (tB (r2.Kind == 3))), (24, .t (tB (r2.Kind == 3))), (25, .ptr 1000000 0), (26, .ptr 3 2), (27, .t (tI r2.Torque)), (28, .tup [])], [(3, .box [.t (tI r2.Source), .t (tI r2.Kind), .t (tI r2.Torque), .t (tI r2.Priority)]), (5, .box [.t (tI s.low), .t (tI s.high), .t (tI s.source)]), (1000000, .box [.t (tI v3.low), .t (tI v3.high), .t (tI v3.source)])]⟩) (tie_arbiter_span_exactly s r2.Torque) rfl rfl rfl rfl rfl rfl rfl (fun _ => rfl) (fun _ => rfl) (fun _ => rfl) (fun _ => .of rfl rfl) fun v3 hv3 => ?_
          refine TieO.nil ?_
          refine TieS.endb ?_
          exact TieS.leaf ⟨rfl, .of rfl rfl⟩
        · refine TieS.skip ?_
          refine TieS.endb ?_
          exact TieS.leaf ⟨rfl, .of rfl rfl⟩
  rintro f2 e σ' _ ⟨rfl, hs⟩
  refine TieX.sub hs ?_
  refine TieS.seq ?_
  refine TieS.seq ?_
  refine TieS.draw 7 [.ptr 1000000 0, .ptr 1000000 0, .ptr 1000000 0, .t (tI f2.low), .ptr 5 0, .t (tI s.low), .t (tB (f2.low != s.low))] [(0, .ptr 1000000 0), (3, .ptr 3 0), (5, .ptr 5 0)] [(3, .box [.t (tI r2.Source), .t (tI r2.Kind), .t (tI r2.Torque), .t (tI r2.Priority)]), (5, .box [.t (tI s.low), .t (tI s.high), .t (tI s.source)]), (1000000, .box [.t (tI f2.low), .t (tI f2.high), .t (tI f2.source)])] mixed (.of rfl rfl) rfl rfl rfl rfl (.cons (.quiet rfl rfl rfl) (.cons (.quiet rfl rfl rfl) (.cons (.quiet rfl rfl rfl) (.cons (.quiet rfl rfl rfl) (.cons (.quiet rfl rfl rfl) (.cons (.quiet rfl rfl rfl) (.cons (.quiet rfl rfl rfl) (.nil)))))))) ?_
  refine TieO.nil ?_
  refine TieS.bind (Q₁ := fun t e σ' => e = .normal ∧ Sub ⟨[(0, .ptr 1000000 0), (5, .ptr 5 0)], [(5, .box [.t (tI s.low), .t (tI s.high), .t (tI s.source)]), (1000000, .box [.t (tI f2.low), .t (tI f2.high), .t (tI t)])]⟩ σ') ?_ ?_
  · refine TieS.cond rfl ?_ ?_
    · refine TieS.region ?_
      refine TieO.run 6 rfl ?_
      refine TieO.nil ?_
      exact TieS.leaf ⟨rfl, .of rfl rfl⟩
    · refine TieS.skip ?_
      exact TieS.leaf ⟨rfl, .of rfl rfl⟩
  rintro f3 e σ' _ ⟨rfl, hs⟩
  refine TieX.sub hs ?_
  refine TieS.seq ?_
  refine TieX.split (fun hg => ?_) (fun hg2 => ?_)
  · refine TieS.draw 17 [.ptr 1000000 0, .ptr 1000000 0, .ptr 1000000 0, .t (tI f2.low), .ptr 5 0, .t (tI s.low), .t (tB (f2.low != s.low)), .t (tB true), .t (.v undef), .t (.v undef), .t (.v undef), .t (.v undef), .t (.v undef), .t (.v undef), .t (.v undef), .t (tB true), .t (tB true)] [(0, .ptr 1000000 0), (5, .ptr 5 0)] [(5, .box [.t (tI s.low), .t (tI s.high), .t (tI s.source)]), (1000000, .box [.t (tI f2.low), .t (tI f2.high), .t (tI f3)])] mixed (.of rfl rfl) rfl rfl rfl rfl (.cons (.quiet rfl rfl rfl) (.cons (.quiet rfl rfl rfl) (.cons (.quiet rfl rfl rfl) (.cons (.quiet rfl rfl rfl) (.cons (.quiet rfl rfl rfl) (.cons (.quiet rfl rfl rfl) (.cons (.quiet rfl rfl rfl) (.cons (.cast (congrArg T.B hg) (.quiet rfl rfl rfl)) (.cons (.skip rfl) (.cons (.skip rfl) (.cons (.skip rfl) (.cons (.skip rfl) (.cons (.skip rfl) (.cons (.skip rfl) (.cons (.skip rfl) (.cons (.quiet rfl rfl rfl) (.cons (.quiet rfl rfl rfl) (.nil)))))))))))))))))) ?_
    refine TieO.nil ?_
    exact TieS.ret ⟨.inl rfl, ⟨[(1000000, 1000000)], _, _, rfl, rfl, rfl, rfl, rfl⟩⟩
  · refine TieS.draw 17 [.ptr 1000000 0, .ptr 1000000 0, .ptr 1000000 0, .t (tI f2.low), .ptr 5 0, .t (tI s.low), .t (tB (f2.low != s.low)), .t (tB false), .ptr 1000000 0, .ptr 1000000 0, .ptr 1000000 1, .t (tI f2.high), .ptr 5 1, .t (tI s.high), .t (tB (f2.high != s.high)), .t (tB (f2.high != s.high)), .t (tB (f2.high != s.high))] [(0, .ptr 1000000 0), (5, .ptr 5 0)] [(5, .box [.t (tI s.low), .t (tI s.high), .t (tI s.source)]), (1000000, .box [.t (tI f2.low), .t (tI f2.high), .t (tI f3)])] mixed (.of rfl rfl) rfl rfl rfl rfl (.cons (.quiet rfl rfl rfl) (.cons (.quiet rfl rfl rfl) (.cons (.quiet rfl rfl rfl) (.cons (.quiet rfl rfl rfl) (.cons (.quiet rfl rfl rfl) (.cons (.quiet rfl rfl rfl) (.cons (.quiet rfl rfl rfl) (.cons (.cast (congrArg T.B hg2) (.quiet rfl rfl rfl)) (.cons (.quiet rfl rfl rfl) (.cons (.quiet rfl rfl rfl) (.cons (.quiet rfl rfl rfl) (.cons (.quiet rfl rfl rfl) (.cons (.quiet rfl rfl rfl) (.cons (.quiet rfl rfl rfl) (.cons (.quiet rfl rfl rfl) (.cons (.quiet rfl rfl rfl) (.cons (.quiet rfl rfl rfl) (.nil)))))))))))))))))) ?_
    refine TieO.nil ?_
    exact TieS.ret ⟨.inl rfl, ⟨[(1000000, 1000000)], _, _, rfl, rfl, rfl, rfl, rfl⟩⟩
-- slices.Sort[[]int,int]
set_option maxRecDepth 100000 in
def sortI74_ren : Go.Shelf.Ren := ⟨fun | 125 => 93 | 128 => 113 | 129 => 114 | 189 => 74 | 215 => 115 | 216 => 98 | 257 => 92 | 294 => 105 | 295 => 106 | 296 => 107 | 297 => 108 | 298 => 109 | 299 => 110 | 300 => 111 | 301 => 112 | 328 => 119 | 329 => 120 | 330 => 121 | 331 => 122 | 332 => 123 | 343 => 126 | n => n, fun | 0 => 0 | 3 => 3 | 4 => 4 | 5 => 5 | 9 => 9 | 28 => 22 | 46 => 115 | 51 => 129 | 53 => 131 | 131 => 126 | 182 => 122 | 183 => 123 | 218 => 133 | 222 => 137 | 228 => 140 | 229 => 94 | n => n, fun  | n => n⟩
open Go.Shelf in
theorem sortI74 : Lays.n189 Try.prog sortI74_ren := {
  mixed := by kernel_rfl,
  f125 := Try.func93.trans (congrArg some (by kernel_rfl)),
  f128 := Try.func113.trans (congrArg some (by kernel_rfl)),
  f129 := Try.func114.trans (congrArg some (by kernel_rfl)),
  f189 := Try.func74.trans (congrArg some (by kernel_rfl)),
  f215 := Try.func115.trans (congrArg some (by kernel_rfl)),
  f216 := Try.func98.trans (congrArg some (by kernel_rfl)),
  f257 := Try.func92.trans (congrArg some (by kernel_rfl)),
  f294 := Try.func105.trans (congrArg some (by kernel_rfl)),
  f295 := Try.func106.trans (congrArg some (by kernel_rfl)),
  f296 := Try.func107.trans (congrArg some (by kernel_rfl)),
  f297 := Try.func108.trans (congrArg some (by kernel_rfl)),
  f298 := Try.func109.trans (congrArg some (by kernel_rfl)),
  f299 := Try.func110.trans (congrArg some (by kernel_rfl)),
  f300 := Try.func111.trans (congrArg some (by kernel_rfl)),
  f301 := Try.func112.trans (congrArg some (by kernel_rfl)),
  f328 := Try.func119.trans (congrArg some (by kernel_rfl)),
  f329 := Try.func120.trans (congrArg some (by kernel_rfl)),
  f330 := Try.func121.trans (congrArg some (by kernel_rfl)),
  f331 := Try.func122.trans (congrArg some (by kernel_rfl)),
  f332 := Try.func123.trans (congrArg some (by kernel_rfl)),
  f343 := Try.func126.trans (congrArg some (by kernel_rfl)),
  t0 := Try.underlying0,
  a0 := Try.isAgg0,
  z0 := Try.sizeOf0,
  v0 := Try.zeroValue0,
  t3 := Try.underlying3,
  a3 := Try.isAgg3,
  z3 := Try.sizeOf3,
  v3 := Try.zeroValue3,
  t4 := Try.underlying4,
  a4 := Try.isAgg4,
  z4 := Try.sizeOf4,
  v4 := Try.zeroValue4,
  t5 := Try.underlying5,
  a5 := Try.isAgg5,
  z5 := Try.sizeOf5,
  v5 := Try.zeroValue5,
  t9 := Try.underlying9,
  a9 := Try.isAgg9,
  z9 := Try.sizeOf9,
  v9 := Try.zeroValue9,
  t28 := Try.underlying22,
  a28 := Try.isAgg22,
  z28 := Try.sizeOf22,
  v28 := Try.zeroValue22,
  t46 := Try.underlying115,
  a46 := Try.isAgg115,
  z46 := Try.sizeOf115,
  v46 := Try.zeroValue115,
  t51 := Try.underlying129,
  a51 := Try.isAgg129,
  z51 := Try.sizeOf129,
  v51 := Try.zeroValue129,
  t53 := Try.underlying131,
  a53 := Try.isAgg131,
  z53 := Try.sizeOf131,
  v53 := Try.zeroValue131,
  t131 := Try.underlying126,
  a131 := Try.isAgg126,
  z131 := Try.sizeOf126,
  v131 := Try.zeroValue126,
  t182 := Try.underlying122,
  a182 := Try.isAgg122,
  z182 := Try.sizeOf122,
  v182 := Try.zeroValue122,
  t183 := Try.underlying123,
  a183 := Try.isAgg123,
  z183 := Try.sizeOf123,
  v183 := Try.zeroValue123,
  t218 := Try.underlying133,
  a218 := Try.isAgg133,
  z218 := Try.sizeOf133,
  v218 := Try.zeroValue133,
  t222 := Try.underlying137,
  a222 := Try.isAgg137,
  z222 := Try.sizeOf137,
  v222 := Try.zeroValue137,
  t228 := Try.underlying140,
  a228 := Try.isAgg140,
  z228 := Try.sizeOf140,
  v228 := Try.zeroValue140,
  t229 := Try.underlying94,
  a229 := Try.isAgg94,
  z229 := Try.sizeOf94,
  v229 := Try.zeroValue94 }
theorem tie_slices_Sort_sint (s : List Int) : TieG Try.prog 74 [.own 1000000] [(1000000, .rows 3 1 s.length (s.map Pv.encI))] (slices_Sort_sint s) (fun _ => .tup []) (fun r => [(1000000, .rows 3 1 r.length (r.map Pv.encI))]) :=
  sortInts_tie (ρ := sortI74_ren) sortI74 Try.call74 s
-- slices.Compact[[]int,int]
set_option maxRecDepth 100000 in
def compI75_ren : Go.Shelf.Ren := ⟨fun | 20 => 75 | n => n, fun | 0 => 0 | 3 => 3 | 4 => 4 | 22 => 22 | n => n, fun  | n => n⟩
open Go.Shelf in
theorem compI75 : Lays2.n20 Try.prog compI75_ren := {
  mixed := by kernel_rfl,
  f20 := Try.func75.trans (congrArg some (by kernel_rfl)),
  t0 := Try.underlying0,
  a0 := Try.isAgg0,
  z0 := Try.sizeOf0,
  v0 := Try.zeroValue0,
  t3 := Try.underlying3,
  a3 := Try.isAgg3,
  z3 := Try.sizeOf3,
  v3 := Try.zeroValue3,
  t4 := Try.underlying4,
  a4 := Try.isAgg4,
  z4 := Try.sizeOf4,
  v4 := Try.zeroValue4,
  t22 := Try.underlying22,
  a22 := Try.isAgg22,
  z22 := Try.sizeOf22,
  v22 := Try.zeroValue22,
  i3 := by kernel_rfl }
theorem tie_slices_Compact_sint (s : List Int) : TieG Try.prog 75 [.own 1000000] [(1000000, .rows 3 1 s.length (s.map Pv.encI))] (slices_Compact_sint s) (fun _ => .own 900000) (fun r => [(900000, .rows 3 1 r.length (r.map Pv.encI))]) :=
  compactInts_tie (ρ := compI75_ren) compI75 Try.call75 s
-- magneto/arbiter.decide
set_option maxRecDepth 100000 in
theorem tie_arbiter_decide (l : List SRequest) (low : Int) (high : Int) : TieF Try.prog 56 [.t (tS enc_SRequest l), .t (tI low), .t (tI high)] (arbiter_decide l low high) (fun r => .tup [A_Sarbiter_span r.1, .t (tS Pv.encI r.2)]) := by
  refine TieF.intro htab 38 [.cell 6 89, .tmp 7] Try.call56 Try.func56 rfl rfl rfl (Nat.le_of_ble_eq_true rfl) fun w0 L => ?_
  refine TieS.seq ?_
  refine TieS.region ?_
  refine TieO.run 2 rfl ?_
  refine TieO.nil ?_
  refine TieS.seq ?_
  refine TieS.region ?_
  refine TieO.run 1 rfl ?_
  refine TieO.callG [] [(900000, 2104)] (fun v => ⟨[(0, .t (tS enc_SRequest l)), (1, .t (tI low)), (2, .t (tI high)), (6, .ptr 6 0), (7, .t (.v (.slice none 0 0))), (12, .t (tS enc_SRequest l)), (13, .own 2104)], [(6, .box [.t (tI 0), .t (tI 0), .t (tI 0)]), (2104, .rows 44 4 v.length (v.map enc_SRequest))]⟩) (tie_slices_Clone_sRequest l) rfl rfl rfl rfl rfl rfl rfl (fun _ => rfl) (fun _ => rfl) (fun _ => rfl) (fun _ => .of rfl rfl) fun v hv => ?_
  refine TieO.run 1 rfl ?_
  refine TieO.nil ?_
  refine TieS.seq ?_
  refine TieS.region ?_
  refine TieO.run 1 rfl ?_
  refine TieO.callG [(1000000, 2104)] [] (fun v2 => ⟨[(0, .own 2104), (1, .t (tI low)), (2, .t (tI high)), (6, .ptr 6 0), (7, .t (.v (.slice none 0 0))), (12, .t (tS enc_SRequest l)), (13, .own 2104), (14, .own 2104), (15, .tup [])], [(6, .box [.t (tI 0), .t (tI 0), .t (tI 0)]), (2104, .rows 44 4 v2.length (v2.map enc_SRequest))]⟩) (tie_slices_SortStableFunc_sRequest v 72 [] arbiter_decide_1 tie_arbiter_decide_1) rfl rfl rfl rfl rfl rfl rfl (fun _ => rfl) (fun _ => rfl) (fun _ => rfl) (fun _ => .of rfl rfl) fun v2 hv2 => ?_
  refine TieO.nil ?_
  refine TieS.seq ?_
  refine TieS.region ?_
  refine TieO.run 5 rfl ?_
  refine TieO.nil ?_
  refine TieS.seq ?_
  refine TieS.region ?_
  refine TieO.run 1 rfl ?_
  refine TieO.nil ?_
  refine TieS.seq ?_
  refine TieS.seq ?_
  refine TieS.region ?_
  refine TieO.run 3 rfl ?_
  refine TieO.nil ?_
  refine TieS.block ?_
  refine TieX.nilP 9 2248 3 1 [] rfl rfl rfl rfl rfl ?_
  refine TieS.loop (fun p => ⟨[(6, .ptr 6 0), (8, .ptr 8 0), (9, .own 2248), (19, .own 2104), (20, .t (tI (v2.length : Int))), (21, .t (tI p.1))], [(6, .box [.t (tI 0), .t (tI 0), .t (tI 0)]), (8, .box [.t (tI p.2.2.low), .t (tI p.2.2.high), .t (tI p.2.2.source)]), (2104, .rows 44 4 v2.length (v2.map enc_SRequest)), (2248, .rows 3 1 p.2.1.length (p.2.1.map Pv.encI))]⟩) (fun b e σ' => match b with | .inl t => e = .exit 0 ∧ Sub ⟨[(6, .ptr 6 0), (8, .ptr 8 0), (9, .own 2248)], [(6, .box [.t (tI 0), .t (tI 0), .t (tI 0)]), (8, .box [.t (tI t.2.low), .t (tI t.2.high), .t (tI t.2.source)]), (2248, .rows 3 1 t.1.length (t.1.map Pv.encI))]⟩ σ' | .inr t => False) (.of rfl rfl) ?_ ?_
  · rintro ⟨i, s⟩
    refine TieS.seq ?_
    refine TieS.region ?_
    refine TieO.run 1 rfl ?_
    refine TieO.nil ?_
    refine TieS.seq ?_
    refine TieS.cond rfl ?_ ?_
    · refine TieS.skip ?_
      refine TieS.seq ?_
      refine TieX.pre fun x hx => ?_
      refine TieX.sub (σ' := ⟨[(6, .ptr 6 0), (8, .ptr 8 0), (9, .own 2248), (19, .own 2104), (20, .t (tI (v2.length : Int))), (21, .t (tI i))], [(6, .box [.t (tI 0), .t (tI 0), .t (tI 0)]), (8, .box [.t (tI s.2.low), .t (tI s.2.high), .t (tI s.2.source)]), (2104, .rows 44 4 v2.length (v2.map enc_SRequest)), (2248, .rows 3 1 s.1.length (s.1.map Pv.encI))]⟩) (.of rfl rfl) ?_
      refine TieS.bind (Q₁ := fun f e σ' => match f with | .next t => e = .normal ∧ Sub ⟨[(6, .ptr 6 0), (8, .ptr 8 0), (9, .own 2248), (19, .own 2104), (20, .t (tI (v2.length : Int))), (21, .t (tI i))], [(6, .box [.t (tI 0), .t (tI 0), .t (tI 0)]), (8, .box [.t (tI t.2.low), .t (tI t.2.high), .t (tI t.2.source)]), (2104, .rows 44 4 v2.length (v2.map enc_SRequest)), (2248, .rows 3 1 t.1.length (t.1.map Pv.encI))]⟩ σ' | .brk t => e = .exit 0 ∧ Sub ⟨[(6, .ptr 6 0), (8, .ptr 8 0), (9, .own 2248)], [(6, .box [.t (tI 0), .t (tI 0), .t (tI 0)]), (8, .box [.t (tI t.2.low), .t (tI t.2.high), .t (tI t.2.source)]), (2248, .rows 3 1 t.1.length (t.1.map Pv.encI))]⟩ σ' | .ret r => False) ?_ ?_
      · refine TieS.block ?_
        refine TieS.seq ?_
        refine TieS.region ?_
        refine TieO.indexOH hx rfl rfl rfl rfl rfl rfl rfl rfl rfl rfl ?_
        refine TieO.loadY hx rfl rfl rfl rfl rfl rfl rfl rfl ?_
        refine TieO.run 2 rfl ?_
        refine TieO.nil ?_
        refine TieS.seq ?_
        refine TieS.region ?_
        refine TieO.run 1 rfl ?_
        refine TieO.callG [(1000000, 8)] [] (fun r2 => ⟨[(6, .ptr 6 0), (8, .ptr 8 0), (9, .own 2248), (11, .ptr 11 0), (19, .own 2104), (20, .t (tI (v2.length : Int))), (21, .t (tI i)), (23, .pe 2104 (Int.toNat i) 4 0), (24, .agg [.t (tI x.Source), .t (tI x.Kind), .t (tI x.Torque), .t (tI x.Priority)]), (25, .agg [.t (tI x.Source), .t (tI x.Kind), .t (tI x.Torque), .t (tI x.Priority)]), (26, .t (tB r2.1))], [(6, .box [.t (tI 0), .t (tI 0), .t (tI 0)]), (8, .box [.t (tI r2.2.low), .t (tI r2.2.high), .t (tI r2.2.source)]), (11, .box [.t (tI x.Source), .t (tI x.Kind), .t (tI x.Torque), .t (tI x.Priority)]), (2104, .rows 44 4 v2.length (v2.map enc_SRequest)), (2248, .rows 3 1 s.1.length (s.1.map Pv.encI))]⟩) (tie_arbiter_span_narrow s.2 x) rfl rfl rfl rfl rfl rfl rfl (fun _ => rfl) (fun _ => rfl) (fun _ => rfl) (fun _ => .of rfl rfl) fun r2 hr2 => ?_
        refine TieO.nil ?_
        refine TieS.cond rfl ?_ ?_
        · refine TieS.region ?_
          refine TieO.run 4 rfl ?_
          refine TieO.appendY (id := 2248) (l := s.1) (r := ([x.Source] : List Int)) (tm' := [(6, .ptr 6 0), (8, .ptr 8 0), (11, .ptr 11 0), (19, .own 2104), (20, .t (tI (v2.length : Int))), (21, .t (tI i)), (23, .pe 2104 (Int.toNat i) 4 0), (24, .agg [.t (tI x.Source), .t (tI x.Kind), .t (tI x.Torque), .t (tI x.Priority)]), (25, .agg [.t (tI x.Source), .t (tI x.Kind), .t (tI x.Torque), .t (tI x.Priority)]), (26, .t (tB r2.1)), (28, .ptr 11 0), (29, .t (tI x.Source)), (30, .own 30)]) (hp' := [(6, .box [.t (tI 0), .t (tI 0), .t (tI 0)]), (8, .box [.t (tI r2.2.low), .t (tI r2.2.high), .t (tI r2.2.source)]), (11, .box [.t (tI x.Source), .t (tI x.Kind), .t (tI x.Torque), .t (tI x.Priority)]), (30, .rows 3 1 ([x.Source] : List Int).length (([x.Source] : List Int).map Pv.encI)), (2104, .rows 44 4 v2.length (v2.map enc_SRequest))]) rfl rfl rfl rfl rfl rfl rfl (fun _ => rfl) (fun _ => rfl) (.inl ⟨rfl, rfl⟩) (.inr ⟨_, rfl, rfl⟩) (.of rfl rfl) rfl rfl rfl fun l2 => ?_
          refine TieO.run 1 rfl ?_
          refine TieO.nil ?_
          refine TieS.endb ?_
          exact TieS.leaf ⟨rfl, .of rfl rfl⟩
        · refine TieS.skip ?_
          refine TieS.endb ?_
          exact TieS.leaf ⟨rfl, .of rfl rfl⟩
      rintro (t | t | r) e σ' _ hq
      · obtain ⟨rfl, hs⟩ := hq
        refine TieX.sub hs ?_
        refine TieS.region ?_
        refine TieO.run 2 rfl ?_
        refine TieO.nil ?_
        exact TieS.leaf ⟨rfl, .of rfl rfl⟩
      · obtain ⟨rfl, hs⟩ := hq
        exact TieX.exitOut rfl ⟨(fun h => by cases h), rfl, hs⟩
      · exact hq.elim
    · exact TieS.exitOut rfl ⟨(fun h => by cases h), rfl, .of rfl rfl⟩
  rintro (s2 | r) e σ' _ hq
  · obtain ⟨rfl, hs⟩ := hq
    refine TieX.exit rfl (TieX.sub hs ?_)
    refine TieS.seq ?_
    refine TieS.region ?_
    refine TieO.run 1 rfl ?_
    refine TieO.callG [(1000000, 2248)] [] (fun v3 => ⟨[(6, .ptr 6 0), (8, .ptr 8 0), (9, .own 2248), (33, .own 2248), (34, .tup [])], [(6, .box [.t (tI 0), .t (tI 0), .t (tI 0)]), (8, .box [.t (tI s2.2.low), .t (tI s2.2.high), .t (tI s2.2.source)]), (2248, .rows 3 1 v3.length (v3.map Pv.encI))]⟩) (tie_slices_Sort_sint s2.1) rfl rfl rfl rfl rfl rfl rfl (fun _ => rfl) (fun _ => rfl) (fun _ => rfl) (fun _ => .of rfl rfl) fun v3 hv3 => ?_
    refine TieO.nil ?_
    refine TieS.seq ?_
    refine TieS.bind (Q₁ := fun t e σ' => e = .normal ∧ Sub ⟨[(6, .ptr 6 0), (7, .own 2296)], [(6, .box [.t (tI t.2.low), .t (tI t.2.high), .t (tI t.2.source)]), (2296, .rows 3 1 t.1.length (t.1.map Pv.encI))]⟩ σ') ?_ ?_
    · refine TieX.pre fun v4 hv4 => ?_
      refine TieS.draws 3 [false, false, false, false, false] [true, true, true, false, false] ⟨[(6, .ptr 6 0), (8, .ptr 8 0), (35, .agg [.t (tI s2.2.low), .t (tI s2.2.high), .t (tI s2.2.source)]), (37, .own 2296)], [(6, .box [.t (tI 0), .t (tI 0), .t (tI 0)]), (8, .box [.t (tI s2.2.low), .t (tI s2.2.high), .t (tI s2.2.source)]), (2296, .rows 3 1 v4.length (v4.map Pv.encI))]⟩ mixed (fun _ _ _ h => by cases h.1) rfl rfl rfl rfl ?_ ?_
      · refine TieA.have_ (fuel₁ := 2) (l₁ := [true, true, true, false, false]) (σ₁ := ⟨[(6, .ptr 6 0), (8, .ptr 8 0), (35, .agg [.t (tI s2.2.low), .t (tI s2.2.high), .t (tI s2.2.source)]), (37, .own 2296)], [(6, .box [.t (tI 0), .t (tI 0), .t (tI 0)]), (8, .box [.t (tI s2.2.low), .t (tI s2.2.high), .t (tI s2.2.source)]), (2296, .rows 3 1 v4.length (v4.map Pv.encI))]⟩) ?_ fun A_2 => ?_
        · exact TieA.done (.of rfl rfl)
        refine TieA.have_ (fuel₁ := 3) (l₁ := [true, true, false, false, false]) (σ₁ := ⟨[(6, .ptr 6 0), (8, .ptr 8 0), (9, .own 2248), (35, .agg [.t (tI s2.2.low), .t (tI s2.2.high), .t (tI s2.2.source)]), (36, .own 2248)], [(6, .box [.t (tI 0), .t (tI 0), .t (tI 0)]), (8, .box [.t (tI s2.2.low), .t (tI s2.2.high), .t (tI s2.2.source)]), (2248, .rows 3 1 v3.length (v3.map Pv.encI))]⟩) ?_ fun A_1 => ?_
        · refine TieA.all [2] (by kernel_rfl) rfl ?_
          refine AllA.cons (σ₁ := ⟨[(6, .ptr 6 0), (8, .ptr 8 0), (35, .agg [.t (tI s2.2.low), .t (tI s2.2.high), .t (tI s2.2.source)]), (37, .own 2296)], [(6, .box [.t (tI 0), .t (tI 0), .t (tI 0)]), (8, .box [.t (tI s2.2.low), .t (tI s2.2.high), .t (tI s2.2.source)]), (2296, .rows 3 1 v4.length (v4.map Pv.encI))]⟩) [true, true, true, false, false] rfl rfl ?_ A_2 ?_
          · refine TieO.withH hv4 (TieO.callG [(1000000, 2248)] [(900000, 2296)] (fun v4 => ⟨[(6, .ptr 6 0), (8, .ptr 8 0), (35, .agg [.t (tI s2.2.low), .t (tI s2.2.high), .t (tI s2.2.source)]), (37, .own 2296)], [(6, .box [.t (tI 0), .t (tI 0), .t (tI 0)]), (8, .box [.t (tI s2.2.low), .t (tI s2.2.high), .t (tI s2.2.source)]), (2296, .rows 3 1 v4.length (v4.map Pv.encI))]⟩) (tie_slices_Compact_sint v3) rfl rfl rfl rfl rfl rfl rfl (fun _ => rfl) (fun _ => rfl) (fun _ => rfl) (fun _ => .of rfl rfl) (TieO.ifG ?_))
            exact TieO.nil (TieS.leaf ⟨rfl, .of rfl rfl⟩)
          exact AllA.nil
        refine TieA.have_ (fuel₁ := 3) (l₁ := [false, true, true, false, false]) (σ₁ := ⟨[(6, .ptr 6 0), (8, .ptr 8 0), (37, .own 2296)], [(6, .box [.t (tI 0), .t (tI 0), .t (tI 0)]), (8, .box [.t (tI s2.2.low), .t (tI s2.2.high), .t (tI s2.2.source)]), (2296, .rows 3 1 v4.length (v4.map Pv.encI))]⟩) ?_ fun A_3 => ?_
        · refine TieA.all [0] (by kernel_rfl) rfl ?_
          refine AllA.cons (σ₁ := ⟨[(6, .ptr 6 0), (8, .ptr 8 0), (35, .agg [.t (tI s2.2.low), .t (tI s2.2.high), .t (tI s2.2.source)]), (37, .own 2296)], [(6, .box [.t (tI 0), .t (tI 0), .t (tI 0)]), (8, .box [.t (tI s2.2.low), .t (tI s2.2.high), .t (tI s2.2.source)]), (2296, .rows 3 1 v4.length (v4.map Pv.encI))]⟩) [true, true, true, false, false] rfl rfl ?_ A_2 ?_
          · refine TieO.run 1 rfl ?_
            exact TieO.nil (TieS.leaf ⟨rfl, .of rfl rfl⟩)
          exact AllA.nil
        refine TieA.move 1 [false, true, false, false, false] rfl rfl (by first | exact .inl rfl | exact .inr rfl) rfl rfl rfl (by kernel_rfl) (by kernel_rfl) (by kernel_rfl) rfl ?_
        refine TieA.all [0, 2] (by kernel_rfl) rfl ?_
        refine AllA.cons (σ₁ := ⟨[(6, .ptr 6 0), (8, .ptr 8 0), (9, .own 2248), (35, .agg [.t (tI s2.2.low), .t (tI s2.2.high), .t (tI s2.2.source)]), (36, .own 2248)], [(6, .box [.t (tI 0), .t (tI 0), .t (tI 0)]), (8, .box [.t (tI s2.2.low), .t (tI s2.2.high), .t (tI s2.2.source)]), (2248, .rows 3 1 v3.length (v3.map Pv.encI))]⟩) [true, true, false, false, false] rfl rfl ?_ A_1 ?_
        · refine TieO.run 1 rfl ?_
          exact TieO.nil (TieS.leaf ⟨rfl, .of rfl rfl⟩)
        refine AllA.cons (σ₁ := ⟨[(6, .ptr 6 0), (8, .ptr 8 0), (37, .own 2296)], [(6, .box [.t (tI 0), .t (tI 0), .t (tI 0)]), (8, .box [.t (tI s2.2.low), .t (tI s2.2.high), .t (tI s2.2.source)]), (2296, .rows 3 1 v4.length (v4.map Pv.encI))]⟩) [false, true, true, false, false] rfl rfl ?_ A_3 ?_
        · refine TieO.withH hv4 (TieO.callG [(1000000, 2248)] [(900000, 2296)] (fun v4 => ⟨[(6, .ptr 6 0), (8, .ptr 8 0), (34, .tup []), (37, .own 2296)], [(6, .box [.t (tI 0), .t (tI 0), .t (tI 0)]), (8, .box [.t (tI s2.2.low), .t (tI s2.2.high), .t (tI s2.2.source)]), (2296, .rows 3 1 v4.length (v4.map Pv.encI))]⟩) (tie_slices_Compact_sint v3) rfl rfl rfl rfl rfl rfl rfl (fun _ => rfl) (fun _ => rfl) (fun _ => rfl) (fun _ => .of rfl rfl) (TieO.ifG ?_))
          exact TieO.nil (TieS.leaf ⟨rfl, .of rfl rfl⟩)
        exact AllA.nil
      refine TieO.run 2 rfl ?_
      refine TieO.nil ?_
      exact TieS.leaf ⟨rfl, .of rfl rfl⟩
    rintro s3 e σ' _ ⟨rfl, hs⟩
    refine TieX.sub hs ?_
    exact TieS.ret ⟨.inl rfl, rfl⟩
  · exact hq.elim
-- magneto/arbiter.Decide
set_option maxRecDepth 100000 in
theorem tie_arbiter_Decide (l : List SRequest) (low : Int) (high : Int) : TieF Try.prog 34 [.t (tS enc_SRequest l), .t (tI low), .t (tI high)] (arbiter_Decide l low high) (fun r => .tup [A_SGrant r.1, .t (tI r.2)]) := by
  refine TieF.intro htab 31 [.cell 6 77, .tmp 7] Try.call34 Try.func34 rfl rfl rfl (Nat.le_of_ble_eq_true rfl) fun w0 L => ?_
  refine TieS.seq ?_
  refine TieS.region ?_
  refine TieO.run 2 rfl ?_
  refine TieO.nil ?_
  refine TieS.seq ?_
  refine TieS.seq ?_
  refine TieS.region ?_
  refine TieO.run 3 rfl ?_
  refine TieO.call _ rfl rfl rfl (tie_arbiter_given l low high) (fun _ => rfl) fun v => ?_
  refine TieO.run 1 rfl ?_
  refine TieO.nil ?_
  refine TieS.seq ?_
  refine TieS.region ?_
  refine TieO.run 2 rfl ?_
  refine TieO.nil ?_
  refine TieS.cond rfl ?_ ?_
  · refine TieS.seq ?_
    refine TieS.region ?_
    refine TieO.run 4 rfl ?_
    refine TieO.nil ?_
    exact TieS.ret ⟨.inl rfl, rfl⟩
  · refine TieS.skip ?_
    refine TieS.seq ?_
    refine TieS.region ?_
    refine TieO.run 3 rfl ?_
    refine TieO.call _ rfl rfl rfl (tie_arbiter_decide l low high) (fun _ => rfl) fun r2 => ?_
    refine TieO.run 6 rfl ?_
    refine TieO.nil ?_
    refine TieS.seq ?_
    refine TieS.region ?_
    refine TieO.run 7 rfl ?_
    refine TieO.nil ?_
    exact TieS.ret ⟨.inl rfl, rfl⟩
-- magneto/magnetolaw39.MonitorGrants
set_option maxRecDepth 100000 in
theorem tie_magnetolaw39_MonitorGrants (t2 : STables) (value : Int) (speed : Int) (l : List SRequest) (low : Int) (high : Int) : TieF Try.prog 10 [A_STables t2, .t (tI value), .t (tI speed), .t (tS enc_SRequest l), .t (tI low), .t (tI high)] (magnetolaw39_MonitorGrants t2 value speed l low high) (fun r => .t (tB r)) := by
  refine TieF.intro htab 96 [.tmp 12] Try.call10 Try.func10 rfl rfl rfl (Nat.le_of_ble_eq_true rfl) fun w0 L => ?_
  refine TieS.seq ?_
  refine TieS.region ?_
  refine TieO.run 2 rfl ?_
  refine TieO.nil ?_
  refine TieS.seq ?_
  refine TieS.seq ?_
  refine TieS.region ?_
  refine TieO.call _ rfl rfl rfl (tie_magnetolaw39_awake) (fun _ => rfl) fun v => ?_
  refine TieO.run 1 rfl ?_
  refine TieO.nil ?_
  refine TieS.cond rfl ?_ ?_
  · refine TieS.seq ?_
    refine TieS.region ?_
    refine TieO.run 1 rfl ?_
    refine TieO.nil ?_
    exact TieS.ret ⟨.inl rfl, rfl⟩
  · refine TieS.skip ?_
    refine TieS.seq ?_
    refine TieS.seq ?_
    refine TieS.region ?_
    refine TieO.run 3 rfl ?_
    refine TieO.nil ?_
    refine TieS.cond rfl ?_ ?_
    · refine TieS.seq ?_
      refine TieS.region ?_
      refine TieO.run 1 rfl ?_
      refine TieO.nil ?_
      exact TieS.ret ⟨.inl rfl, rfl⟩
    · refine TieS.skip ?_
      refine TieS.seq ?_
      refine TieS.region ?_
      refine TieO.run 4 rfl ?_
      refine TieO.call _ rfl rfl rfl (tie_monitor_Permitted t2 value speed l) (fun _ => rfl) fun r2 => ?_
      refine TieO.run 5 rfl ?_
      refine TieO.nil ?_
      refine TieS.seq ?_
      refine TieS.region ?_
      refine TieO.run 3 rfl ?_
      refine TieO.call _ rfl rfl rfl (tie_pedal_Wish t2 value speed) (fun _ => rfl) fun r3 => ?_
      refine TieO.run 5 rfl ?_
      refine TieO.nil ?_
      refine TieS.seq ?_
      refine TieS.region ?_
      refine TieO.run 3 rfl ?_
      refine TieO.call _ rfl rfl rfl (tie_arbiter_Decide l low high) (fun _ => rfl) fun r4 => ?_
      refine TieO.run 6 rfl ?_
      refine TieO.nil ?_
      refine TieS.seq ?_
      refine TieS.seq ?_
      refine TieS.region ?_
      refine TieO.run 3 rfl ?_
      refine TieO.selOr (v := (r3.2 != 0)) 3 50 (fun b => ⟨[(3, .t (tS enc_SRequest l)), (4, .t (tI low)), (13, .t (tI r2.1)), (15, .t (tI r3.1)), (17, .ptr 17 0), (18, .t (tI r4.2)), (53, .t (tB b))], [(17, .box [.t (tI r4.1.Torque), .t (tI r4.1.Source)])]⟩) rfl ?_ ?_ ?_
      · refine TieO.run 3 rfl ?_
        refine TieO.nil ?_
        exact TieS.leaf ⟨rfl, .of rfl rfl⟩
      · refine TieO.run 3 rfl ?_
        refine TieO.nil ?_
        exact TieS.leaf ⟨rfl, .of rfl rfl⟩
      refine TieO.run 1 rfl ?_
      refine TieO.selOr (v := (r4.2 != 0)) 3 54 (fun b => ⟨[(3, .t (tS enc_SRequest l)), (4, .t (tI low)), (13, .t (tI r2.1)), (15, .t (tI r3.1)), (17, .ptr 17 0), (57, .t (tB b))], [(17, .box [.t (tI r4.1.Torque), .t (tI r4.1.Source)])]⟩) rfl ?_ ?_ ?_
      · refine TieO.run 3 rfl ?_
        refine TieO.nil ?_
        exact TieS.leaf ⟨rfl, .of rfl rfl⟩
      · refine TieO.run 3 rfl ?_
        refine TieO.nil ?_
        exact TieS.leaf ⟨rfl, .of rfl rfl⟩
      refine TieO.nil ?_
      refine TieS.cond rfl ?_ ?_
      · refine TieS.seq ?_
        refine TieS.region ?_
        refine TieO.run 1 rfl ?_
        refine TieO.nil ?_
        exact TieS.ret ⟨.inl rfl, rfl⟩
      · refine TieS.skip ?_
        refine TieS.seq ?_
        refine TieS.seq ?_
        refine TieS.region ?_
        refine TieO.run 3 rfl ?_
        refine TieO.nil ?_
        refine TieS.block ?_
        refine TieX.frzBox 17 rfl rfl ?_
        refine TieS.loop (fun p => ⟨[(4, .t (tI low)), (13, .t (tI r2.1)), (15, .t (tI r3.1)), (17, .el (enc_SGrant r4.1)), (58, .t (tS enc_SRequest l)), (59, .t (tI (l.length : Int))), (60, .t (tI p.1))], []⟩) (fun b e σ' => match b with | .inl t => e = .exit 0 ∧ Sub ⟨[(4, .t (tI low)), (13, .t (tI r2.1)), (17, .el (enc_SGrant r4.1))], []⟩ σ' | .inr t => e = .ret ∧ retT tab σ' [.tmp 12] = some (((fun r => .t (tB r)) : Bool → T) t)) (.of rfl rfl) ?_ ?_
        · rintro ⟨i, s⟩
          refine TieS.seq ?_
          refine TieS.region ?_
          refine TieO.run 1 rfl ?_
          refine TieO.nil ?_
          refine TieS.seq ?_
          refine TieS.cond rfl ?_ ?_
          · refine TieS.skip ?_
            refine TieS.seq ?_
            refine TieX.pre fun x hx => ?_
            refine TieX.sub (σ' := ⟨[(4, .t (tI low)), (13, .t (tI r2.1)), (15, .t (tI r3.1)), (17, .el (enc_SGrant r4.1)), (58, .t (tS enc_SRequest l)), (59, .t (tI (l.length : Int))), (60, .t (tI i))], []⟩) (.of rfl rfl) ?_
            refine TieS.bind (Q₁ := fun f e σ' => match f with | .next t => e = .normal ∧ Sub ⟨[(4, .t (tI low)), (13, .t (tI r2.1)), (15, .t (tI r3.1)), (17, .el (enc_SGrant r4.1)), (58, .t (tS enc_SRequest l)), (59, .t (tI (l.length : Int))), (60, .t (tI i))], []⟩ σ' | .brk t => e = .exit 0 ∧ Sub ⟨[(4, .t (tI low)), (13, .t (tI r2.1)), (17, .el (enc_SGrant r4.1))], []⟩ σ' | .ret t => e = .ret ∧ retT tab σ' [.tmp 12] = some (((fun r => .t (tB r)) : Bool → T) t)) ?_ ?_
            · refine TieS.block ?_
              refine TieS.seq ?_
              refine TieS.region ?_
              refine TieO.indexH hx rfl rfl rfl rfl rfl rfl rfl rfl (fun _ => rfl) ?_
              refine TieO.run 3 rfl ?_
              refine TieO.nil ?_
              refine TieS.seq ?_
              refine TieS.region ?_
              refine TieO.run 4 rfl ?_
              refine TieO.frzBox 20 rfl rfl ?_
              refine TieO.bind 20 (fun b3 => ⟨[(4, .t (tI low)), (13, .t (tI r2.1)), (15, .t (tI r3.1)), (17, .el (enc_SGrant r4.1)), (58, .t (tS enc_SRequest l)), (59, .t (tI (l.length : Int))), (60, .t (tI i)), (87, .t (tB b3))], []⟩) (TieO.split 67 rfl ?_ ?_) fun b3 _ => ?_
              · refine TieO.run 4 rfl ?_
                refine TieO.selAnd (v := decide (x.Torque > r3.1)) 5 71 (fun b => ⟨[(4, .t (tI low)), (13, .t (tI r2.1)), (15, .t (tI r3.1)), (17, .el (enc_SGrant r4.1)), (20, .el (enc_SRequest x)), (58, .t (tS enc_SRequest l)), (59, .t (tI (l.length : Int))), (60, .t (tI i)), (67, .t (tB true)), (76, .t (tB b))], []⟩) rfl ?_ ?_ ?_
                · refine TieO.run 5 rfl ?_
                  refine TieO.nil ?_
                  exact TieS.leaf ⟨rfl, .of rfl rfl⟩
                · refine TieO.run 5 rfl ?_
                  refine TieO.nil ?_
                  exact TieS.leaf ⟨rfl, .of rfl rfl⟩
                refine TieO.run 1 rfl ?_
                refine TieO.bind 9 (fun b2 => ⟨[(4, .t (tI low)), (13, .t (tI r2.1)), (15, .t (tI r3.1)), (17, .el (enc_SGrant r4.1)), (58, .t (tS enc_SRequest l)), (59, .t (tI (l.length : Int))), (60, .t (tI i)), (67, .t (tB true)), (86, .t (tB b2))], []⟩) (TieO.split 77 rfl ?_ ?_) fun b2 _ => ?_
                · refine TieO.run 9 rfl ?_
                  refine TieO.nil ?_
                  exact TieS.leaf ⟨rfl, .of rfl rfl⟩
                · refine TieO.run 4 rfl ?_
                  refine TieO.selAnd (v := decide (x.Torque > 1500)) 4 81 (fun b => ⟨[(4, .t (tI low)), (13, .t (tI r2.1)), (15, .t (tI r3.1)), (17, .el (enc_SGrant r4.1)), (58, .t (tS enc_SRequest l)), (59, .t (tI (l.length : Int))), (60, .t (tI i)), (67, .t (tB true)), (77, .t (tB false)), (85, .t (tB b))], []⟩) rfl ?_ ?_ ?_
                  · refine TieO.run 4 rfl ?_
                    refine TieO.nil ?_
                    exact TieS.leaf ⟨rfl, .of rfl rfl⟩
                  · refine TieO.run 4 rfl ?_
                    refine TieO.nil ?_
                    exact TieS.leaf ⟨rfl, .of rfl rfl⟩
                  refine TieO.run 1 rfl ?_
                  refine TieO.nil ?_
                  exact TieS.leaf ⟨rfl, .of rfl rfl⟩
                refine TieO.run 1 rfl ?_
                refine TieO.nil ?_
                exact TieS.leaf ⟨rfl, .of rfl rfl⟩
              · refine TieO.run 20 rfl ?_
                refine TieO.nil ?_
                exact TieS.leaf ⟨rfl, .of rfl rfl⟩
              refine TieO.nil ?_
              refine TieS.cond rfl ?_ ?_
              · refine TieS.seq ?_
                refine TieS.region ?_
                refine TieO.run 1 rfl ?_
                refine TieO.nil ?_
                exact TieS.ret ⟨rfl, rfl⟩
              · refine TieS.skip ?_
                refine TieS.endb ?_
                exact TieS.leaf ⟨rfl, .of rfl rfl⟩
            rintro (t | t | t) e σ' _ hq
            · obtain ⟨rfl, hs⟩ := hq
              refine TieX.sub hs ?_
              refine TieS.region ?_
              refine TieO.run 2 rfl ?_
              refine TieO.nil ?_
              exact TieS.leaf ⟨rfl, .of rfl rfl⟩
            · obtain ⟨rfl, hs⟩ := hq
              exact TieX.exitOut rfl ⟨(fun h => by cases h), rfl, hs⟩
            · obtain ⟨rfl, hs⟩ := hq
              exact TieX.ret ⟨(fun h => by cases h), rfl, hs⟩
          · exact TieS.exitOut rfl ⟨(fun h => by cases h), rfl, .of rfl rfl⟩
        rintro (s2 | r5) e σ' _ hq
        · obtain ⟨rfl, hs⟩ := hq
          refine TieX.exit rfl (TieX.sub hs ?_)
          refine TieS.seq ?_
          refine TieS.region ?_
          refine TieO.run 8 rfl ?_
          refine TieO.nil ?_
          exact TieS.ret ⟨.inl rfl, rfl⟩
        · obtain ⟨rfl, hs⟩ := hq
          exact TieX.ret ⟨.inl rfl, hs⟩
end Go.Proofs.Ytllofihbdbdaeaa
namespace Go.Pv
open Go
structure wf_SGuard (x : SGuard) : Prop where
  Over : (fun n => (Lit.int .i64 n).wf = true) x.Over
  Calm : (fun n => (Lit.int .i64 n).wf = true) x.Calm
  Off : (fun _ => True) x.Off
structure wf_SMap (x : SMap) : Prop where
  X : (wfL (fun n => (Lit.int .i64 n).wf = true)) x.X
  Y : (wfL (fun n => (Lit.int .i64 n).wf = true)) x.Y
  Z : (wfL (wfL (fun n => (Lit.int .i64 n).wf = true))) x.Z
structure wf_SCurve (x : SCurve) : Prop where
  X : (wfL (fun n => (Lit.int .i64 n).wf = true)) x.X
  Y : (wfL (fun n => (Lit.int .i64 n).wf = true)) x.Y
structure wf_SGain (x : SGain) : Prop where
  P : (fun n => (Lit.int .i64 n).wf = true) x.P
  I : (fun n => (Lit.int .i64 n).wf = true) x.I
  Low : (fun n => (Lit.int .i64 n).wf = true) x.Low
  High : (fun n => (Lit.int .i64 n).wf = true) x.High
structure wf_STables (x : STables) : Prop where
  Air : wf_SMap x.Air
  Spark : wf_SMap x.Spark
  Torque : wf_SMap x.Torque
  Wish : wf_SMap x.Wish
  AirTemp : wf_SCurve x.AirTemp
  Dwell : wf_SCurve x.Dwell
  Dead : wf_SCurve x.Dead
  Efficiency : wf_SCurve x.Efficiency
  Idle : wf_SGain x.Idle
structure wf_SRequest (x : SRequest) : Prop where
  Source : (fun n => (Lit.int .i64 n).wf = true) x.Source
  Kind : (fun n => (Lit.int .i64 n).wf = true) x.Kind
  Torque : (fun n => (Lit.int .i64 n).wf = true) x.Torque
  Priority : (fun n => (Lit.int .i64 n).wf = true) x.Priority
structure wf_SFire (x : SFire) : Prop where
  Cylinder : (fun n => (Lit.int .i64 n).wf = true) x.Cylinder
  Spark : (fun n => (Lit.int .i64 n).wf = true) x.Spark
  Dwell : (fun n => (Lit.int .i64 n).wf = true) x.Dwell
  End : (fun n => (Lit.int .i64 n).wf = true) x.End
  Inject : (fun n => (Lit.int .i64 n).wf = true) x.Inject
  Gap : (fun n => (Lit.int .i64 n).wf = true) x.Gap
  Extra : (fun n => (Lit.int .i64 n).wf = true) x.Extra
def wf_arr2_Int (x : (Int × Int)) : Prop := (fun n => (Lit.int .i64 n).wf = true) x.1 ∧ (fun n => (Lit.int .i64 n).wf = true) x.2
end Go.Pv
namespace Go.Proofs.Ytllofihbdbdaeaa
open Go Go.Pv Go.Proofs
theorem reads_3 : Reads Try.prog 3 Pv.encI (fun n => (Lit.int .i64 n).wf = true) := reads_int Try.underlying3 (fun _ => rfl)
theorem reads_4 : Reads Try.prog 4 Pv.encB (fun _ => True) := reads_bool Try.underlying4 (fun _ => rfl)
theorem reads_49 : Reads Try.prog 49 enc_SGuard wf_SGuard := by
  intro H e w fuel cs x h
  obtain ⟨xs, n, _, rfl, hl, hlen, hf⟩ := DataW.trod_struct Try.underlying49 h
  obtain ⟨y0, w0, r0⟩ := field_of hlen hf 0 rfl reads_3
  obtain ⟨y1, w1, r1⟩ := field_of hlen hf 1 rfl reads_3
  obtain ⟨y2, w2, r2⟩ := field_of hlen hf 2 rfl reads_4
  exact ⟨⟨y0, y1, y2⟩, ⟨w0, w1, w2⟩, rtl_cons (o := 0) (o' := 1) r0 (by kernel_rfl) (rtl_cons (o := 1) (o' := 2) r1 (by kernel_rfl) (rtl_cons (o := 2) (o' := 3) r2 (by kernel_rfl) (rtl_nil (hl.trans (by kernel_rfl)))))⟩
theorem arg_49 : ArgOk Try.prog 49 (fun x => A_SGuard x) wf_SGuard := arg_struct Try.underlying49 reads_49 (fun _ => rfl)
theorem arg_3 : ArgOk Try.prog 3 (fun x => .t (tI x)) (fun n => (Lit.int .i64 n).wf = true) := arg_int Try.underlying3 reads_3 (fun _ => rfl) (fun _ => rfl)
theorem reads_22 : Reads Try.prog 22 (Pv.encS Pv.encI) (wfL (fun n => (Lit.int .i64 n).wf = true)) := reads_slice (sz := 1) Try.underlying22 reads_3 (by kernel_rfl) (by decide) (fun _ => rfl)
theorem reads_23 : Reads Try.prog 23 (Pv.encS (Pv.encS Pv.encI)) (wfL (wfL (fun n => (Lit.int .i64 n).wf = true))) := reads_slice (sz := 1) Try.underlying23 reads_22 (by kernel_rfl) (by decide) (fun _ => rfl)
theorem reads_25 : Reads Try.prog 25 enc_SMap wf_SMap := by
  intro H e w fuel cs x h
  obtain ⟨xs, n, _, rfl, hl, hlen, hf⟩ := DataW.trod_struct Try.underlying25 h
  obtain ⟨y0, w0, r0⟩ := field_of hlen hf 0 rfl reads_22
  obtain ⟨y1, w1, r1⟩ := field_of hlen hf 1 rfl reads_22
  obtain ⟨y2, w2, r2⟩ := field_of hlen hf 2 rfl reads_23
  exact ⟨⟨y0, y1, y2⟩, ⟨w0, w1, w2⟩, rtl_cons (o := 0) (o' := 1) r0 (by kernel_rfl) (rtl_cons (o := 1) (o' := 2) r1 (by kernel_rfl) (rtl_cons (o := 2) (o' := 3) r2 (by kernel_rfl) (rtl_nil (hl.trans (by kernel_rfl)))))⟩
theorem reads_27 : Reads Try.prog 27 enc_SCurve wf_SCurve := by
  intro H e w fuel cs x h
  obtain ⟨xs, n, _, rfl, hl, hlen, hf⟩ := DataW.trod_struct Try.underlying27 h
  obtain ⟨y0, w0, r0⟩ := field_of hlen hf 0 rfl reads_22
  obtain ⟨y1, w1, r1⟩ := field_of hlen hf 1 rfl reads_22
  exact ⟨⟨y0, y1⟩, ⟨w0, w1⟩, rtl_cons (o := 0) (o' := 1) r0 (by kernel_rfl) (rtl_cons (o := 1) (o' := 2) r1 (by kernel_rfl) (rtl_nil (hl.trans (by kernel_rfl))))⟩
theorem reads_29 : Reads Try.prog 29 enc_SGain wf_SGain := by
  intro H e w fuel cs x h
  obtain ⟨xs, n, _, rfl, hl, hlen, hf⟩ := DataW.trod_struct Try.underlying29 h
  obtain ⟨y0, w0, r0⟩ := field_of hlen hf 0 rfl reads_3
  obtain ⟨y1, w1, r1⟩ := field_of hlen hf 1 rfl reads_3
  obtain ⟨y2, w2, r2⟩ := field_of hlen hf 2 rfl reads_3
  obtain ⟨y3, w3, r3⟩ := field_of hlen hf 3 rfl reads_3
  exact ⟨⟨y0, y1, y2, y3⟩, ⟨w0, w1, w2, w3⟩, rtl_cons (o := 0) (o' := 1) r0 (by kernel_rfl) (rtl_cons (o := 1) (o' := 2) r1 (by kernel_rfl) (rtl_cons (o := 2) (o' := 3) r2 (by kernel_rfl) (rtl_cons (o := 3) (o' := 4) r3 (by kernel_rfl) (rtl_nil (hl.trans (by kernel_rfl))))))⟩
theorem reads_31 : Reads Try.prog 31 enc_STables wf_STables := by
  intro H e w fuel cs x h
  obtain ⟨xs, n, _, rfl, hl, hlen, hf⟩ := DataW.trod_struct Try.underlying31 h
  obtain ⟨y0, w0, r0⟩ := field_of hlen hf 0 rfl reads_25
  obtain ⟨y1, w1, r1⟩ := field_of hlen hf 1 rfl reads_25
  obtain ⟨y2, w2, r2⟩ := field_of hlen hf 2 rfl reads_25
  obtain ⟨y3, w3, r3⟩ := field_of hlen hf 3 rfl reads_25
  obtain ⟨y4, w4, r4⟩ := field_of hlen hf 4 rfl reads_27
  obtain ⟨y5, w5, r5⟩ := field_of hlen hf 5 rfl reads_27
  obtain ⟨y6, w6, r6⟩ := field_of hlen hf 6 rfl reads_27
  obtain ⟨y7, w7, r7⟩ := field_of hlen hf 7 rfl reads_27
  obtain ⟨y8, w8, r8⟩ := field_of hlen hf 8 rfl reads_29
  exact ⟨⟨y0, y1, y2, y3, y4, y5, y6, y7, y8⟩, ⟨w0, w1, w2, w3, w4, w5, w6, w7, w8⟩, rtl_cons (o := 0) (o' := 3) r0 (by kernel_rfl) (rtl_cons (o := 3) (o' := 6) r1 (by kernel_rfl) (rtl_cons (o := 6) (o' := 9) r2 (by kernel_rfl) (rtl_cons (o := 9) (o' := 12) r3 (by kernel_rfl) (rtl_cons (o := 12) (o' := 14) r4 (by kernel_rfl) (rtl_cons (o := 14) (o' := 16) r5 (by kernel_rfl) (rtl_cons (o := 16) (o' := 18) r6 (by kernel_rfl) (rtl_cons (o := 18) (o' := 20) r7 (by kernel_rfl) (rtl_cons (o := 20) (o' := 24) r8 (by kernel_rfl) (rtl_nil (hl.trans (by kernel_rfl)))))))))))⟩
theorem arg_31 : ArgOk Try.prog 31 (fun x => A_STables x) wf_STables := arg_struct Try.underlying31 reads_31 (fun _ => rfl)
theorem reads_44 : Reads Try.prog 44 enc_SRequest wf_SRequest := by
  intro H e w fuel cs x h
  obtain ⟨xs, n, _, rfl, hl, hlen, hf⟩ := DataW.trod_struct Try.underlying44 h
  obtain ⟨y0, w0, r0⟩ := field_of hlen hf 0 rfl reads_3
  obtain ⟨y1, w1, r1⟩ := field_of hlen hf 1 rfl reads_3
  obtain ⟨y2, w2, r2⟩ := field_of hlen hf 2 rfl reads_3
  obtain ⟨y3, w3, r3⟩ := field_of hlen hf 3 rfl reads_3
  exact ⟨⟨y0, y1, y2, y3⟩, ⟨w0, w1, w2, w3⟩, rtl_cons (o := 0) (o' := 1) r0 (by kernel_rfl) (rtl_cons (o := 1) (o' := 2) r1 (by kernel_rfl) (rtl_cons (o := 2) (o' := 3) r2 (by kernel_rfl) (rtl_cons (o := 3) (o' := 4) r3 (by kernel_rfl) (rtl_nil (hl.trans (by kernel_rfl))))))⟩
theorem reads_32 : Reads Try.prog 32 (Pv.encS enc_SRequest) (wfL wf_SRequest) := reads_slice (sz := 4) Try.underlying32 reads_44 (by kernel_rfl) (by decide) (fun _ => rfl)
theorem arg_32 : ArgOk Try.prog 32 (fun x => .t (tS enc_SRequest x)) (wfL wf_SRequest) := arg_slice Try.underlying32 reads_32 (fun _ => rfl)
theorem reads_62 : Reads Try.prog 62 enc_SFire wf_SFire := by
  intro H e w fuel cs x h
  obtain ⟨xs, n, _, rfl, hl, hlen, hf⟩ := DataW.trod_struct Try.underlying62 h
  obtain ⟨y0, w0, r0⟩ := field_of hlen hf 0 rfl reads_3
  obtain ⟨y1, w1, r1⟩ := field_of hlen hf 1 rfl reads_3
  obtain ⟨y2, w2, r2⟩ := field_of hlen hf 2 rfl reads_3
  obtain ⟨y3, w3, r3⟩ := field_of hlen hf 3 rfl reads_3
  obtain ⟨y4, w4, r4⟩ := field_of hlen hf 4 rfl reads_3
  obtain ⟨y5, w5, r5⟩ := field_of hlen hf 5 rfl reads_3
  obtain ⟨y6, w6, r6⟩ := field_of hlen hf 6 rfl reads_3
  exact ⟨⟨y0, y1, y2, y3, y4, y5, y6⟩, ⟨w0, w1, w2, w3, w4, w5, w6⟩, rtl_cons (o := 0) (o' := 1) r0 (by kernel_rfl) (rtl_cons (o := 1) (o' := 2) r1 (by kernel_rfl) (rtl_cons (o := 2) (o' := 3) r2 (by kernel_rfl) (rtl_cons (o := 3) (o' := 4) r3 (by kernel_rfl) (rtl_cons (o := 4) (o' := 5) r4 (by kernel_rfl) (rtl_cons (o := 5) (o' := 6) r5 (by kernel_rfl) (rtl_cons (o := 6) (o' := 7) r6 (by kernel_rfl) (rtl_nil (hl.trans (by kernel_rfl)))))))))⟩
theorem reads_56 : Reads Try.prog 56 (Pv.encS enc_SFire) (wfL wf_SFire) := reads_slice (sz := 7) Try.underlying56 reads_62 (by kernel_rfl) (by decide) (fun _ => rfl)
theorem arg_56 : ArgOk Try.prog 56 (fun x => .t (tS enc_SFire x)) (wfL wf_SFire) := arg_slice Try.underlying56 reads_56 (fun _ => rfl)
theorem reads_5 : Reads Try.prog 5 enc_u8 (fun n => (Lit.int .u8 n).wf = true) := reads_int Try.underlying5 (fun _ => rfl)
theorem arg_5 : ArgOk Try.prog 5 (fun x => .t (tK .u8 x)) (fun n => (Lit.int .u8 n).wf = true) := arg_int Try.underlying5 reads_5 (fun _ => rfl) (fun _ => rfl)
theorem reads_69 : Reads Try.prog 69 enc_arr2_Int wf_arr2_Int := by
  intro H e w fuel cs x h
  obtain ⟨xs, n, _, rfl, hl, hlen, hf⟩ := DataW.trod_array Try.underlying69 h
  obtain ⟨y0, w0, r0⟩ := elem_at hlen hf 0 0 (by decide) (by kernel_rfl) reads_3
  obtain ⟨y1, w1, r1⟩ := elem_at hlen hf 1 1 (by decide) (by kernel_rfl) reads_3
  exact ⟨(y0, y1), ⟨w0, w1⟩, rtl_cons (o := 0) (o' := 1) r0 (by kernel_rfl) (rtl_cons (o := 1) (o' := 2) r1 (by kernel_rfl) (rtl_nil (hl.trans (by kernel_rfl))))⟩
theorem reads_64 : Reads Try.prog 64 (Pv.encS enc_arr2_Int) (wfL wf_arr2_Int) := reads_slice (sz := 2) Try.underlying64 reads_69 (by kernel_rfl) (by decide) (fun _ => rfl)
theorem arg_64 : ArgOk Try.prog 64 (fun x => .t (tS enc_arr2_Int x)) (wfL wf_arr2_Int) := arg_slice Try.underlying64 reads_64 (fun _ => rfl)
end Go.Proofs.Ytllofihbdbdaeaa
set_option linter.unusedSimpArgs false
namespace Go.Pv
open Go

def probeMap : SMap := ⟨[0, 1000], [0, 500], [[0, 1000], [0, 1000]]⟩

theorem w64_one : w64 1 = 1 := by decide
theorem w64_zero : w64 0 = 0 := by decide
theorem w64_neg1 : w64 (-1) = -1 := by decide

theorem rangeN_0 {S R : Type} (f : Int → S → Option (Fl S R)) (s : S) : rangeN 0 f s = stepsN f 0 0 s := rangeN_steps 0 (by decide) f s
theorem rangeN_1 {S R : Type} (f : Int → S → Option (Fl S R)) (s : S) : rangeN 1 f s = stepsN f 1 0 s := rangeN_steps 1 (by decide) f s
theorem rangeN_2 {S R : Type} (f : Int → S → Option (Fl S R)) (s : S) : rangeN 2 f s = stepsN f 2 0 s := rangeN_steps 2 (by decide) f s

theorem probe_axis (a b : Int) (ha : surface_element a = some true) (hb : surface_element b = some true) (h : a < b) : surface_axis [a, b] = some true := by
  have h' : ¬ b ≤ a := by omega
  simp [surface_axis, rangeN_0, rangeN_1, rangeN_2, stepsN, surface_axis_b1, getI, ha, hb, w64_zero, h']

theorem probe_contains (a b : Int) (ha : surface_element a = some true) (hb : surface_element b = some true) : slices_ContainsFunc_sint [a, b] surface_Valid_1 = some false := by
  simp [slices_ContainsFunc_sint, slices_IndexFunc_sint, rangeN_0, rangeN_1, rangeN_2, stepsN, slices_IndexFunc_sint_b1, getI, surface_Valid_1, ha, hb]

theorem probe_valid : surface_Valid probeMap = some true := by
  have h1 : surface_element 0 = some true := by simp [surface_element]
  have h2 : surface_element 1000 = some true := by simp [surface_element]
  have h3 : surface_element 500 = some true := by simp [surface_element]
  simp [surface_Valid, probeMap, probe_axis _ _ h1 h2 (by decide), probe_axis _ _ h1 h3 (by decide), rangeM_steps, stepsL, surface_Valid_b1, probe_contains _ _ h1 h2]

theorem probe_around (b x : Int) (h0 : 0 ≤ x) (hx : x < b) : monitor_around [0, b] x = some (0, if x = 0 then 0 else 1) := by
  have hb' : ¬ b ≤ x := by omega
  have hb2 : x ≤ b := by omega
  have hx0 : ¬ x < 0 := by omega
  have e0 : rangeN (([0, b] : List Int).length : Int) (monitor_around_b1 [0, b] x) 0 = some (.inl 0) := by
    simp [rangeN_0, rangeN_1, rangeN_2, stepsN, monitor_around_b1, getI, h0, hb']
  have e1 : w64 ((([0, b] : List Int).length : Int) - 1) = 1 := by simp [w64_one]
  have e2 : loopM (monitor_around_b2 [0, b] x) (1, 1) = some (.inl (-1, if x = 0 then 0 else 1)) := by
    rw [loopM_eq]
    have : monitor_around_b2 [0, b] x (1, 1) = some (.inl (0, 1)) := by simp [monitor_around_b2, getI, hb2, w64_zero]
    simp only [this, Option.bind_some]
    rw [loopM_eq]
    have : monitor_around_b2 [0, b] x (0, 1) = some (.inl (-1, if x = 0 then 0 else 1)) := by
      by_cases hz : x = 0
      · simp [monitor_around_b2, getI, hz, w64_neg1]
      · have : ¬ x ≤ 0 := by omega
        simp [monitor_around_b2, getI, hz, w64_neg1, this]
    simp only [this, Option.bind_some]
    rw [loopM_eq]
    simp [monitor_around_b2]
  unfold monitor_around
  rw [e0, e1]
  simp only [Option.bind_some]
  rw [e2]
  simp [getI, hx0]

theorem probe_corner : monitor_corner probeMap 700 100 = some 1000 := by
  simp [monitor_corner, probeMap, probe_around, getI, maxI]

theorem probe_none : monitor_Permitted ⟨⟨[], [], []⟩, ⟨[], [], []⟩, ⟨[], [], []⟩, probeMap, ⟨[], []⟩, ⟨[], []⟩, ⟨[], []⟩, ⟨[], []⟩, ⟨0, 0, 0, 0⟩⟩ 100 700 [] = some (1100, 0) := by
  simp [monitor_Permitted, probe_valid, slices_ContainsFunc_sRequest, slices_IndexFunc_sRequest, rangeN_0, rangeN_1, rangeN_2, stepsN, monitor_within, probe_corner, rangeM_steps, stepsL, maxI, minI]
  decide

theorem probe_one : monitor_Permitted ⟨⟨[], [], []⟩, ⟨[], [], []⟩, ⟨[], [], []⟩, probeMap, ⟨[], []⟩, ⟨[], []⟩, ⟨[], []⟩, ⟨[], []⟩, ⟨0, 0, 0, 0⟩⟩ 100 700 [⟨3, 1, 400, 0⟩] = some (500, 0) := by
  simp [monitor_Permitted, probe_valid, slices_ContainsFunc_sRequest, slices_IndexFunc_sRequest, slices_IndexFunc_sRequest_b1, monitor_Permitted_1, arbiter_Valid, arbiter_torque, getI, rangeN_0, rangeN_1, rangeN_2, stepsN, monitor_within, probe_corner, rangeM_steps, stepsL, monitor_Permitted_b1, monitor_Permitted_b2, monitor_raises, maxI, minI]
  decide

theorem awake_true : magnetolaw39_awake = some true := by
  have h1 := probe_none
  have h2 := probe_one
  unfold probeMap at h1 h2
  simp [magnetolaw39_awake, magnetolaw39_tables, h1, h2, monitor_Steps]
end Go.Pv
set_option linter.unusedSimpArgs false
namespace Go.Pv
open Go

def elB (n : Int) : Bool := decide (n ≥ -1073741824) && decide (n ≤ 1073741824)
theorem element_eq (n : Int) : surface_element n = some (elB n) := rfl
theorem far_eq (n : Int) : magnetoref06_far n = some (!elB n) := by
  unfold magnetoref06_far elB
  rw [Option.some.injEq, Bool.eq_iff_iff]
  simp only [Bool.or_eq_true, Bool.not_eq_true', Bool.and_eq_false_iff, decide_eq_true_eq, decide_eq_false_iff_not]
  omega

def axP (l : List Int) (i : Nat) : Bool := match l[i]? with
  | none => false
  | some x => elB x && (i == 0 || (match l[i - 1]? with | none => false | some y => decide (y < x)))
def axB (l : List Int) : Bool := !(decide ((l.length : Int) < 2) || decide ((l.length : Int) > 32)) && (List.range' 0 l.length).all (axP l)

theorem w64_pred (k : Nat) (h : k < 1000000) : w64 (((k + 1 : Nat) : Int) - 1) = (k : Int) := by rw [w64_of (by omega) (by omega)]; omega
theorem w64_succ (k : Nat) (h : k < 9000000000000000000) : w64 ((k : Int) + 1) = ((k + 1 : Nat) : Int) := by rw [w64_of (by omega) (by omega)]; omega

theorem obs {α : Type} (o : Option α) : (o.bind fun b => some b) = o := by cases o <;> rfl

theorem axis_step (l : List Int) (j : Nat) (hj : j < l.length) (hl : l.length ≤ 32) :
    (Option.bind (getI l j) fun x => Option.bind (surface_element x) fun v => Option.bind (bif (!v) then (some true) else (Option.bind (bif (decide ((j : Int) > 0)) then (Option.bind (getI l (w64 (j - 1))) fun x2 => some (decide (x ≤ x2))) else (some false)) fun b2 => some b2)) fun b3 => some b3) = some (!axP l j) := by
  rw [getI_nat, List.getElem?_eq_getElem hj]
  simp only [Option.bind_some, element_eq]
  unfold axP
  rw [List.getElem?_eq_getElem hj]
  simp only
  cases elB l[j]
  · rfl
  · simp only [Bool.not_true, cond_false, Bool.true_and]
    cases j with
    | zero => rfl
    | succ k =>
      have e : decide (((k + 1 : Nat) : Int) > 0) = true := by rw [decide_eq_true_eq]; omega
      have hk : k < l.length := by omega
      rw [e, w64_pred k (by omega), getI_nat, List.getElem?_eq_getElem hk]
      simp only [cond_true, Option.bind_some, Nat.add_sub_cancel, List.getElem?_eq_getElem hk, Option.some.injEq]
      rw [Bool.eq_iff_iff]
      simp

theorem axis_eq (l : List Int) : surface_axis l = some (axB l) := by
  unfold surface_axis axB
  cases h : (decide ((l.length : Int) < 2) || decide ((l.length : Int) > 32))
  · have hl : l.length ≤ 32 := by simp at h; omega
    have k := stepsN_all (f := surface_axis_b1 l) (p := axP l) (r := false) l.length 0 (fun j _ hj => by
      have s := axis_step l j (by omega) hl
      unfold surface_axis_b1
      rw [getI_nat, List.getElem?_eq_getElem (by omega)] at s ⊢
      simp only [Option.bind_some, element_eq] at s ⊢
      simp only [obs] at s ⊢
      rw [s]
      cases axP l j <;> rfl)
    rw [rangeN_steps _ (by omega)]
    rw [show ((0 : Nat) : Int) = 0 from rfl] at k
    rw [k]
    cases (List.range' 0 l.length).all (axP l) <;> rfl
  · rfl

theorem refAxis_eq (l : List Int) : magnetoref06_Axis l = some (axB l) := by
  unfold magnetoref06_Axis axB
  cases h : (decide ((l.length : Int) < 2) || decide ((l.length : Int) > 32))
  · have hl : l.length ≤ 32 := by simp at h; omega
    have k := loopM_all (mb := magnetoref06_Axis_b1 l) (fun i => (i : Int)) (p := axP l) (b0 := .inl (l.length : Int)) (b1 := .inr false) l.length (by simp [magnetoref06_Axis_b1]) (fun j hj => by
      have s := axis_step l j (by omega) hl
      unfold magnetoref06_Axis_b1
      have e : decide ((j : Int) < (l.length : Int)) = true := by simp; omega
      rw [e]
      rw [getI_nat, List.getElem?_eq_getElem (by omega)] at s ⊢
      simp only [Option.bind_some, element_eq, far_eq, cond_true] at s ⊢
      simp only [obs] at s ⊢
      rw [s, w64_succ j (by omega)]
      cases axP l j <;> rfl)
    rw [show ((0 : Nat) : Int) = 0 from rfl] at k
    rw [k]
    cases (List.range' 0 l.length).all (axP l) <;> rfl
  · rfl

theorem valid1_eq (z : Int) : surface_Valid_1 z = some (!elB z) := rfl
theorem contains_eq (l : List Int) (hn : l.length ≤ 9223372036854775807) : slices_ContainsFunc_sint l surface_Valid_1 = some (l.any fun z => !elB z) :=
  index_any l hn surface_Valid_1 _ (fun y _ => valid1_eq y)

def rowB (m : SMap) (x : List Int) : Bool := !((x.length : Int) != (m.Y.length : Int)) && !(x.any fun z => !elB z)
def mapB (m : SMap) : Bool := axB m.X && axB m.Y && !((m.Z.length : Int) != (m.X.length : Int)) && m.Z.all (rowB m)

theorem axB_len {l : List Int} (h : axB l = true) : 2 ≤ l.length ∧ l.length ≤ 32 := by
  unfold axB at h
  simp at h
  omega

theorem valid_eq (m : SMap) : surface_Valid m = some (mapB m) := by
  unfold surface_Valid mapB
  rw [axis_eq, axis_eq]
  simp only [Option.bind_some]
  cases h1 : axB m.X
  · rfl
  · cases h2 : axB m.Y
    · rfl
    · have l1 := axB_len h1
      have l2 := axB_len h2
      simp only [Bool.not_true, cond_false, Option.bind_some, Bool.false_or, Bool.and_true, Bool.true_and]
      cases h3 : ((m.Z.length : Int) != (m.X.length : Int))
      · have l3 : m.Z.length = m.X.length := by simp at h3; omega
        rw [rangeM_steps _ (by omega), stepsL_all (p := rowB m) (r := false)]
        · simp only [cond_false, Bool.not_false, Bool.true_and, Option.bind_some]
          cases m.Z.all (rowB m) <;> rfl
        · intro i y hy
          unfold surface_Valid_b1 rowB
          cases h4 : ((y.length : Int) != (m.Y.length : Int))
          · have l4 : y.length = m.Y.length := by simp at h4; omega
            rw [contains_eq y (by omega)]
            simp only [cond_false, Option.bind_some, Bool.not_false, Bool.true_and]
            cases (y.any fun z => !elB z) <;> rfl
          · rfl
      · rfl

theorem refValid_eq (m : SMap) : magnetoref06_Valid m = some (mapB m) := by
  unfold magnetoref06_Valid mapB
  rw [refAxis_eq, refAxis_eq]
  simp only [Option.bind_some]
  cases h1 : axB m.X
  · rfl
  · cases h2 : axB m.Y
    · rfl
    · have l1 := axB_len h1
      have l2 := axB_len h2
      simp only [Bool.not_true, cond_false, Option.bind_some, Bool.false_or, Bool.and_true, Bool.true_and]
      cases h3 : ((m.Z.length : Int) != (m.X.length : Int))
      · have l3 : m.Z.length = m.X.length := by simp at h3; omega
        have k := loopM_allL (mb := magnetoref06_Valid_b1 m) (fun i => (i : Int)) (p := rowB m) (b0 := .inl (m.Z.length : Int)) (b1 := .inr false) m.Z (by simp [magnetoref06_Valid_b1]) (fun j y hy => by
          have hj := (List.getElem?_eq_some_iff.1 hy).1
          unfold magnetoref06_Valid_b1 rowB
          have e : decide ((j : Int) < (m.Z.length : Int)) = true := by simp; omega
          rw [e, getI_nat, hy]
          simp only [Option.bind_some, cond_true]
          cases h4 : ((y.length : Int) != (m.Y.length : Int))
          · have l4 : y.length = m.Y.length := by simp at h4; omega
            have k2 := loopM_allL (mb := magnetoref06_Valid_b2 m y) (fun i => (i : Int)) (p := elB) (b0 := .inl (y.length : Int)) (b1 := .inr false) y (by simp [magnetoref06_Valid_b2, l4]) (fun i x hx => by
              have hi := (List.getElem?_eq_some_iff.1 hx).1
              unfold magnetoref06_Valid_b2
              have e : decide ((i : Int) < (m.Y.length : Int)) = true := by simp; omega
              rw [e, getI_nat, hx]
              simp only [Option.bind_some, cond_true, far_eq]
              rw [w64_succ i (by omega)]
              cases elB x <;> rfl)
            rw [show ((0 : Nat) : Int) = 0 from rfl] at k2
            rw [k2, w64_succ j (by omega)]
            have e2 : (y.any fun z => !elB z) = !y.all elB := by rw [List.any_eq_not_all_not]; simp
            rw [e2]
            cases y.all elB <;> rfl
          · rfl)
        rw [show ((0 : Nat) : Int) = 0 from rfl] at k
        rw [k]
        simp only [cond_false, Bool.not_false, Bool.true_and, Option.bind_some]
        cases m.Z.all (rowB m) <;> rfl
      · rfl
end Go.Pv
set_option linter.unusedSimpArgs false
namespace Go.Pv
open Go

theorem around_up (l : List Int) (x : Int) (hl : l.length ≤ 32) : ∀ (k i : Nat) (s : Int), i + k = l.length → 0 ≤ s → s < l.length →
    ∃ u : Int, 0 ≤ u ∧ u < l.length ∧ stepsN (monitor_around_b1 l x) k (i : Int) s = some (.inl u) ∧ loopM (magnetoref39_Around_b1 l x) ((i : Int), s) = some (.inl ((l.length : Int), u)) := by
  intro k
  induction k with
  | zero =>
    intro i s hi h0 h1
    have e : decide ((i : Int) < (l.length : Int)) = false := by rw [decide_eq_false_iff_not]; omega
    have hii : (i : Int) = (l.length : Int) := by omega
    refine ⟨s, h0, h1, rfl, loopM_out ?_⟩
    simp only [magnetoref39_Around_b1, e, cond_false, hii]
    simp
  | succ k ih =>
    intro i s hi h0 h1
    have hil : i < l.length := by omega
    have e : decide ((i : Int) < (l.length : Int)) = true := by rw [decide_eq_true_eq]; omega
    have ew := w64_succ i (by omega)
    by_cases hx : l[i] ≤ x
    · obtain ⟨u, a, b, c, d⟩ := ih (i + 1) (i : Int) (by omega) (by omega) (by omega)
      refine ⟨u, a, b, ?_, ?_⟩
      · simp only [stepsN, monitor_around_b1, getI_nat, List.getElem?_eq_getElem hil, Option.bind_some, hx, decide_true, cond_true]
        push_cast at c
        exact c
      · rw [loopM_next (s' := (((i + 1 : Nat) : Int), (i : Int)))]
        · exact d
        · simp only [magnetoref39_Around_b1, e, cond_true, getI_nat, List.getElem?_eq_getElem hil, Option.bind_some, hx, decide_true, ew]
    · obtain ⟨u, a, b, c, d⟩ := ih (i + 1) s (by omega) h0 h1
      refine ⟨u, a, b, ?_, ?_⟩
      · simp only [stepsN, monitor_around_b1, getI_nat, List.getElem?_eq_getElem hil, Option.bind_some, hx, decide_false, cond_false]
        push_cast at c
        exact c
      · rw [loopM_next (s' := (((i + 1 : Nat) : Int), s))]
        · exact d
        · simp only [magnetoref39_Around_b1, e, cond_true, getI_nat, List.getElem?_eq_getElem hil, Option.bind_some, hx, decide_false, cond_false, ew]

theorem around_down (l : List Int) (x : Int) (hl : l.length ≤ 32) : ∀ (k : Nat) (a : Int), k ≤ l.length → 0 ≤ a → a < l.length →
    ∃ u : Int, 0 ≤ u ∧ u < l.length ∧ loopM (magnetoref39_Around_b2 l x) ((k : Int) - 1, a) = some (.inl (-1, u)) ∧ (k = 0 → u = a) ∧ (0 < k → ∀ y, l[0]? = some y → x ≤ y → u = 0) := by
  intro k
  induction k with
  | zero =>
    intro a _ h0 h1
    refine ⟨a, h0, h1, loopM_out ?_, fun _ => rfl, fun h => absurd h (by omega)⟩
    simp [magnetoref39_Around_b2]
  | succ k ih =>
    intro a hk h0 h1
    have hkl : k < l.length := by omega
    have e0 : ((k + 1 : Nat) : Int) - 1 = (k : Int) := by omega
    have e : decide ((k : Int) ≥ 0) = true := by rw [decide_eq_true_eq]; omega
    have ew : w64 ((k : Int) - 1) = (k : Int) - 1 := w64_of (by omega) (by omega)
    rw [e0]
    by_cases hx : l[k] ≥ x
    · obtain ⟨u, a1, a2, a3, a4, a5⟩ := ih (k : Int) (by omega) (by omega) (by omega)
      refine ⟨u, a1, a2, ?_, fun h => absurd h (by omega), fun _ y hy hxy => ?_⟩
      · rw [loopM_next (s' := ((k : Int) - 1, (k : Int)))]
        · exact a3
        · simp only [magnetoref39_Around_b2, e, cond_true, getI_nat, List.getElem?_eq_getElem hkl, Option.bind_some, hx, decide_true, ew]
      · by_cases hk0 : k = 0
        · rw [a4 hk0, hk0]; rfl
        · exact a5 (by omega) y hy hxy
    · obtain ⟨u, a1, a2, a3, a4, a5⟩ := ih a (by omega) h0 h1
      refine ⟨u, a1, a2, ?_, fun h => absurd h (by omega), fun _ y hy hxy => ?_⟩
      · rw [loopM_next (s' := ((k : Int) - 1, a))]
        · exact a3
        · simp only [magnetoref39_Around_b2, e, cond_true, getI_nat, List.getElem?_eq_getElem hkl, Option.bind_some, hx, decide_false, cond_false, ew]
      · by_cases hk0 : k = 0
        · subst hk0
          rw [List.getElem?_eq_getElem hkl, Option.some.injEq] at hy
          omega
        · exact a5 (by omega) y hy hxy

theorem around_eq (l : List Int) (x : Int) (h2 : 2 ≤ l.length) (hl : l.length ≤ 32) : ∃ p : Int × Int, 0 ≤ p.1 ∧ p.1 < l.length ∧ 0 ≤ p.2 ∧ p.2 < l.length ∧ monitor_around l x = some p ∧ magnetoref39_Around l x = some p := by
  obtain ⟨u, a1, a2, a3, a4⟩ := around_up l x hl l.length 0 0 (by omega) (by omega) (by omega)
  obtain ⟨v, b1, b2, b3, _, b5⟩ := around_down l x hl l.length ((l.length : Int) - 1) (Nat.le_refl _) (by omega) (by omega)
  have ew : w64 ((l.length : Int) - 1) = (l.length : Int) - 1 := w64_of (by omega) (by omega)
  have h0 : 0 < l.length := by omega
  refine ⟨(u, v), a1, a2, b1, b2, ?_, ?_⟩
  · unfold monitor_around
    rw [rangeN_steps _ (by omega)]
    rw [show ((0 : Nat) : Int) = 0 from rfl] at a3
    rw [a3]
    simp only [Option.bind_some, ew]
    have b3' : loopM (monitor_around_b2 l x) ((l.length : Int) - 1, (l.length : Int) - 1) = some (.inl (-1, v)) := b3
    rw [b3']
    simp only [Option.bind_some]
    rw [show (0 : Int) = ((0 : Nat) : Int) from rfl, getI_nat, List.getElem?_eq_getElem h0]
    simp only [Option.bind_some]
    by_cases hx : x < l[0]
    · have := b5 (by omega) l[0] (List.getElem?_eq_getElem h0) (by omega)
      subst this
      simp [hx]
    · simp [hx]
  · unfold magnetoref39_Around
    rw [show ((0 : Nat) : Int) = 0 from rfl] at a4
    rw [a4]
    simp only [Option.bind_some, ew]
    rw [b3]
    rfl

theorem getI_lt {α : Type} (l : List α) (i : Int) (h0 : 0 ≤ i) (h1 : i < l.length) : ∃ y, y ∈ l ∧ getI l i = some y := by
  have h : i.toNat < l.length := by omega
  exact ⟨l[i.toNat], List.getElem_mem h, by unfold getI; rw [if_pos h0, List.getElem?_eq_getElem h]⟩

theorem maxI_gt (a b : Int) : (bif decide (b > a) then some b else some a) = some (maxI a b) := by
  unfold maxI
  by_cases h : b > a
  · have : a < b := h
    simp [h]
    try omega
  · have : ¬ a < b := h
    simp [h]
    try omega

theorem corner_eq (m : SMap) (x y : Int) (h : mapB m = true) : ∃ c, monitor_corner m x y = some c ∧ magnetoref39_Corner m x y = some c := by
  unfold mapB at h
  simp only [Bool.and_eq_true, Bool.not_eq_true', List.all_eq_true] at h
  obtain ⟨⟨⟨hx, hy⟩, hz⟩, hr⟩ := h
  have lx := axB_len hx
  have ly := axB_len hy
  have lz : m.Z.length = m.X.length := by simp at hz; omega
  obtain ⟨p, p1, p2, p3, p4, p5, p6⟩ := around_eq m.X x lx.1 lx.2
  obtain ⟨q, q1, q2, q3, q4, q5, q6⟩ := around_eq m.Y y ly.1 ly.2
  obtain ⟨r1, rm1, re1⟩ := getI_lt m.Z p.1 p1 (by omega)
  obtain ⟨r2, rm2, re2⟩ := getI_lt m.Z p.2 p3 (by omega)
  have len : ∀ r ∈ m.Z, r.length = m.Y.length := by
    intro r hrm
    have := hr r hrm
    unfold rowB at this
    simp at this
    omega
  obtain ⟨z1, _, e1⟩ := getI_lt r1 q.1 q1 (by rw [len r1 rm1]; exact q2)
  obtain ⟨z2, _, e2⟩ := getI_lt r1 q.2 q3 (by rw [len r1 rm1]; exact q4)
  obtain ⟨z3, _, e3⟩ := getI_lt r2 q.1 q1 (by rw [len r2 rm2]; exact q2)
  obtain ⟨z4, _, e4⟩ := getI_lt r2 q.2 q3 (by rw [len r2 rm2]; exact q4)
  refine ⟨maxI (maxI (maxI z1 z2) z3) z4, ?_, ?_⟩
  · simp only [monitor_corner, p5, q5, Option.bind_some, re1, re2, e1, e2, e3, e4]
  · simp only [magnetoref39_Corner, p6, q6, Option.bind_some, re1, re2, e1, e2, e3, e4, maxI_gt]
end Go.Pv
set_option linter.unusedSimpArgs false
namespace Go.Pv
open Go

def reqB (r : SRequest) : Bool := ((!(((decide (r.Source < 0)) || (decide (r.Source > 15))) || (decide (r.Priority < 0)) || (decide (r.Priority > 15)))) && ((decide (r.Torque ≥ (-5000))) && (decide (r.Torque ≤ 10000)))) && ((r.Kind == 1) || (decide (r.Source ≤ 1) && ((r.Kind == 2) || (r.Kind == 3))))

theorem req_mon (r : SRequest) : arbiter_Valid r = some (reqB r) := by
  unfold arbiter_Valid arbiter_torque reqB
  generalize decide (r.Source < 0) = a, decide (r.Source > 15) = b, decide (r.Priority < 0) = c, decide (r.Priority > 15) = d, decide (r.Torque ≥ (-5000)) = e, decide (r.Torque ≤ 10000) = f, (r.Kind == 1) = h, decide (r.Source ≤ 1) = i, (r.Kind == 2) = j, (r.Kind == 3) = k
  generalize (((a || b) || c) || d) = A, (j || k) = B
  cases A <;> cases e <;> cases f <;> cases h <;> cases i <;> cases B <;> rfl

theorem req_ref (r : SRequest) : magnetoref36_Valid r = some (reqB r) := by
  have hk : ((decide (r.Kind < 1)) || (decide (r.Kind > 3))) = !((r.Kind == 1) || ((r.Kind == 2) || (r.Kind == 3))) := by
    rw [Bool.eq_iff_iff]; simp; omega
  have h : magnetoref36_Valid r = some (!(((((decide (r.Source < 0)) || (decide (r.Source > 15))) || (decide (r.Priority < 0))) || (decide (r.Priority > 15))) || !((decide (r.Torque ≥ (-5000))) && (decide (r.Torque ≤ 10000))) || ((decide (r.Kind < 1)) || (decide (r.Kind > 3)))) && ((decide (r.Source ≤ 1)) || (r.Kind == 1))) := by
    unfold magnetoref36_Valid magnetoref36_Torque
    generalize decide (r.Source < 0) = a, decide (r.Source > 15) = b, decide (r.Priority < 0) = c, decide (r.Priority > 15) = d, decide (r.Torque ≥ (-5000)) = e, decide (r.Torque ≤ 10000) = f, decide (r.Kind < 1) = j, decide (r.Kind > 3) = k
    generalize (((a || b) || c) || d) = A, ((decide (r.Source ≤ 1)) || (r.Kind == 1)) = B
    cases A <;> cases e <;> cases f <;> cases j <;> cases k <;> cases B <;> rfl
  rw [h, hk]
  unfold reqB
  have h12 : (r.Kind == 1) = true → (r.Kind == 2) = false := by simp; omega
  generalize decide (r.Source < 0) = a, decide (r.Source > 15) = b, decide (r.Priority < 0) = c, decide (r.Priority > 15) = d, decide (r.Torque ≥ (-5000)) = e, decide (r.Torque ≤ 10000) = f, (r.Kind == 1) = h, decide (r.Source ≤ 1) = i, (r.Kind == 2) = j, (r.Kind == 3) = k
  generalize (((a || b) || c) || d) = A, (j || k) = B
  cases A <;> cases e <;> cases f <;> cases h <;> cases i <;> cases B <;> rfl

theorem requests_eq (l : List SRequest) (hl : l.length ≤ 40) : magnetoref39_Requests l = some (l.all reqB) := by
  unfold magnetoref39_Requests
  have k := loopM_allL (mb := magnetoref39_Requests_b1 l) (fun i => (i : Int)) (p := reqB) (b0 := .inl (l.length : Int)) (b1 := .inr false) l (by simp [magnetoref39_Requests_b1]) (fun j y hy => by
    have hj := (List.getElem?_eq_some_iff.1 hy).1
    unfold magnetoref39_Requests_b1
    have e : decide ((j : Int) < (l.length : Int)) = true := by simp; omega
    rw [e, getI_nat, hy]
    simp only [Option.bind_some, cond_true, req_ref, w64_succ j (by omega)]
    cases reqB y <;> rfl)
  rw [show ((0 : Nat) : Int) = 0 from rfl] at k
  rw [k]
  cases l.all reqB <;> rfl

theorem badreq_eq (l : List SRequest) (hl : l.length ≤ 40) : slices_ContainsFunc_sRequest l monitor_Permitted_1 = some (!l.all reqB) := by
  have k := index_any l (by omega) monitor_Permitted_1 (fun r => !reqB r) (fun y _ => by simp [monitor_Permitted_1, req_mon])
  have e2 : (l.any fun z => !reqB z) = !l.all reqB := by rw [List.any_eq_not_all_not]; simp
  rw [e2] at k
  exact k

def permG (s : Int × Int) (y : SRequest) : Int × Int :=
  bif !((y.Kind == 2) || (y.Kind == 3)) then s else (bif y.Source == 1 then maxI s.1 (minI y.Torque 1500) else s.1, maxI s.2 y.Priority)
def permH (p : Int) (s : Int) (y : SRequest) : Int := bif (y.Kind == 1) && decide (y.Priority > p) then minI s y.Torque else s
def refG (s : Int × Int) (y : SRequest) : Int × Int :=
  bif !((y.Kind == 2) || (y.Kind == 3)) then s else (bif y.Source == 1 then maxI s.1 y.Torque else s.1, maxI s.2 y.Priority)

theorem perm1 (l : List SRequest) (hl : l.length ≤ 40) (s : Int × Int) : rangeM l monitor_Permitted_b1 s = some (.inl (l.foldl permG s)) := by
  rw [rangeM_steps _ (by omega)]
  refine stepsL_fold l 0 s fun i s y _ => ?_
  unfold monitor_Permitted_b1 monitor_raises permG
  simp only [Option.bind_some]
  cases ((y.Kind == 2) || (y.Kind == 3)) <;> cases (y.Source == 1) <;> rfl

theorem perm2 (l : List SRequest) (hl : l.length ≤ 40) (q : Int × Int) (s : Int) : rangeM l (monitor_Permitted_b2 q) s = some (.inl (l.foldl (permH q.2) s)) := by
  rw [rangeM_steps _ (by omega)]
  refine stepsL_fold l 0 s fun i s y _ => ?_
  unfold monitor_Permitted_b2 permH
  cases ((y.Kind == 1) && decide (y.Priority > q.2)) <;> rfl

theorem gtmax (a b : Int) : (bif decide (b > a) then b else a) = maxI a b := by
  unfold maxI; by_cases h : b > a <;> simp [h]
theorem ltmin (a b : Int) : (bif decide (b < a) then b else a) = minI a b := by
  unfold minI; by_cases h : b < a <;> simp [h]

theorem ref1 (l : List SRequest) (hl : l.length ≤ 40) (s : Int × Int) : loopM (magnetoref39_Permitted_b1 l) (s.1, s.2, 0) = some (.inl ((l.foldl refG s).1, (l.foldl refG s).2, (l.length : Int))) := by
  have k := loopM_fold (mb := magnetoref39_Permitted_b1 l) (fun i s => (s.1, s.2, (i : Int))) (g := refG) (out := fun s => .inl (s.1, s.2, (l.length : Int))) l s (fun s => by simp [magnetoref39_Permitted_b1]) (fun j s y hy => by
    have hj := (List.getElem?_eq_some_iff.1 hy).1
    unfold magnetoref39_Permitted_b1 magnetoref39_Raises refG
    have e : decide ((j : Int) < (l.length : Int)) = true := by simp; omega
    simp only [e, getI_nat, hy, Option.bind_some, cond_true, w64_succ j (by omega), maxI_gt]
    rw [← gtmax s.1 y.Torque]
    cases ((y.Kind == 2) || (y.Kind == 3)) <;> cases (y.Source == 1) <;> cases decide (y.Torque > s.1) <;> rfl)
  exact k

theorem ref2 (l : List SRequest) (hl : l.length ≤ 40) (q : Int × Int × Int) (s : Int) : loopM (magnetoref39_Permitted_b2 l q) (s, 0) = some (.inl (l.foldl (permH q.2.1) s, (l.length : Int))) := by
  have k := loopM_fold (mb := magnetoref39_Permitted_b2 l q) (fun i s => (s, (i : Int))) (g := permH q.2.1) (out := fun s => .inl (s, (l.length : Int))) l s (fun s => by simp [magnetoref39_Permitted_b2]) (fun j s y hy => by
    have hj := (List.getElem?_eq_some_iff.1 hy).1
    unfold magnetoref39_Permitted_b2 permH
    have e : decide ((j : Int) < (l.length : Int)) = true := by simp; omega
    simp only [e, getI_nat, hy, Option.bind_some, cond_true, w64_succ j (by omega)]
    rw [← ltmin s y.Torque]
    cases (y.Kind == 1) <;> cases decide (y.Priority > q.2.1) <;> cases decide (y.Torque < s) <;> rfl)
  exact k

theorem fold_rel {α β γ : Type} (R : β → γ → Prop) (g : β → α → β) (g' : γ → α → γ) (h : ∀ s s' y, R s s' → R (g s y) (g' s' y)) : ∀ (l : List α) (s : β) (s' : γ), R s s' → R (l.foldl g s) (l.foldl g' s')
  | [], _, _, r => r
  | y :: l, s, s', r => fold_rel R g g' h l _ _ (h s s' y r)

theorem folds1 (l : List SRequest) : (l.foldl permG (-5000, -1)).1 = minI (l.foldl refG (-5000, -1)).1 1500 ∧ (l.foldl permG (-5000, -1)).2 = (l.foldl refG (-5000, -1)).2 := by
  refine fold_rel (fun s s' => s.1 = minI s'.1 1500 ∧ s.2 = s'.2) permG refG ?_ l (-5000, -1) (-5000, -1) ⟨by decide, rfl⟩
  rintro ⟨a, b⟩ ⟨c, d⟩ y ⟨h1, h2⟩
  simp only at h1 h2
  subst h1 h2
  unfold permG refG
  cases ((y.Kind == 2) || (y.Kind == 3)) <;> cases (y.Source == 1) <;> simp only [Bool.not_true, Bool.not_false, cond_true, cond_false, and_self]
  refine ⟨?_, trivial⟩
  unfold minI maxI
  split <;> split <;> split <;> (try split) <;> (try split) <;> omega

theorem folds2 (l : List SRequest) (p most : Int) (h : most ≤ 10000) : l.foldl (permH p) most = minI most (l.foldl (permH p) 10000) := by
  refine (fold_rel (fun s s' => s' = minI most s) (permH p) (permH p) ?_ l 10000 most (by unfold minI; split <;> omega))
  rintro a b y rfl
  unfold permH
  cases ((y.Kind == 1) && decide (y.Priority > p)) <;> simp only [cond_true, cond_false]
  unfold minI
  repeat' split
  all_goals omega

theorem limit_eq (v lo hi : Int) (h : lo ≤ hi) : magnetoref39_limit v lo hi = some (minI (maxI v lo) hi) := by
  unfold magnetoref39_limit minI maxI
  by_cases h1 : v < lo
  · have : ¬ hi < lo := by omega
    simp [h1, this]
  · by_cases h2 : v > hi
    · simp [h1, h2]
    · have : ¬ hi < v := by omega
      simp [h1, h2, this]

theorem ltminS (a b : Int) : (bif decide (a > b) then some b else some a) = some (minI a b) := by
  unfold minI; by_cases h : b < a <;> simp [h]

theorem plain_MonitorPermits (x0 : STables) (x1 : Int) (x2 : Int) (x3 : List SRequest) (_ : wf_STables x0) (_ : (fun n => (Lit.int .i64 n).wf = true) x1) (_ : (fun n => (Lit.int .i64 n).wf = true) x2) (_ : (wfL wf_SRequest) x3) : magnetolaw39_MonitorPermits x0 x1 x2 x3 = some true := by
  unfold magnetolaw39_MonitorPermits
  rw [awake_true]
  simp only [Option.bind_some, Bool.not_true, cond_false]
  cases h40 : decide ((x3.length : Int) > 40)
  · have hl : x3.length ≤ 40 := by simp at h40; omega
    unfold monitor_Permitted magnetoref39_Map
    rw [valid_eq, refValid_eq]
    simp only [Option.bind_some, cond_false]
    rw [badreq_eq x3 hl, requests_eq x3 hl]
    cases hm : mapB x0.Wish
    · rfl
    · simp only [Bool.not_true, cond_false, Option.bind_some]
      cases hq : x3.all reqB
      · rfl
      · simp only [Bool.not_true, cond_false]
        cases h32 : decide ((x3.length : Int) > 32)
        · simp only [cond_false]
          unfold monitor_within magnetoref39_In
          simp only [Option.bind_some, bif_some]
          generalize (bif !(decide (x1 ≥ 0) && decide (x1 ≤ 1000)) then true else !(decide (x2 ≥ 0) && decide (x2 ≤ 12000))) = out
          cases out
          · simp only [cond_false]
            obtain ⟨c, c1, c2⟩ := corner_eq x0.Wish x2 x1 hm
            unfold magnetoref39_Permitted
            rw [c1, c2]
            simp only [Option.bind_some]
            rw [perm1 x3 hl]
            simp only [Option.bind_some]
            rw [perm2 x3 hl]
            simp only [Option.bind_some]
            have r1 := ref1 x3 hl (-5000, -1)
            simp only at r1
            rw [r1]
            simp only [Option.bind_some]
            have f1 := folds1 x3
            generalize x3.foldl permG (-5000, -1) = s at f1 ⊢
            generalize x3.foldl refG (-5000, -1) = q at f1 ⊢
            obtain ⟨a, b⟩ := s
            obtain ⟨i, j⟩ := q
            obtain ⟨f1, f2⟩ := f1
            simp only at f1 f2
            subst f2
            rw [limit_eq c (-5000) 10000 (by decide)]
            simp only [Option.bind_some, ltminS]
            rw [← f1]
            have ha : a ≤ 1500 := by rw [f1]; unfold minI; split <;> omega
            simp only [maxI_gt, Option.bind_some]
            rw [ref2 x3 hl]
            simp only [Option.bind_some]
            have hV : minI (maxI c (-5000)) 10000 ≤ 10000 := by unfold minI; split <;> omega
            generalize minI (maxI c (-5000)) 10000 = V at hV ⊢
            have hM : maxI V a ≤ 10000 := by unfold maxI; split <;> omega
            rw [folds2 x3 b (maxI V a) hM, limit_eq _ 0 10000 (by decide)]
            simp only [Option.bind_some]
            generalize x3.foldl (permH b) 10000 = lim
            generalize maxI V a = M at hM ⊢
            have e : maxI 0 (minI lim M) = minI (maxI (minI M lim) 0) 10000 := by
              unfold minI maxI
              repeat' split
              all_goals omega
            rw [e]
            simp
          · rfl
        · rfl
  · rfl
end Go.Pv
set_option linter.unusedSimpArgs false
namespace Go.Pv
open Go

/-- What is permitted, where all arguments are in order: c is the map's, the same for all requests. -/
theorem permitted_eq (t : STables) (x1 x2 : Int) (hm : mapB t.Wish = true) (ho : (bif !(decide (x1 ≥ 0) && decide (x1 ≤ 1000)) then true else !(decide (x2 ≥ 0) && decide (x2 ≤ 12000))) = false) (c : Int) (c1 : monitor_corner t.Wish x2 x1 = some c) :
    ∀ l : List SRequest, l.all reqB = true → l.length ≤ 32 →
      monitor_Permitted t x1 x2 l = some (w64 (maxI 0 (minI (l.foldl (permH (l.foldl permG (-5000, -1)).2) 10000) (maxI (minI (maxI c (-5000)) 10000) (l.foldl permG (-5000, -1)).1)) + 100), 0) := by
  intro l hq hl
  unfold monitor_Permitted
  rw [valid_eq]
  simp only [Option.bind_some]
  rw [badreq_eq l (by omega), hm, hq]
  simp only [Bool.not_true, cond_false, Option.bind_some]
  have h32 : decide ((l.length : Int) > 32) = false := by simp; omega
  rw [h32]
  simp only [cond_false]
  unfold monitor_within
  simp only [Option.bind_some, bif_some]
  rw [ho]
  simp only [cond_false, c1, Option.bind_some]
  rw [perm1 l (by omega)]
  simp only [Option.bind_some]
  rw [perm2 l (by omega)]
  rfl

theorem permitted_ok (t : STables) (x1 x2 : Int) (hm : mapB t.Wish = true) (ho : (bif !(decide (x1 ≥ 0) && decide (x1 ≤ 1000)) then true else !(decide (x2 ≥ 0) && decide (x2 ≤ 12000))) = false) :
    ∃ c : Int, ∀ l : List SRequest, l.all reqB = true → l.length ≤ 32 →
      monitor_Permitted t x1 x2 l = some (w64 (maxI 0 (minI (l.foldl (permH (l.foldl permG (-5000, -1)).2) 10000) (maxI (minI (maxI c (-5000)) 10000) (l.foldl permG (-5000, -1)).1)) + 100), 0) := by
  obtain ⟨c, c1, c2⟩ := corner_eq t.Wish x2 x1 hm
  exact ⟨c, permitted_eq t x1 x2 hm ho c c1⟩

theorem permitted_bad (t : STables) (x1 x2 : Int) (l : List SRequest) (hl : l.length ≤ 32) (h : (mapB t.Wish = true ∧ l.all reqB = true ∧ (bif !(decide (x1 ≥ 0) && decide (x1 ≤ 1000)) then true else !(decide (x2 ≥ 0) && decide (x2 ≤ 12000))) = false) → False) :
    monitor_Permitted t x1 x2 l = some (0, bif mapB t.Wish && l.all reqB then 2 else 1) := by
  unfold monitor_Permitted
  rw [valid_eq]
  simp only [Option.bind_some]
  rw [badreq_eq l (by omega)]
  cases hm : mapB t.Wish
  · rfl
  · simp only [Bool.not_true, cond_false, Option.bind_some]
    cases hq : l.all reqB
    · rfl
    · have h32 : decide ((l.length : Int) > 32) = false := by simp; omega
      simp only [Bool.not_true, cond_false, h32]
      unfold monitor_within
      simp only [Option.bind_some, bif_some]
      cases ho : (bif !(decide (x1 ≥ 0) && decide (x1 ≤ 1000)) then true else !(decide (x2 ≥ 0) && decide (x2 ≤ 12000)))
      · exact (h ⟨hm, hq, ho⟩).elim
      · rfl

theorem permG_prio : ∀ (l : List SRequest) (s : Int × Int), s.2 ≤ 14 → (∀ r ∈ l, r.Priority ≤ 14) → (l.foldl permG s).2 ≤ 14
  | [], s, hs, _ => hs
  | y :: l, s, hs, h => by
    refine permG_prio l _ ?_ (fun r hr => h r (List.mem_cons_of_mem _ hr))
    have hy := h y (List.mem_cons_self ..)
    unfold permG maxI
    cases ((y.Kind == 2) || (y.Kind == 3)) <;> simp only [Bool.not_true, Bool.not_false, cond_true, cond_false]
    · exact hs
    · split <;> omega

theorem plain_MonitorLimits (x0 : STables) (x1 : Int) (x2 : Int) (x3 : List SRequest) (x4 : Int) (_ : wf_STables x0) (_ : (fun n => (Lit.int .i64 n).wf = true) x1) (_ : (fun n => (Lit.int .i64 n).wf = true) x2) (g3 : (wfL wf_SRequest) x3) (_ : (fun n => (Lit.int .i64 n).wf = true) x4) : magnetolaw39_MonitorLimits x0 x1 x2 x3 x4 = some true := by
  unfold magnetolaw39_MonitorLimits
  rw [awake_true]
  simp only [Option.bind_some, Bool.not_true, cond_false]
  cases h0 : (((decide ((x3.length : Int) > 31)) || (decide (x4 < (-5000)))) || (decide (x4 > 10000)))
  · simp only [cond_false]
    simp only [Bool.or_eq_false_iff, decide_eq_false_iff_not] at h0
    obtain ⟨⟨h31, hlo⟩, hhi⟩ := h0
    have hl : x3.length ≤ 31 := by omega
    have hc : slices_ContainsFunc_sRequest x3 magnetolaw39_MonitorLimits_1 = some (x3.any fun r => decide (r.Priority > 14)) := index_any x3 (by omega) magnetolaw39_MonitorLimits_1 _ (fun y _ => rfl)
    rw [hc]
    simp only [Option.bind_some]
    cases h14 : x3.any fun r => decide (r.Priority > 14)
    · simp only [cond_false]
      have hp : ∀ r ∈ x3, r.Priority ≤ 14 := fun r hr => by
        have := List.any_eq_false.1 h14 r hr
        simp at this; omega
      have ha : slices_Clone_sRequest x3 = some x3 := by
        unfold slices_Clone_sRequest appendM
        simp; omega
      have hb : appendM x3 [(⟨9, 1, x4, 15⟩ : SRequest)] = some (x3 ++ [⟨9, 1, x4, 15⟩]) := by
        unfold appendM; simp; omega
      have hr : reqB (⟨9, 1, x4, 15⟩ : SRequest) = true := by unfold reqB; simp; omega
      have hq2 : (x3 ++ [(⟨9, 1, x4, 15⟩ : SRequest)]).all reqB = x3.all reqB := by simp [hr]
      rw [ha]
      simp only [Option.bind_some, hb]
      by_cases hgood : mapB x0.Wish = true ∧ x3.all reqB = true ∧ (bif !(decide (x1 ≥ 0) && decide (x1 ≤ 1000)) then true else !(decide (x2 ≥ 0) && decide (x2 ≤ 12000))) = false
      · obtain ⟨c, hc⟩ := permitted_ok x0 x1 x2 hgood.1 hgood.2.2
        rw [hc x3 hgood.2.1 (by omega), hc _ (hq2.trans hgood.2.1) (by simp; omega)]
        simp only [Option.bind_some, List.foldl_append, List.foldl_cons, List.foldl_nil]
        have hG : permG (x3.foldl permG (-5000, -1)) ⟨9, 1, x4, 15⟩ = x3.foldl permG (-5000, -1) := rfl
        rw [hG]
        have hpr := permG_prio x3 (-5000, -1) (by decide) hp
        generalize x3.foldl permG (-5000, -1) = s at hpr ⊢
        have hH : ∀ z : Int, permH s.2 z ⟨9, 1, x4, 15⟩ = minI z x4 := fun z => by
          unfold permH
          have : decide ((15 : Int) > s.2) = true := by simp; omega
          rw [this]; rfl
        rw [hH]
        have hlim : x3.foldl (permH s.2) 10000 ≤ 10000 := by
          have := folds2 x3 s.2 10000 (by omega)
          rw [this]; unfold minI; split <;> omega
        generalize x3.foldl (permH s.2) 10000 = L at hlim ⊢
        have hA : maxI (minI (maxI c (-5000)) 10000) s.1 ≥ -5000 := by unfold maxI minI; repeat' split <;> omega
        generalize maxI (minI (maxI c (-5000)) 10000) s.1 = A at hA ⊢
        have k1 : 0 ≤ maxI 0 (minI L A) ∧ maxI 0 (minI L A) ≤ 10000 := by unfold maxI minI; repeat' split <;> omega
        have k2 : 0 ≤ maxI 0 (minI (minI L x4) A) ∧ maxI 0 (minI (minI L x4) A) ≤ 10000 := by unfold maxI minI; repeat' split <;> omega
        have k3 : 0 ≤ maxI x4 0 ∧ maxI x4 0 ≤ 10000 := by unfold maxI; split <;> omega
        rw [w64_of (n := maxI 0 (minI L A) + 100) (by omega) (by omega), w64_of (n := maxI 0 (minI (minI L x4) A) + 100) (by omega) (by omega), w64_of (n := maxI x4 0 + 100) (by omega) (by omega)]
        have e1 : maxI 0 (minI (minI L x4) A) + 100 ≤ maxI 0 (minI L A) + 100 := by unfold maxI minI; repeat' split <;> omega
        have e2 : maxI 0 (minI (minI L x4) A) + 100 ≤ maxI x4 0 + 100 := by unfold maxI minI; repeat' split <;> omega
        have e3 : maxI 0 (minI (minI L x4) A) + 100 ≥ minI (maxI 0 (minI L A) + 100) (maxI x4 0 + 100) := by unfold maxI minI; repeat' split <;> omega
        simp [e1, e2, e3]
      · rw [permitted_bad x0 x1 x2 x3 (by omega) hgood, permitted_bad x0 x1 x2 _ (by simp; omega) (by rw [hq2]; exact hgood), hq2]
        cases (mapB x0.Wish && x3.all reqB) <;> rfl
    · rfl
  · rfl
end Go.Pv
namespace Go.Pv
open Go.RowKit

theorem stepsN_inv {S R : Type} (f : Int → S → Option (Fl S R)) (I : Nat → S → Prop) : ∀ (k i : Nat) (s : S), I i s → (∀ j, i ≤ j → j < i + k → ∀ s, I j s → ∃ s', f (j : Int) s = some (.next s') ∧ I (j + 1) s') → ∃ s', stepsN f k (i : Int) s = some (.inl s') ∧ I (i + k) s'
  | 0, i, s, h, _ => ⟨s, rfl, h⟩
  | k + 1, i, s, h, st => by
    obtain ⟨s1, h1, h2⟩ := st i (Nat.le_refl _) (by omega) s h
    obtain ⟨s2, h3, h4⟩ := stepsN_inv f I k (i + 1) s1 h2 (fun j a b => st j (by omega) (by omega))
    refine ⟨s2, ?_, by rw [show i + (k + 1) = i + 1 + k by omega]; exact h4⟩
    simp only [stepsN, h1, Option.bind_some]
    exact h3

theorem rangeN_inv {S R : Type} (n : Nat) (hn : n ≤ 9223372036854775807) (f : Int → S → Option (Fl S R)) (I : Nat → S → Prop) (s : S) (h : I 0 s) (st : ∀ j, j < n → ∀ s, I j s → ∃ s', f (j : Int) s = some (.next s') ∧ I (j + 1) s') : ∃ s', rangeN (n : Int) f s = some (.inl s') ∧ I n s' := by
  obtain ⟨s', h1, h2⟩ := stepsN_inv f I n 0 s h (fun j _ b => st j (by omega))
  refine ⟨s', ?_, by simpa using h2⟩
  rw [rangeN_steps _ hn]
  exact h1

theorem stepsL_inv {α S R : Type} (f : Int → α → S → Option (Fl S R)) (l : List α) (I : Nat → S → Prop) : ∀ (r : List α) (i : Nat) (s : S), l.drop i = r → I i s → (∀ j (hj : j < l.length), i ≤ j → ∀ s, I j s → ∃ s', f (j : Int) l[j] s = some (.next s') ∧ I (j + 1) s') → ∃ s', stepsL f r (i : Int) s = some (.inl s') ∧ I (i + r.length) s'
  | [], i, s, _, h, _ => ⟨s, rfl, h⟩
  | y :: r, i, s, hd, h, st => by
    have hi : i < l.length := by
      have := congrArg List.length hd; simp at this; omega
    have hy : l[i] = y := by
      have h1 : l[i]? = some y := by rw [← List.head?_drop, hd]; rfl
      rw [List.getElem?_eq_getElem hi] at h1; exact Option.some.inj h1
    obtain ⟨s1, h1, h2⟩ := st i hi (Nat.le_refl _) s h
    obtain ⟨s2, h3, h4⟩ := stepsL_inv f l I r (i + 1) s1 (by rw [← List.drop_drop, hd]; rfl) h2 (fun j a b => st j a (by omega))
    refine ⟨s2, ?_, by rw [List.length_cons, show i + (r.length + 1) = i + 1 + r.length by omega]; exact h4⟩
    rw [hy] at h1
    simp only [stepsL, h1, Option.bind_some]
    exact h3

theorem rangeM_inv {α S R : Type} (l : List α) (hn : l.length ≤ 9223372036854775807) (f : Int → α → S → Option (Fl S R)) (I : Nat → S → Prop) (s : S) (h : I 0 s) (st : ∀ j (hj : j < l.length), ∀ s, I j s → ∃ s', f (j : Int) l[j] s = some (.next s') ∧ I (j + 1) s') : ∃ s', rangeM l f s = some (.inl s') ∧ I l.length s' := by
  obtain ⟨s', h1, h2⟩ := stepsL_inv f l I l 0 s rfl h (fun j a _ => st j a)
  refine ⟨s', ?_, by simpa using h2⟩
  rw [rangeM_steps _ hn]
  exact h1

theorem loopM_inv {S B : Type} {mb : S → Option (S ⊕ B)} (I : Nat → S → Prop) (J : B → Prop) : ∀ (n k : Nat) (s : S), I k s → (∀ j, k ≤ j → j < k + n → ∀ s, I j s → ∃ s', mb s = some (.inl s') ∧ I (j + 1) s') → (∀ s, I (k + n) s → ∃ b, mb s = some (.inr b) ∧ J b) → ∃ b, loopM mb s = some b ∧ J b
  | 0, k, s, h, _, e => by
    obtain ⟨b, h1, h2⟩ := e s h
    exact ⟨b, loopM_out h1, h2⟩
  | n + 1, k, s, h, st, e => by
    obtain ⟨s', h1, h2⟩ := st k (Nat.le_refl _) (by omega) s h
    rw [loopM_next h1]
    exact loopM_inv I J n (k + 1) s' h2 (fun j a b => st j (by omega) (by omega)) (by rw [show k + 1 + n = k + (n + 1) by omega]; exact e)

/-- A search in a list with an answer at its first find. -/
theorem stepsL_any {α R : Type} {f : Int → α → Unit → Option (Fl Unit R)} {p : α → Bool} {r : R} (l : List α) (i : Int) (h : ∀ i, ∀ y ∈ l, f i y () = some (bif p y then .ret r else .next ())) :
    stepsL f l i () = some (bif l.any p then .inr r else .inl ()) := by
  induction l generalizing i with
  | nil => rfl
  | cons y l ih =>
    simp only [stepsL, h i y (List.mem_cons_self ..), Option.bind_some, List.any_cons]
    cases hp : p y
    · simpa using ih (i + 1) (fun i y' hy => h i y' (List.mem_cons_of_mem _ hy))
    · rfl

theorem setM_nat {α : Type} (l : List α) (i : Nat) (y : α) (h : i < l.length) : setM l (i : Int) y = some (l.set i y) := by
  unfold setM; rw [if_pos ⟨by omega, by omega⟩]; rfl
theorem getI_get {α : Type} (l : List α) (i : Nat) (h : i < l.length) : getI l (i : Int) = some l[i] := by rw [getI_nat, List.getElem?_eq_getElem h]
theorem makeM_nat {α : Type} (n : Nat) (h : n ≤ 1073741824) (z : α) : makeM (n : Int) z = some (List.replicate n z) := by
  unfold makeM; rw [if_pos ⟨by omega, by omega⟩]; rfl
theorem appendM_ok {α : Type} (l r : List α) (h : l.length + r.length ≤ 1073741824) : appendM l r = some (l ++ r) := by
  unfold appendM; rw [if_pos h]
theorem copyL_same {α : Type} (l r : List α) (h : l.length = r.length) : copyL l r = r := by
  unfold copyL; rw [h, List.take_length, ← h, List.drop_length, List.append_nil]
end Go.Pv

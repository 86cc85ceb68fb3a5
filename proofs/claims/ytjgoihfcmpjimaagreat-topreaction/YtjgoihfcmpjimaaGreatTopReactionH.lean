/- This file joins: Ties, printed by gen.py: each function of the loaded program computes its model. What the arguments are known to be. Printed by law.py. What the arguments of the rows hold. Printed by law.py. Part Xg: loops by invariants, lists. Plain Lean. Part Xk: slices.SortStableFunc, as it computes: that it sorts, and keeps the order of equals. Plain Lean. (The functions are those that gen2.py prints for an instance, with a type in the element's place.) Plain Lean: what arith's quotients are. Plain Lean: what sort.Search finds, whatever the predicate; axes and their segments. Maps: surface.Valid and its reference answer alike. Plain Lean. Plain Lean: axes, and maps that are valid. -/
import Derived.Test.YtjgoihfcmpjimaaGreatTopReactionG
import Derived.Test.YtjgoihfcmpjimaaGreatProg
import Derived.KernelRfl
set_option linter.unusedSimpArgs false
set_option linter.unusedVariables false
namespace Go.Proofs.YtjgoihfcmpjimaaGreat
open Go Go.Pv Go.Proofs
set_option maxRecDepth 100000 in
theorem tie_slices_symMergeCmpFunc_Request (fu : Nat) : ∀ (data : List SRequest) (a : Int) (m2 : Int) (b2 : Int) (n2 : Nat) (cs : List (List Tree)) (cmp : SRequest → SRequest → Option Int) (h2 : ∀ x0 x1, TieF Tryz.prog n2 ([A_SRequest x0, A_SRequest x1] ++ cs.map T.el) (cmp x0 x1) (fun r => .t (tI r))), TieG Tryz.prog 85 [.own 1000000, .t (tI a), .t (tI m2), .t (tI b2), .fz n2 cs] [(1000000, .rs 82 4 data enc_SRequest)] (slices_symMergeCmpFunc_Request fu data a m2 b2 cmp) (fun _ => .tup []) (fun r => [(1000000, .rs 82 4 r enc_SRequest)]) := by
  induction fu with
  | zero => exact fun _ _ _ _ _ _ _ _ => ⟨Tryz.call85, fun _ hr => by have hr2 : (none : Option (List SRequest)) = some _ := hr; cases hr2⟩
  | succ fu ih =>
    rw [show slices_symMergeCmpFunc_Request (fu + 1) = slices_symMergeCmpFunc_Request_s (slices_symMergeCmpFunc_Request fu) from rfl]
    generalize slices_symMergeCmpFunc_Request fu = rc at ih ⊢
    intro data a m2 b2 n2 cs cmp h2
    refine TieG.intro htab 220 [] Tryz.call85 Tryz.func85 rfl rfl rfl (Nat.le_of_ble_eq_true rfl) fun w0 L => ?_
    refine TieS.seq (.seq (.region (.run 4 rfl (.nil ?_))))
    refine TieS.cond rfl ?_ ?_
    · refine TieS.seq (.region (.run 2 rfl (.nil (.seq ?_))))
      refine TieS.region (.run 2 rfl (.nil (.seq (.block ?_))))
      refine TieS.loop (fun t => ⟨[(0, .own 1000000), (1, .t (tI a)), (4, .fz n2 cs), (10, .t (tI t.1)), (11, .t (tI t.2))], [(1000000, .rs 82 4 data enc_SRequest)]⟩) (fun b e σ' => match b with | .inl t => e = .exit 0 ∧ Sub ⟨[(0, .own 1000000), (1, .t (tI a)), (10, .t (tI t.1))], [(1000000, .rs 82 4 data enc_SRequest)]⟩ σ' | .inr t => False) (.of rfl rfl) ?_ ?_
      · intro s
        refine TieS.seq (.seq (.region (.run 3 rfl (.nil ?_))))
        refine TieS.cond rfl ?_ ?_
        · refine TieS.skip (.block (.seq (.region (.run 7 rfl ?_))))
          refine TieO.nil (.seq (TieX.pre fun x hx => TieX.pre fun x2 hx2 => TieX.pre fun v hv => ?_))
          refine TieS.draw 11 [_, _, _, _, _, _, _, _, _, _, _] [(0, .own 1000000), (1, .t (tI a)), (4, .fz n2 cs), (10, .t (tI s.1)), (11, .t (tI s.2)), (12, .t (tI (w64 (bitShr .u64 (IntKind.u64.wrap (w64 (s.1 + s.2))) 1))))] [(1000000, .rs 82 4 data enc_SRequest)] mixed (.of rfl rfl) rfl rfl rfl rfl (.cons (.quiet rfl rfl rfl) (.cons (.quiet rfl rfl rfl) (.cons (.quiet rfl rfl rfl) (.cons (.indexO (sz := 4) hx rfl rfl rfl rfl rfl rfl rfl rfl) (.cons (.loadY hx rfl rfl rfl rfl rfl rfl) (.cons (.quiet rfl rfl rfl) (.cons (.quiet rfl rfl rfl) (.cons (.indexO (sz := 4) hx2 rfl rfl rfl rfl rfl rfl rfl rfl) (.cons (.loadY hx2 rfl rfl rfl rfl rfl rfl) (.cons (.callV (h2 x x2) hv rfl rfl rfl rfl) (.cons (.quiet rfl rfl rfl) (.nil)))))))))))) (.nil (.cond rfl ?_ ?_))
          · exact TieS.region (.run 3 rfl (.nil (.endb (.leaf ⟨rfl, .of rfl rfl⟩))))
          · exact TieS.region (.run 2 rfl (.nil (.endb (.leaf ⟨rfl, .of rfl rfl⟩))))
        · exact TieS.exitOut rfl ⟨(fun h => by cases h), rfl, .of rfl rfl⟩
      rintro (s2 | r) e σ' _ hq
      · obtain ⟨rfl, hs⟩ := hq
        refine TieX.exit rfl (TieX.sub hs ?_)
        refine TieS.seq (.seq (.region (.run 2 rfl (.nil ?_))))
        refine TieS.block (.loop (fun t => ⟨[(0, .own 1000000), (10, .t (tI s2.1)), (13, .t (tI t.1))], [(1000000, .rs 82 4 t.2 enc_SRequest)]⟩) (fun b e σ' => match b with | .inl t => e = .exit 2 ∧ Sub ⟨[], [(1000000, .rs 82 4 t.2 enc_SRequest)]⟩ σ' | .inr t => False) (.of rfl rfl) ?_ ?_)
        · intro s3
          refine TieS.seq (.seq (.region (.run 4 rfl (.nil ?_))))
          refine TieS.cond rfl ?_ ?_
          · refine TieS.skip (.seq (.block (.bind (Q₁ := fun t e σ' => e = .normal ∧ Sub ⟨[(0, .own 1000000), (10, .t (tI s2.1)), (13, .t (tI s3.1))], [(1000000, .rs 82 4 t enc_SRequest)]⟩ σ') ?_ ?_)))
            · refine TieX.pre fun x3 hx3 => TieX.pre fun x4 hx4 => TieX.pre fun l hl => TieS.draws 16 (bm 18 0) (bm 18 65535) ⟨[(0, .own 1000000), (10, .t (tI s2.1)), (13, .t (tI s3.1)), (63, .own 1000000), (65, .t (tI (w64 (s3.1 + 1)))), (74, .agg [.t (tI x4.Source), .t (tI x4.Kind), .t (tI x4.Torque), .t (tI x4.Priority)])], [(1000000, .rs 82 4 l enc_SRequest)]⟩ mixed (fun _ _ _ h => by cases h.1) rfl rfl rfl rfl ?_ ?_
              · refine TieA.have_ (fuel₁ := 4) (l₁ := (bm 18 16383)) (σ₁ := ⟨[(0, .own 1000000), (10, .t (tI s2.1)), (13, .t (tI s3.1)), (61, .own 1000000), (62, .t (tI s3.1)), (63, .own 1000000), (65, .t (tI (w64 (s3.1 + 1)))), (70, .agg [.t (tI x3.Source), .t (tI x3.Kind), .t (tI x3.Torque), .t (tI x3.Priority)]), (74, .agg [.t (tI x4.Source), .t (tI x4.Kind), .t (tI x4.Torque), .t (tI x4.Priority)])], [(1000000, .rs 82 4 s3.2 enc_SRequest)]⟩) ?_ fun A_0 => ?_
                · refine TieA.idx 14 _ hx4 rfl rfl rfl rfl rfl rfl (by kernel_rfl) (by kernel_rfl) (by kernel_rfl) rfl rfl rfl rfl rfl rfl (.all [15] (by kernel_rfl) rfl (AllA.cons (σ₁ := ⟨[(0, .own 1000000), (10, .t (tI s2.1)), (13, .t (tI s3.1)), (63, .own 1000000), (65, .t (tI (w64 (s3.1 + 1)))), (74, .agg [.t (tI x4.Source), .t (tI x4.Kind), .t (tI x4.Torque), .t (tI x4.Priority)])], [(1000000, .rs 82 4 l enc_SRequest)]⟩) _ rfl rfl ?_ ?_ ?_))
                  · refine TieO.withH hl (TieO.storeY x3 [tI x3.Source, tI x3.Kind, tI x3.Torque, tI x3.Priority] hx4 rfl rfl rfl rfl rfl rfl rfl rfl rfl rfl rfl rfl (TieO.ifG ?_))
                    exact TieO.nil (TieS.leaf ⟨rfl, .of rfl rfl⟩)
                  · exact TieA.done (.of rfl rfl)
                  exact AllA.nil
                refine TieA.mv 0 rfl (.inl rfl) rfl (by kernel_rfl) rfl (.mv 1 rfl (.inl rfl) rfl (by kernel_rfl) rfl (.mv 2 rfl (.inl rfl) rfl (by kernel_rfl) rfl (.mv 3 rfl (.inl rfl) rfl (by kernel_rfl) rfl (.bin (V := .t (tI (w64 (s3.1 + 1)))) 4 _ rfl rfl rfl rfl rfl rfl (by kernel_rfl) (by kernel_rfl) (by kernel_rfl) rfl rfl rfl rfl ?_))))
                refine TieA.mv 5 rfl (.inl rfl) rfl (by kernel_rfl) rfl (.mv 6 rfl (.inl rfl) rfl (by kernel_rfl) rfl (.bin (V := .t (tI (w64 (s3.1 + 1)))) 7 _ rfl rfl rfl rfl rfl rfl (by kernel_rfl) (by kernel_rfl) (by kernel_rfl) rfl rfl rfl rfl (.idx 8 _ hx3 rfl rfl rfl rfl rfl rfl (by kernel_rfl) (by kernel_rfl) (by kernel_rfl) rfl rfl rfl rfl rfl rfl (.mv 10 rfl (.inl rfl) rfl (by kernel_rfl) rfl ?_))))
                refine TieA.mv 11 rfl (.inl rfl) rfl (by kernel_rfl) rfl (.idx 12 _ hx4 rfl rfl rfl rfl rfl rfl (by kernel_rfl) (by kernel_rfl) (by kernel_rfl) rfl rfl rfl rfl rfl rfl (.all [9, 13] (by kernel_rfl) rfl (AllA.cons (σ₁ := ⟨[(0, .own 1000000), (10, .t (tI s2.1)), (13, .t (tI s3.1)), (61, .own 1000000), (62, .t (tI s3.1)), (63, .own 1000000), (65, .t (tI (w64 (s3.1 + 1)))), (70, .agg [.t (tI x3.Source), .t (tI x3.Kind), .t (tI x3.Torque), .t (tI x3.Priority)]), (73, .pe 1000000 (Int.toNat s3.1) 4 0)], [(1000000, .rs 82 4 s3.2 enc_SRequest)]⟩) _ rfl rfl ?_ ?_ ?_)))
                · exact TieO.loadY hx3 rfl rfl rfl rfl rfl rfl rfl rfl (.nil (TieS.leaf ⟨rfl, .of rfl rfl⟩))
                · refine TieA.all [13] (by kernel_rfl) rfl (AllA.cons _ rfl rfl ?_ A_0 ?_)
                  · exact TieO.loadY hx4 rfl rfl rfl rfl rfl rfl rfl rfl (.nil (TieS.leaf ⟨rfl, .of rfl rfl⟩))
                  exact AllA.nil
                refine AllA.cons (σ₁ := ⟨[(0, .own 1000000), (10, .t (tI s2.1)), (13, .t (tI s3.1)), (61, .own 1000000), (62, .t (tI s3.1)), (63, .own 1000000), (65, .t (tI (w64 (s3.1 + 1)))), (69, .pe 1000000 (Int.toNat (w64 (s3.1 + 1))) 4 0), (74, .agg [.t (tI x4.Source), .t (tI x4.Kind), .t (tI x4.Torque), .t (tI x4.Priority)])], [(1000000, .rs 82 4 s3.2 enc_SRequest)]⟩) _ rfl rfl ?_ ?_ ?_
                · exact TieO.loadY hx4 rfl rfl rfl rfl rfl rfl rfl rfl (.nil (TieS.leaf ⟨rfl, .of rfl rfl⟩))
                · refine TieA.all [9] (by kernel_rfl) rfl (AllA.cons _ rfl rfl ?_ A_0 ?_)
                  · exact TieO.loadY hx3 rfl rfl rfl rfl rfl rfl rfl rfl (.nil (TieS.leaf ⟨rfl, .of rfl rfl⟩))
                  exact AllA.nil
                exact AllA.nil
              exact TieO.indexO rfl rfl rfl rfl rfl rfl rfl rfl rfl rfl fun x5 hx5 => .storeY x4 [tI x4.Source, tI x4.Kind, tI x4.Torque, tI x4.Priority] hx5 rfl rfl rfl rfl rfl rfl rfl rfl rfl rfl rfl rfl fun l2 hl2 => .nil (.leaf ⟨rfl, .of rfl rfl⟩)
            rintro f2 e σ' _ ⟨rfl, hs⟩
            refine TieX.sub hs (TieS.endb (.region (.run 3 rfl (.nil ?_))))
            exact TieS.leaf ⟨rfl, .of rfl rfl⟩
          · exact TieS.exitOut rfl ⟨(fun h => by cases h), rfl, .of rfl rfl⟩
        rintro (s4 | r) e σ' _ hq
        · obtain ⟨rfl, hs⟩ := hq
          refine TieX.exit rfl (TieX.sub hs ?_)
          exact TieS.ret ⟨.inl rfl, ⟨[(1000000, 1000000)], _, _, rfl, rfl, rfl, rfl, rfl⟩⟩
        · exact hq.elim
      · exact hq.elim
    · refine TieS.skip (.seq (.seq (.region (.run 4 rfl ?_))))
      refine TieO.nil (.cond rfl ?_ ?_)
      · refine TieS.seq (.region (.run 2 rfl (.nil (.seq ?_))))
        refine TieS.region (.run 2 rfl (.nil (.seq (.block ?_))))
        refine TieS.loop (fun t => ⟨[(0, .own 1000000), (2, .t (tI m2)), (4, .fz n2 cs), (14, .t (tI t.1)), (15, .t (tI t.2))], [(1000000, .rs 82 4 data enc_SRequest)]⟩) (fun b e σ' => match b with | .inl t => e = .exit 4 ∧ Sub ⟨[(0, .own 1000000), (2, .t (tI m2)), (14, .t (tI t.1))], [(1000000, .rs 82 4 data enc_SRequest)]⟩ σ' | .inr t => False) (.of rfl rfl) ?_ ?_
        · intro s5
          refine TieS.seq (.seq (.region (.run 3 rfl (.nil ?_))))
          refine TieS.cond rfl ?_ ?_
          · refine TieS.skip (.block (.seq (.region (.run 7 rfl ?_))))
            refine TieO.nil (.seq (TieX.pre fun x6 hx6 => TieX.pre fun x7 hx7 => TieX.pre fun v2 hv2 => ?_))
            refine TieS.draw 12 [_, _, _, _, _, _, _, _, _, _, _, _] [(0, .own 1000000), (2, .t (tI m2)), (4, .fz n2 cs), (14, .t (tI s5.1)), (15, .t (tI s5.2)), (16, .t (tI (w64 (bitShr .u64 (IntKind.u64.wrap (w64 (s5.1 + s5.2))) 1))))] [(1000000, .rs 82 4 data enc_SRequest)] mixed (.of rfl rfl) rfl rfl rfl rfl (.cons (.quiet rfl rfl rfl) (.cons (.quiet rfl rfl rfl) (.cons (.quiet rfl rfl rfl) (.cons (.indexO (sz := 4) hx6 rfl rfl rfl rfl rfl rfl rfl rfl) (.cons (.loadY hx6 rfl rfl rfl rfl rfl rfl) (.cons (.quiet rfl rfl rfl) (.cons (.quiet rfl rfl rfl) (.cons (.indexO (sz := 4) hx7 rfl rfl rfl rfl rfl rfl rfl rfl) (.cons (.loadY hx7 rfl rfl rfl rfl rfl rfl) (.cons (.callV (h2 x6 x7) hv2 rfl rfl rfl rfl) (.cons (.quiet rfl rfl rfl) (.cons (.quiet rfl rfl rfl) (.nil))))))))))))) (.nil (.cond rfl ?_ ?_))
            · exact TieS.region (.run 3 rfl (.nil (.endb (.leaf ⟨rfl, .of rfl rfl⟩))))
            · exact TieS.region (.run 2 rfl (.nil (.endb (.leaf ⟨rfl, .of rfl rfl⟩))))
          · exact TieS.exitOut rfl ⟨(fun h => by cases h), rfl, .of rfl rfl⟩
        rintro (s6 | r) e σ' _ hq
        · obtain ⟨rfl, hs⟩ := hq
          refine TieX.exit rfl (TieX.sub hs ?_)
          refine TieS.seq (.seq (.region (.run 2 rfl (.nil ?_))))
          refine TieS.block (.loop (fun t => ⟨[(0, .own 1000000), (14, .t (tI s6.1)), (17, .t (tI t.1))], [(1000000, .rs 82 4 t.2 enc_SRequest)]⟩) (fun b e σ' => match b with | .inl t => e = .exit 6 ∧ Sub ⟨[], [(1000000, .rs 82 4 t.2 enc_SRequest)]⟩ σ' | .inr t => False) (.of rfl rfl) ?_ ?_)
          · intro s7
            refine TieS.seq (.seq (.region (.run 3 rfl (.nil ?_))))
            refine TieS.cond rfl ?_ ?_
            · refine TieS.skip (.seq (.block (.bind (Q₁ := fun t e σ' => e = .normal ∧ Sub ⟨[(0, .own 1000000), (14, .t (tI s6.1)), (17, .t (tI s7.1))], [(1000000, .rs 82 4 t enc_SRequest)]⟩ σ') ?_ ?_)))
              · refine TieX.pre fun x8 hx8 => TieX.pre fun x9 hx9 => TieX.pre fun l3 hl3 => TieS.draws 16 (bm 18 0) (bm 18 65535) ⟨[(0, .own 1000000), (14, .t (tI s6.1)), (17, .t (tI s7.1)), (115, .own 1000000), (117, .t (tI (w64 (s7.1 - 1)))), (126, .agg [.t (tI x9.Source), .t (tI x9.Kind), .t (tI x9.Torque), .t (tI x9.Priority)])], [(1000000, .rs 82 4 l3 enc_SRequest)]⟩ mixed (fun _ _ _ h => by cases h.1) rfl rfl rfl rfl ?_ ?_
                · refine TieA.have_ (fuel₁ := 4) (l₁ := (bm 18 16383)) (σ₁ := ⟨[(0, .own 1000000), (14, .t (tI s6.1)), (17, .t (tI s7.1)), (113, .own 1000000), (114, .t (tI s7.1)), (115, .own 1000000), (117, .t (tI (w64 (s7.1 - 1)))), (122, .agg [.t (tI x8.Source), .t (tI x8.Kind), .t (tI x8.Torque), .t (tI x8.Priority)]), (126, .agg [.t (tI x9.Source), .t (tI x9.Kind), .t (tI x9.Torque), .t (tI x9.Priority)])], [(1000000, .rs 82 4 s7.2 enc_SRequest)]⟩) ?_ fun A_0 => ?_
                  · refine TieA.idx 14 _ hx9 rfl rfl rfl rfl rfl rfl (by kernel_rfl) (by kernel_rfl) (by kernel_rfl) rfl rfl rfl rfl rfl rfl (.all [15] (by kernel_rfl) rfl (AllA.cons (σ₁ := ⟨[(0, .own 1000000), (14, .t (tI s6.1)), (17, .t (tI s7.1)), (115, .own 1000000), (117, .t (tI (w64 (s7.1 - 1)))), (126, .agg [.t (tI x9.Source), .t (tI x9.Kind), .t (tI x9.Torque), .t (tI x9.Priority)])], [(1000000, .rs 82 4 l3 enc_SRequest)]⟩) _ rfl rfl ?_ ?_ ?_))
                    · refine TieO.withH hl3 (TieO.storeY x8 [tI x8.Source, tI x8.Kind, tI x8.Torque, tI x8.Priority] hx9 rfl rfl rfl rfl rfl rfl rfl rfl rfl rfl rfl rfl (TieO.ifG ?_))
                      exact TieO.nil (TieS.leaf ⟨rfl, .of rfl rfl⟩)
                    · exact TieA.done (.of rfl rfl)
                    exact AllA.nil
                  refine TieA.mv 0 rfl (.inl rfl) rfl (by kernel_rfl) rfl (.mv 1 rfl (.inl rfl) rfl (by kernel_rfl) rfl (.mv 2 rfl (.inl rfl) rfl (by kernel_rfl) rfl (.mv 3 rfl (.inl rfl) rfl (by kernel_rfl) rfl (.bin (V := .t (tI (w64 (s7.1 - 1)))) 4 _ rfl rfl rfl rfl rfl rfl (by kernel_rfl) (by kernel_rfl) (by kernel_rfl) rfl rfl rfl rfl ?_))))
                  refine TieA.mv 5 rfl (.inl rfl) rfl (by kernel_rfl) rfl (.mv 6 rfl (.inl rfl) rfl (by kernel_rfl) rfl (.bin (V := .t (tI (w64 (s7.1 - 1)))) 7 _ rfl rfl rfl rfl rfl rfl (by kernel_rfl) (by kernel_rfl) (by kernel_rfl) rfl rfl rfl rfl (.idx 8 _ hx8 rfl rfl rfl rfl rfl rfl (by kernel_rfl) (by kernel_rfl) (by kernel_rfl) rfl rfl rfl rfl rfl rfl (.mv 10 rfl (.inl rfl) rfl (by kernel_rfl) rfl ?_))))
                  refine TieA.mv 11 rfl (.inl rfl) rfl (by kernel_rfl) rfl (.idx 12 _ hx9 rfl rfl rfl rfl rfl rfl (by kernel_rfl) (by kernel_rfl) (by kernel_rfl) rfl rfl rfl rfl rfl rfl (.all [9, 13] (by kernel_rfl) rfl (AllA.cons (σ₁ := ⟨[(0, .own 1000000), (14, .t (tI s6.1)), (17, .t (tI s7.1)), (113, .own 1000000), (114, .t (tI s7.1)), (115, .own 1000000), (117, .t (tI (w64 (s7.1 - 1)))), (122, .agg [.t (tI x8.Source), .t (tI x8.Kind), .t (tI x8.Torque), .t (tI x8.Priority)]), (125, .pe 1000000 (Int.toNat s7.1) 4 0)], [(1000000, .rs 82 4 s7.2 enc_SRequest)]⟩) _ rfl rfl ?_ ?_ ?_)))
                  · exact TieO.loadY hx8 rfl rfl rfl rfl rfl rfl rfl rfl (.nil (TieS.leaf ⟨rfl, .of rfl rfl⟩))
                  · refine TieA.all [13] (by kernel_rfl) rfl (AllA.cons _ rfl rfl ?_ A_0 ?_)
                    · exact TieO.loadY hx9 rfl rfl rfl rfl rfl rfl rfl rfl (.nil (TieS.leaf ⟨rfl, .of rfl rfl⟩))
                    exact AllA.nil
                  refine AllA.cons (σ₁ := ⟨[(0, .own 1000000), (14, .t (tI s6.1)), (17, .t (tI s7.1)), (113, .own 1000000), (114, .t (tI s7.1)), (115, .own 1000000), (117, .t (tI (w64 (s7.1 - 1)))), (121, .pe 1000000 (Int.toNat (w64 (s7.1 - 1))) 4 0), (126, .agg [.t (tI x9.Source), .t (tI x9.Kind), .t (tI x9.Torque), .t (tI x9.Priority)])], [(1000000, .rs 82 4 s7.2 enc_SRequest)]⟩) _ rfl rfl ?_ ?_ ?_
                  · exact TieO.loadY hx9 rfl rfl rfl rfl rfl rfl rfl rfl (.nil (TieS.leaf ⟨rfl, .of rfl rfl⟩))
                  · refine TieA.all [9] (by kernel_rfl) rfl (AllA.cons _ rfl rfl ?_ A_0 ?_)
                    · exact TieO.loadY hx8 rfl rfl rfl rfl rfl rfl rfl rfl (.nil (TieS.leaf ⟨rfl, .of rfl rfl⟩))
                    exact AllA.nil
                  exact AllA.nil
                exact TieO.indexO rfl rfl rfl rfl rfl rfl rfl rfl rfl rfl fun x10 hx10 => .storeY x9 [tI x9.Source, tI x9.Kind, tI x9.Torque, tI x9.Priority] hx10 rfl rfl rfl rfl rfl rfl rfl rfl rfl rfl rfl rfl fun l4 hl4 => .nil (.leaf ⟨rfl, .of rfl rfl⟩)
              rintro f3 e σ' _ ⟨rfl, hs⟩
              refine TieX.sub hs (TieS.endb (.region (.run 3 rfl (.nil ?_))))
              exact TieS.leaf ⟨rfl, .of rfl rfl⟩
            · exact TieS.exitOut rfl ⟨(fun h => by cases h), rfl, .of rfl rfl⟩
          rintro (s8 | r) e σ' _ hq
          · obtain ⟨rfl, hs⟩ := hq
            refine TieX.exit rfl (TieX.sub hs ?_)
            exact TieS.ret ⟨.inl rfl, ⟨[(1000000, 1000000)], _, _, rfl, rfl, rfl, rfl, rfl⟩⟩
          · exact hq.elim
        · exact hq.elim
      · refine TieS.skip (.seq (.region (.run 7 rfl (.nil ?_))))
        refine TieS.seq (.region (.run 4 rfl (.nil (.seq ?_))))
        refine TieS.region (.run 2 rfl (.nil (.seq (.seq ?_))))
        refine TieS.region (.run 3 rfl (.nil (.bind (Q₁ := fun t e σ' => e = .normal ∧ Sub ⟨[(0, .own 1000000), (1, .t (tI a)), (2, .t (tI m2)), (3, .t (tI b2)), (4, .fz n2 cs), (18, .t (tI (w64 (bitShr .u64 (IntKind.u64.wrap (w64 (a + b2))) 1)))), (19, .t (tI (w64 ((w64 (bitShr .u64 (IntKind.u64.wrap (w64 (a + b2))) 1)) + m2)))), (20, .t (tI t.1)), (21, .t (tI t.2))], [(1000000, .rs 82 4 data enc_SRequest)]⟩ σ') ?_ ?_)))
        · refine TieS.cond rfl ?_ ?_
          · refine TieS.seq (.region (.run 4 rfl (.nil (.region ?_))))
            exact TieO.run 2 rfl (.nil (.leaf ⟨rfl, .of rfl rfl⟩))
          · refine TieS.seq (.region (.run 2 rfl (.nil (.region ?_))))
            exact TieO.run 2 rfl (.nil (.leaf ⟨rfl, .of rfl rfl⟩))
        rintro s9 e σ' _ ⟨rfl, hs⟩
        refine TieX.sub hs (TieS.seq (.region (.run 3 rfl (.nil ?_))))
        refine TieS.seq (.block (.loop (fun t => ⟨[(0, .own 1000000), (1, .t (tI a)), (2, .t (tI m2)), (3, .t (tI b2)), (4, .fz n2 cs), (18, .t (tI (w64 (bitShr .u64 (IntKind.u64.wrap (w64 (a + b2))) 1)))), (19, .t (tI (w64 ((w64 (bitShr .u64 (IntKind.u64.wrap (w64 (a + b2))) 1)) + m2)))), (20, .t (tI t.1)), (21, .t (tI t.2)), (22, .t (tI (w64 ((w64 ((w64 (bitShr .u64 (IntKind.u64.wrap (w64 (a + b2))) 1)) + m2)) - 1))))], [(1000000, .rs 82 4 data enc_SRequest)]⟩) (fun b e σ' => match b with | .inl t => e = .exit 8 ∧ Sub ⟨[(0, .own 1000000), (1, .t (tI a)), (2, .t (tI m2)), (3, .t (tI b2)), (4, .fz n2 cs), (18, .t (tI (w64 (bitShr .u64 (IntKind.u64.wrap (w64 (a + b2))) 1)))), (19, .t (tI (w64 ((w64 (bitShr .u64 (IntKind.u64.wrap (w64 (a + b2))) 1)) + m2)))), (20, .t (tI t.1))], [(1000000, .rs 82 4 data enc_SRequest)]⟩ σ' | .inr t => False) (.of rfl rfl) ?_ ?_))
        · intro s10
          refine TieS.seq (.seq (.region (.run 3 rfl (.nil ?_))))
          refine TieS.cond rfl ?_ ?_
          · refine TieS.skip (.block (.seq (.region (.run 7 rfl ?_))))
            refine TieO.nil (.seq (TieX.pre fun x11 hx11 => TieX.pre fun x12 hx12 => TieX.pre fun v3 hv3 => ?_))
            refine TieS.draw 14 [_, _, _, _, _, _, _, _, _, _, _, _, _, _] [(0, .own 1000000), (1, .t (tI a)), (2, .t (tI m2)), (3, .t (tI b2)), (4, .fz n2 cs), (18, .t (tI (w64 (bitShr .u64 (IntKind.u64.wrap (w64 (a + b2))) 1)))), (19, .t (tI (w64 ((w64 (bitShr .u64 (IntKind.u64.wrap (w64 (a + b2))) 1)) + m2)))), (20, .t (tI s10.1)), (21, .t (tI s10.2)), (22, .t (tI (w64 ((w64 ((w64 (bitShr .u64 (IntKind.u64.wrap (w64 (a + b2))) 1)) + m2)) - 1)))), (23, .t (tI (w64 (bitShr .u64 (IntKind.u64.wrap (w64 (s10.1 + s10.2))) 1))))] [(1000000, .rs 82 4 data enc_SRequest)] mixed (.of rfl rfl) rfl rfl rfl rfl (.cons (.quiet rfl rfl rfl) (.cons (.quiet rfl rfl rfl) (.cons (.quiet rfl rfl rfl) (.cons (.quiet rfl rfl rfl) (.cons (.quiet rfl rfl rfl) (.cons (.indexO (sz := 4) hx11 rfl rfl rfl rfl rfl rfl rfl rfl) (.cons (.loadY hx11 rfl rfl rfl rfl rfl rfl) (.cons (.quiet rfl rfl rfl) (.cons (.quiet rfl rfl rfl) (.cons (.indexO (sz := 4) hx12 rfl rfl rfl rfl rfl rfl rfl rfl) (.cons (.loadY hx12 rfl rfl rfl rfl rfl rfl) (.cons (.callV (h2 x11 x12) hv3 rfl rfl rfl rfl) (.cons (.quiet rfl rfl rfl) (.cons (.quiet rfl rfl rfl) (.nil))))))))))))))) (.nil (.cond rfl ?_ ?_))
            · exact TieS.region (.run 3 rfl (.nil (.endb (.leaf ⟨rfl, .of rfl rfl⟩))))
            · exact TieS.region (.run 2 rfl (.nil (.endb (.leaf ⟨rfl, .of rfl rfl⟩))))
          · exact TieS.exitOut rfl ⟨(fun h => by cases h), rfl, .of rfl rfl⟩
        rintro (s11 | r) e σ' _ hq
        · obtain ⟨rfl, hs⟩ := hq
          refine TieX.exit rfl (TieX.sub hs ?_)
          refine TieS.seq (.region (.run 4 rfl (.nil (.seq ?_))))
          refine TieS.seq (.region (.run 4 rfl (.selAnd (v := decide (m2 < (w64 ((w64 ((w64 (bitShr .u64 (IntKind.u64.wrap (w64 (a + b2))) 1)) + m2)) - s11.1)))) 4 181 (fun b => ⟨[(0, .own 1000000), (1, .t (tI a)), (2, .t (tI m2)), (3, .t (tI b2)), (4, .fz n2 cs), (18, .t (tI (w64 (bitShr .u64 (IntKind.u64.wrap (w64 (a + b2))) 1)))), (20, .t (tI s11.1)), (24, .t (tI (w64 ((w64 ((w64 (bitShr .u64 (IntKind.u64.wrap (w64 (a + b2))) 1)) + m2)) - s11.1)))), (185, .t (tB b))], [(1000000, .rs 82 4 data enc_SRequest)]⟩) rfl ?_ ?_ ?_)))
          · exact TieO.run 4 rfl (.nil (.leaf ⟨rfl, .of rfl rfl⟩))
          · exact TieO.run 4 rfl (.nil (.leaf ⟨rfl, .of rfl rfl⟩))
          refine TieO.nil (.bind (Q₁ := fun t e σ' => e = .normal ∧ Sub ⟨[(0, .own 1000000), (1, .t (tI a)), (3, .t (tI b2)), (4, .fz n2 cs), (18, .t (tI (w64 (bitShr .u64 (IntKind.u64.wrap (w64 (a + b2))) 1)))), (20, .t (tI s11.1)), (24, .t (tI (w64 ((w64 ((w64 (bitShr .u64 (IntKind.u64.wrap (w64 (a + b2))) 1)) + m2)) - s11.1))))], [(1000000, .rs 82 4 t enc_SRequest)]⟩ σ') ?_ ?_)
          · refine TieS.cond rfl ?_ ?_
            · exact TieS.region (.run 5 rfl (.callG [(1000000, 1000000)] [] (fun v4 => ⟨[(0, .own 1000000), (1, .t (tI a)), (2, .t (tI m2)), (3, .t (tI b2)), (4, .fz n2 cs), (18, .t (tI (w64 (bitShr .u64 (IntKind.u64.wrap (w64 (a + b2))) 1)))), (20, .t (tI s11.1)), (24, .t (tI (w64 ((w64 ((w64 (bitShr .u64 (IntKind.u64.wrap (w64 (a + b2))) 1)) + m2)) - s11.1)))), (185, .t (tB ((decide (s11.1 < m2)) && (decide (m2 < (w64 ((w64 ((w64 (bitShr .u64 (IntKind.u64.wrap (w64 (a + b2))) 1)) + m2)) - s11.1))))))), (186, .own 1000000), (187, .t (tI s11.1)), (188, .t (tI m2)), (189, .t (tI (w64 ((w64 ((w64 (bitShr .u64 (IntKind.u64.wrap (w64 (a + b2))) 1)) + m2)) - s11.1)))), (190, .fz n2 cs), (191, .tup [])], [(1000000, .rs 82 4 v4 enc_SRequest)]⟩) (tie_slices_rotateCmpFunc_Request data s11.1 m2 (w64 ((w64 ((w64 (bitShr .u64 (IntKind.u64.wrap (w64 (a + b2))) 1)) + m2)) - s11.1)) n2 cs cmp h2) rfl rfl rfl rfl rfl rfl rfl (fun _ => rfl) (fun _ => rfl) (fun _ => rfl) (fun _ => .of rfl rfl) fun v4 hv4 => .nil (.leaf ⟨rfl, .of rfl rfl⟩)))
            · exact TieS.skip (.leaf ⟨rfl, .of rfl rfl⟩)
          rintro f4 e σ' _ ⟨rfl, hs⟩
          refine TieX.sub hs (TieS.seq (.seq (.region (.run 4 rfl ?_))))
          refine TieO.selAnd (v := decide (s11.1 < (w64 (bitShr .u64 (IntKind.u64.wrap (w64 (a + b2))) 1)))) 4 195 (fun b => ⟨[(0, .own 1000000), (1, .t (tI a)), (3, .t (tI b2)), (4, .fz n2 cs), (18, .t (tI (w64 (bitShr .u64 (IntKind.u64.wrap (w64 (a + b2))) 1)))), (20, .t (tI s11.1)), (24, .t (tI (w64 ((w64 ((w64 (bitShr .u64 (IntKind.u64.wrap (w64 (a + b2))) 1)) + m2)) - s11.1)))), (199, .t (tB b))], [(1000000, .rs 82 4 f4 enc_SRequest)]⟩) rfl ?_ ?_ ?_
          · exact TieO.run 4 rfl (.nil (.leaf ⟨rfl, .of rfl rfl⟩))
          · exact TieO.run 4 rfl (.nil (.leaf ⟨rfl, .of rfl rfl⟩))
          refine TieO.nil (.bind (Q₁ := fun t e σ' => e = .normal ∧ Sub ⟨[(0, .own 1000000), (3, .t (tI b2)), (4, .fz n2 cs), (18, .t (tI (w64 (bitShr .u64 (IntKind.u64.wrap (w64 (a + b2))) 1)))), (24, .t (tI (w64 ((w64 ((w64 (bitShr .u64 (IntKind.u64.wrap (w64 (a + b2))) 1)) + m2)) - s11.1))))], [(1000000, .rs 82 4 t enc_SRequest)]⟩ σ') ?_ ?_)
          · refine TieS.cond rfl ?_ ?_
            · exact TieS.region (.run 5 rfl (.callG [(1000000, 1000000)] [] (fun v5 => ⟨[(0, .own 1000000), (1, .t (tI a)), (3, .t (tI b2)), (4, .fz n2 cs), (18, .t (tI (w64 (bitShr .u64 (IntKind.u64.wrap (w64 (a + b2))) 1)))), (20, .t (tI s11.1)), (24, .t (tI (w64 ((w64 ((w64 (bitShr .u64 (IntKind.u64.wrap (w64 (a + b2))) 1)) + m2)) - s11.1)))), (199, .t (tB ((decide (a < s11.1)) && (decide (s11.1 < (w64 (bitShr .u64 (IntKind.u64.wrap (w64 (a + b2))) 1))))))), (200, .own 1000000), (201, .t (tI a)), (202, .t (tI s11.1)), (203, .t (tI (w64 (bitShr .u64 (IntKind.u64.wrap (w64 (a + b2))) 1)))), (204, .fz n2 cs), (205, .tup [])], [(1000000, .rs 82 4 v5 enc_SRequest)]⟩) (ih f4 a s11.1 (w64 (bitShr .u64 (IntKind.u64.wrap (w64 (a + b2))) 1)) n2 cs cmp h2) rfl rfl rfl rfl rfl rfl rfl (fun _ => rfl) (fun _ => rfl) (fun _ => rfl) (fun _ => .of rfl rfl) fun v5 hv5 => .nil (.leaf ⟨rfl, .of rfl rfl⟩)))
            · exact TieS.skip (.leaf ⟨rfl, .of rfl rfl⟩)
          rintro f5 e σ' _ ⟨rfl, hs⟩
          refine TieX.sub hs (TieS.seq (.region (.run 4 rfl (.selAnd (v := decide ((w64 ((w64 ((w64 (bitShr .u64 (IntKind.u64.wrap (w64 (a + b2))) 1)) + m2)) - s11.1)) < b2)) 4 209 (fun b => ⟨[(0, .own 1000000), (3, .t (tI b2)), (4, .fz n2 cs), (18, .t (tI (w64 (bitShr .u64 (IntKind.u64.wrap (w64 (a + b2))) 1)))), (24, .t (tI (w64 ((w64 ((w64 (bitShr .u64 (IntKind.u64.wrap (w64 (a + b2))) 1)) + m2)) - s11.1)))), (213, .t (tB b))], [(1000000, .rs 82 4 f5 enc_SRequest)]⟩) rfl ?_ ?_ ?_))))
          · exact TieO.run 4 rfl (.nil (.leaf ⟨rfl, .of rfl rfl⟩))
          · exact TieO.run 4 rfl (.nil (.leaf ⟨rfl, .of rfl rfl⟩))
          refine TieO.nil (.cond rfl ?_ ?_)
          · exact TieS.region (.run 5 rfl (.callG [(1000000, 1000000)] [] (fun v6 => ⟨[(0, .own 1000000), (3, .t (tI b2)), (4, .fz n2 cs), (18, .t (tI (w64 (bitShr .u64 (IntKind.u64.wrap (w64 (a + b2))) 1)))), (24, .t (tI (w64 ((w64 ((w64 (bitShr .u64 (IntKind.u64.wrap (w64 (a + b2))) 1)) + m2)) - s11.1)))), (213, .t (tB ((decide ((w64 (bitShr .u64 (IntKind.u64.wrap (w64 (a + b2))) 1)) < (w64 ((w64 ((w64 (bitShr .u64 (IntKind.u64.wrap (w64 (a + b2))) 1)) + m2)) - s11.1)))) && (decide ((w64 ((w64 ((w64 (bitShr .u64 (IntKind.u64.wrap (w64 (a + b2))) 1)) + m2)) - s11.1)) < b2))))), (214, .own 1000000), (215, .t (tI (w64 (bitShr .u64 (IntKind.u64.wrap (w64 (a + b2))) 1)))), (216, .t (tI (w64 ((w64 ((w64 (bitShr .u64 (IntKind.u64.wrap (w64 (a + b2))) 1)) + m2)) - s11.1)))), (217, .t (tI b2)), (218, .fz n2 cs), (219, .tup [])], [(1000000, .rs 82 4 v6 enc_SRequest)]⟩) (ih f5 (w64 (bitShr .u64 (IntKind.u64.wrap (w64 (a + b2))) 1)) (w64 ((w64 ((w64 (bitShr .u64 (IntKind.u64.wrap (w64 (a + b2))) 1)) + m2)) - s11.1)) b2 n2 cs cmp h2) rfl rfl rfl rfl rfl rfl rfl (fun _ => rfl) (fun _ => rfl) (fun _ => rfl) (fun _ => .of rfl rfl) fun v6 hv6 => .nil (.leaf ⟨.inr rfl, ⟨[(1000000, 1000000)], _, _, rfl, rfl, rfl, rfl, rfl⟩⟩)))
          · exact TieS.skip (.leaf ⟨.inr rfl, ⟨[(1000000, 1000000)], _, _, rfl, rfl, rfl, rfl, rfl⟩⟩)
        · exact hq.elim
set_option maxRecDepth 100000 in
theorem tie_slices_stableCmpFunc_Request (data : List SRequest) (n2 : Int) (n3 : Nat) (cs : List (List Tree)) (cmp : SRequest → SRequest → Option Int) (h2 : ∀ x0 x1, TieF Tryz.prog n3 ([A_SRequest x0, A_SRequest x1] ++ cs.map T.el) (cmp x0 x1) (fun r => .t (tI r))) : TieG Tryz.prog 76 [.own 1000000, .t (tI n2), .fz n3 cs] [(1000000, .rs 82 4 data enc_SRequest)] (slices_stableCmpFunc_Request data n2 cmp) (fun _ => .tup []) (fun r => [(1000000, .rs 82 4 r enc_SRequest)]) := by
  refine TieG.intro htab 63 [] Tryz.call76 Tryz.func76 rfl rfl rfl (Nat.le_of_ble_eq_true rfl) fun w0 L => ?_
  refine TieS.seq (.region (.run 1 rfl (.nil (.seq ?_))))
  refine TieS.region (.run 3 rfl (.nil (.seq (.block ?_))))
  refine TieS.loop (fun t => ⟨[(0, .own 1000000), (1, .t (tI n2)), (2, .fz n3 cs), (6, .t (tI 20)), (7, .t (tI t.1)), (8, .t (tI t.2.1))], [(1000000, .rs 82 4 t.2.2 enc_SRequest)]⟩) (fun b e σ' => match b with | .inl t => e = .exit 0 ∧ Sub ⟨[(0, .own 1000000), (1, .t (tI n2)), (2, .fz n3 cs), (6, .t (tI 20)), (7, .t (tI t.1))], [(1000000, .rs 82 4 t.2.2 enc_SRequest)]⟩ σ' | .inr t => False) (.of rfl rfl) ?_ ?_
  · intro s
    refine TieS.seq (.seq (.region (.run 3 rfl (.nil ?_))))
    refine TieS.cond rfl ?_ ?_
    · refine TieS.skip (.block (.seq (.region (.run 4 rfl ?_))))
      refine TieO.callG [(1000000, 1000000)] [] (fun v => ⟨[(0, .own 1000000), (1, .t (tI n2)), (2, .fz n3 cs), (6, .t (tI 20)), (7, .t (tI s.1)), (8, .t (tI s.2.1)), (11, .t (tI s.2.1)), (12, .t (tI n2)), (13, .t (tB (decide (s.2.1 ≤ n2)))), (14, .own 1000000), (15, .t (tI s.1)), (16, .t (tI s.2.1)), (17, .fz n3 cs), (18, .tup [])], [(1000000, .rs 82 4 v enc_SRequest)]⟩) (tie_slices_insertionSortCmpFunc_Request s.2.2 s.1 s.2.1 n3 cs cmp h2) rfl rfl rfl rfl rfl rfl rfl (fun _ => rfl) (fun _ => rfl) (fun _ => rfl) (fun _ => .of rfl rfl) fun v hv => .nil (.seq (.region (.run 2 rfl ?_)))
      refine TieO.nil (.region (.run 4 rfl (.nil (.endb ?_))))
      exact TieS.leaf ⟨rfl, .of rfl rfl⟩
    · exact TieS.exitOut rfl ⟨(fun h => by cases h), rfl, .of rfl rfl⟩
  rintro (s2 | r) e σ' _ hq
  · obtain ⟨rfl, hs⟩ := hq
    refine TieX.exit rfl (TieX.sub hs ?_)
    refine TieS.seq (.region (.run 4 rfl (.callG [(1000000, 1000000)] [] (fun v2 => ⟨[(0, .own 1000000), (1, .t (tI n2)), (2, .fz n3 cs), (6, .t (tI 20)), (7, .t (tI s2.1)), (23, .own 1000000), (24, .t (tI s2.1)), (25, .t (tI n2)), (26, .fz n3 cs), (27, .tup [])], [(1000000, .rs 82 4 v2 enc_SRequest)]⟩) (tie_slices_insertionSortCmpFunc_Request s2.2.2 s2.1 n2 n3 cs cmp h2) rfl rfl rfl rfl rfl rfl rfl (fun _ => rfl) (fun _ => rfl) (fun _ => rfl) (fun _ => .of rfl rfl) fun v2 hv2 => .nil ?_)))
    refine TieS.block (.loop (fun t => ⟨[(0, .own 1000000), (1, .t (tI n2)), (2, .fz n3 cs), (6, .t (tI t.1))], [(1000000, .rs 82 4 t.2 enc_SRequest)]⟩) (fun b e σ' => match b with | .inl t => e = .exit 2 ∧ Sub ⟨[], [(1000000, .rs 82 4 t.2 enc_SRequest)]⟩ σ' | .inr t => False) (.of rfl rfl) ?_ ?_)
    · intro s3
      refine TieS.seq (.seq (.region (.run 3 rfl (.nil ?_))))
      refine TieS.cond rfl ?_ ?_
      · refine TieS.skip (.block (.seq (.region (.run 4 rfl ?_))))
        refine TieO.nil (.seq (.block (.loop (fun t => ⟨[(0, .own 1000000), (1, .t (tI n2)), (2, .fz n3 cs), (6, .t (tI s3.1)), (7, .t (tI t.1)), (8, .t (tI t.2.1))], [(1000000, .rs 82 4 t.2.2 enc_SRequest)]⟩) (fun b e σ' => match b with | .inl t => e = .exit 4 ∧ Sub ⟨[(0, .own 1000000), (1, .t (tI n2)), (2, .fz n3 cs), (6, .t (tI s3.1)), (7, .t (tI t.1))], [(1000000, .rs 82 4 t.2.2 enc_SRequest)]⟩ σ' | .inr t => False) (.of rfl rfl) ?_ ?_)))
        · intro s4
          refine TieS.seq (.seq (.region (.run 3 rfl (.nil ?_))))
          refine TieS.cond rfl ?_ ?_
          · refine TieS.skip (.block (.seq (.region (.run 7 rfl ?_))))
            refine TieO.callG [(1000000, 1000000)] [] (fun v3 => ⟨[(0, .own 1000000), (1, .t (tI n2)), (2, .fz n3 cs), (6, .t (tI s3.1)), (7, .t (tI s4.1)), (8, .t (tI s4.2.1)), (33, .t (tI s4.2.1)), (34, .t (tI n2)), (35, .t (tB (decide (s4.2.1 ≤ n2)))), (36, .own 1000000), (37, .t (tI s4.1)), (38, .t (tI s4.1)), (39, .t (tI s3.1)), (40, .t (tI (w64 (s4.1 + s3.1)))), (41, .t (tI s4.2.1)), (42, .fz n3 cs), (43, .tup [])], [(1000000, .rs 82 4 v3 enc_SRequest)]⟩) (tie_slices_symMergeCmpFunc_Request 64 s4.2.2 s4.1 (w64 (s4.1 + s3.1)) s4.2.1 n3 cs cmp h2) rfl rfl rfl rfl rfl rfl rfl (fun _ => rfl) (fun _ => rfl) (fun _ => rfl) (fun _ => .of rfl rfl) fun v3 hv3 => .nil (.seq (.region (.run 2 rfl ?_)))
            refine TieO.nil (.region (.run 5 rfl (.nil (.endb ?_))))
            exact TieS.leaf ⟨rfl, .of rfl rfl⟩
          · exact TieS.exitOut rfl ⟨(fun h => by cases h), rfl, .of rfl rfl⟩
        rintro (s5 | r) e σ' _ hq
        · obtain ⟨rfl, hs⟩ := hq
          refine TieX.exit rfl (TieX.sub hs ?_)
          refine TieS.seq (.seq (.region (.run 4 rfl (.nil ?_))))
          refine TieS.seq (.region (.run 3 rfl (.nil (.cond rfl ?_ ?_))))
          · refine TieS.region (.run 5 rfl (.callG [(1000000, 1000000)] [] (fun v4 => ⟨[(0, .own 1000000), (1, .t (tI n2)), (2, .fz n3 cs), (6, .t (tI s3.1)), (7, .t (tI s5.1)), (9, .t (tI (w64 (s5.1 + s3.1)))), (49, .t (tI s5.1)), (50, .t (tI s3.1)), (51, .t (tI (w64 (s5.1 + s3.1)))), (52, .t (tI (w64 (s5.1 + s3.1)))), (53, .t (tI n2)), (54, .t (tB (decide ((w64 (s5.1 + s3.1)) < n2)))), (55, .own 1000000), (56, .t (tI s5.1)), (57, .t (tI (w64 (s5.1 + s3.1)))), (58, .t (tI n2)), (59, .fz n3 cs), (60, .tup [])], [(1000000, .rs 82 4 v4 enc_SRequest)]⟩) (tie_slices_symMergeCmpFunc_Request 64 s5.2.2 s5.1 (w64 (s5.1 + s3.1)) n2 n3 cs cmp h2) rfl rfl rfl rfl rfl rfl rfl (fun _ => rfl) (fun _ => rfl) (fun _ => rfl) (fun _ => .of rfl rfl) fun v4 hv4 => .nil (.region ?_)))
            exact TieO.run 3 rfl (.nil (.endb (.leaf ⟨rfl, .of rfl rfl⟩)))
          · refine TieS.skip (.region (.run 3 rfl (.nil (.endb ?_))))
            exact TieS.leaf ⟨rfl, .of rfl rfl⟩
        · exact hq.elim
      · exact TieS.exitOut rfl ⟨(fun h => by cases h), rfl, .of rfl rfl⟩
    rintro (s6 | r) e σ' _ hq
    · obtain ⟨rfl, hs⟩ := hq
      refine TieX.exit rfl (TieX.sub hs ?_)
      exact TieS.leaf ⟨.inr rfl, ⟨[(1000000, 1000000)], _, _, rfl, rfl, rfl, rfl, rfl⟩⟩
    · exact hq.elim
  · exact hq.elim
set_option maxRecDepth 100000 in
theorem tie_slices_SortStableFunc_sRequest (x : List SRequest) (n2 : Nat) (cs : List (List Tree)) (cmp : SRequest → SRequest → Option Int) (h2 : ∀ x0 x1, TieF Tryz.prog n2 ([A_SRequest x0, A_SRequest x1] ++ cs.map T.el) (cmp x0 x1) (fun r => .t (tI r))) : TieG Tryz.prog 66 [.own 1000000, .fz n2 cs] [(1000000, .rs 82 4 x enc_SRequest)] (slices_SortStableFunc_sRequest x cmp) (fun _ => .tup []) (fun r => [(1000000, .rs 82 4 r enc_SRequest)]) := by
  refine TieG.intro htab 9 [] Tryz.call66 Tryz.func66 rfl rfl rfl (Nat.le_of_ble_eq_true rfl) fun w0 L => ?_
  exact TieS.region (.run 4 rfl (.callG [(1000000, 1000000)] [] (fun v => ⟨[(0, .own 1000000), (1, .fz n2 cs), (4, .own 1000000), (5, .own 1000000), (6, .t (tI (x.length : Int))), (7, .fz n2 cs), (8, .tup [])], [(1000000, .rs 82 4 v enc_SRequest)]⟩) (tie_slices_stableCmpFunc_Request x (x.length : Int) n2 cs cmp h2) rfl rfl rfl rfl rfl rfl rfl (fun _ => rfl) (fun _ => rfl) (fun _ => rfl) (fun _ => .of rfl rfl) fun v hv => .nil (.leaf ⟨.inr rfl, ⟨[(1000000, 1000000)], _, _, rfl, rfl, rfl, rfl, rfl⟩⟩)))
set_option maxRecDepth 100000 in
theorem tie_arbiter_decide_1 (a : SRequest) (b2 : SRequest) : TieF Tryz.prog 67 [A_SRequest a, A_SRequest b2] (arbiter_decide_1 a b2) (fun r => .t (tI r)) := by
  refine TieF.intro htab 10 [.tmp 4] Tryz.call67 Tryz.func67 rfl rfl rfl (Nat.le_of_ble_eq_true rfl) fun w0 L => ?_
  refine TieS.seq (.region (.run 3 rfl (.nil (.seq ?_))))
  exact TieS.region (.run 6 rfl (.nil (.ret ⟨.inl rfl, rfl⟩)))
set_option maxRecDepth 100000 in
theorem tie_arbiter_span_atMost (s : Sarbiter_span) (t2 : Int) : TieG Tryz.prog 77 [.ptr 1000000 0, .t (tI t2)] [(1000000, .box [.t (tI s.low), .t (tI s.high), .t (tI s.source)])] (arbiter_span_atMost s t2) (fun _ => .tup []) (fun r => [(1000000, .box [.t (tI r.low), .t (tI r.high), .t (tI r.source)])]) := by
  refine TieG.intro htab 18 [] Tryz.call77 Tryz.func77 rfl rfl rfl (Nat.le_of_ble_eq_true rfl) fun w0 L => ?_
  exact TieS.draw 14 [_, _, _, _, _, _, _, _, _, _, _, _, _, _] [(0, .ptr 1000000 0), (1, .t (tI t2))] [(1000000, .box [.t (tI s.low), .t (tI s.high), .t (tI s.source)])] mixed (.of rfl rfl) rfl rfl rfl rfl (.cons (.quiet rfl rfl rfl) (.cons (.quiet rfl rfl rfl) (.cons (.quiet rfl rfl rfl) (.cons (.quiet rfl rfl rfl) (.cons (.quiet rfl rfl rfl) (.cons (.quiet rfl rfl rfl) (.cons (.quiet rfl rfl rfl) (.cons (.quiet rfl rfl rfl) (.cons (.quiet rfl rfl rfl) (.cons (.quiet rfl rfl rfl) (.cons (.quiet rfl rfl rfl) (.cons (.quiet rfl rfl rfl) (.cons (.quiet rfl rfl rfl) (.cons (.quiet rfl rfl rfl) (.nil))))))))))))))) (.run 1 rfl (.nil (.leaf ⟨.inr rfl, ⟨[(1000000, 1000000)], _, _, rfl, rfl, rfl, rfl, rfl⟩⟩)))
set_option maxRecDepth 100000 in
theorem tie_arbiter_span_atLeast (s : Sarbiter_span) (t2 : Int) : TieG Tryz.prog 78 [.ptr 1000000 0, .t (tI t2)] [(1000000, .box [.t (tI s.low), .t (tI s.high), .t (tI s.source)])] (arbiter_span_atLeast s t2) (fun _ => .tup []) (fun r => [(1000000, .box [.t (tI r.low), .t (tI r.high), .t (tI r.source)])]) := by
  refine TieG.intro htab 18 [] Tryz.call78 Tryz.func78 rfl rfl rfl (Nat.le_of_ble_eq_true rfl) fun w0 L => ?_
  exact TieS.draw 14 [_, _, _, _, _, _, _, _, _, _, _, _, _, _] [(0, .ptr 1000000 0), (1, .t (tI t2))] [(1000000, .box [.t (tI s.low), .t (tI s.high), .t (tI s.source)])] mixed (.of rfl rfl) rfl rfl rfl rfl (.cons (.quiet rfl rfl rfl) (.cons (.quiet rfl rfl rfl) (.cons (.quiet rfl rfl rfl) (.cons (.quiet rfl rfl rfl) (.cons (.quiet rfl rfl rfl) (.cons (.quiet rfl rfl rfl) (.cons (.quiet rfl rfl rfl) (.cons (.quiet rfl rfl rfl) (.cons (.quiet rfl rfl rfl) (.cons (.quiet rfl rfl rfl) (.cons (.quiet rfl rfl rfl) (.cons (.quiet rfl rfl rfl) (.cons (.quiet rfl rfl rfl) (.cons (.quiet rfl rfl rfl) (.nil))))))))))))))) (.run 1 rfl (.nil (.leaf ⟨.inr rfl, ⟨[(1000000, 1000000)], _, _, rfl, rfl, rfl, rfl, rfl⟩⟩)))
set_option maxRecDepth 100000 in
theorem tie_arbiter_span_exactly (s : Sarbiter_span) (t2 : Int) : TieG Tryz.prog 79 [.ptr 1000000 0, .t (tI t2)] [(1000000, .box [.t (tI s.low), .t (tI s.high), .t (tI s.source)])] (arbiter_span_exactly s t2) (fun _ => .tup []) (fun r => [(1000000, .box [.t (tI r.low), .t (tI r.high), .t (tI r.source)])]) := by
  refine TieG.intro htab 22 [] Tryz.call79 Tryz.func79 rfl rfl rfl (Nat.le_of_ble_eq_true rfl) fun w0 L => ?_
  refine TieS.seq (TieX.pre fun v hv => TieS.draw 10 [_, _, _, _, _, _, _, _, _, _] [(0, .ptr 1000000 0), (1, .t (tI t2))] [(1000000, .box [.t (tI s.low), .t (tI s.high), .t (tI s.source)])] mixed (.of rfl rfl) rfl rfl rfl rfl (.cons (.quiet rfl rfl rfl) (.cons (.quiet rfl rfl rfl) (.cons (.quiet rfl rfl rfl) (.cons (.quiet rfl rfl rfl) (.cons (.quiet rfl rfl rfl) (.cons (.quiet rfl rfl rfl) (.cons (.quiet rfl rfl rfl) (.cons (.quiet rfl rfl rfl) (.cons (.quiet rfl rfl rfl) (.cons (.callV (tie_arith_Clamp t2 s.low s.high) hv rfl rfl rfl rfl) (.nil))))))))))) (.run 1 rfl (.nil ?_)))
  exact TieS.region (.run 10 rfl (.nil (.leaf ⟨.inr rfl, ⟨[(1000000, 1000000)], _, _, rfl, rfl, rfl, rfl, rfl⟩⟩)))
abbrev x68_0 (r2 : SRequest) : List T := [.t (tI r2.Source), .t (tI r2.Kind), .t (tI r2.Torque), .t (tI r2.Priority)]
set_option maxRecDepth 100000 in
theorem tie_arbiter_span_narrow (s : Sarbiter_span) (r2 : SRequest) : TieG Tryz.prog 68 [.ptr 1000000 0, A_SRequest r2] [(1000000, .box [.t (tI s.low), .t (tI s.high), .t (tI s.source)])] (arbiter_span_narrow s r2) (fun r => .t (tB r.1)) (fun r => [(1000000, .box [.t (tI r.2.low), .t (tI r.2.high), .t (tI r.2.source)])]) := by
  refine TieG.intro htab 57 [.tmp 4] Tryz.call68 Tryz.func68 rfl rfl rfl (Nat.le_of_ble_eq_true rfl) fun w0 L => ?_
  refine TieS.seq (.region (.run 2 rfl (.nil (.seq ?_))))
  refine TieS.region (.run 5 rfl (.nil (.seq (.seq ?_))))
  refine TieS.region (.run 2 rfl (.nil (.bind (Q₁ := fun t e σ' => e = .normal ∧ Sub ⟨[(0, .ptr 1000000 0), (3, .ptr 3 0), (5, .ptr 5 0)], [(3, .box (x68_0 r2)), (5, .box [.t (tI s.low), .t (tI s.high), .t (tI s.source)]), (1000000, .box [.t (tI t.low), .t (tI t.high), .t (tI t.source)])]⟩ σ') ?_ ?_)))
  · refine TieS.block (.seq (.region (.run 2 rfl (.nil ?_))))
    refine TieS.cond rfl ?_ ?_
    · refine TieS.region (.run 3 rfl (.callG [(1000000, 1000000)] [] (fun v => ⟨[(0, .ptr 1000000 0), (1, .agg [.t (tI r2.Source), .t (tI r2.Kind), .t (tI r2.Torque), .t (tI r2.Priority)]), (3, .ptr 3 0), (4, .t (tB false)), (5, .ptr 5 0), (6, .ptr 1000000 0), (7, .ptr 1000000 0), (8, .agg [.t (tI s.low), .t (tI s.high), .t (tI s.source)]), (9, .ptr 3 1), (10, .t (tI r2.Kind)), (11, .t (tB (r2.Kind == 1))), (12, .t (tB (r2.Kind == 1))), (13, .ptr 1000000 0), (14, .ptr 3 2), (15, .t (tI r2.Torque)), (16, .tup [])], [(3, .box (x68_0 r2)), (5, .box [.t (tI s.low), .t (tI s.high), .t (tI s.source)]), (1000000, .box [.t (tI v.low), .t (tI v.high), .t (tI v.source)])]⟩) (tie_arbiter_span_atMost s r2.Torque) rfl rfl rfl rfl rfl rfl rfl (fun _ => rfl) (fun _ => rfl) (fun _ => rfl) (fun _ => .of rfl rfl) fun v hv => .nil (.endb ?_)))
      exact TieS.leaf ⟨rfl, .of rfl rfl⟩
    · refine TieS.seq (.region (.run 2 rfl (.nil (.cond rfl ?_ ?_))))
      · refine TieS.region (.run 3 rfl (.callG [(1000000, 1000000)] [] (fun v2 => ⟨[(0, .ptr 1000000 0), (1, .agg [.t (tI r2.Source), .t (tI r2.Kind), .t (tI r2.Torque), .t (tI r2.Priority)]), (3, .ptr 3 0), (4, .t (tB false)), (5, .ptr 5 0), (6, .ptr 1000000 0), (7, .ptr 1000000 0), (8, .agg [.t (tI s.low), .t (tI s.high), .t (tI s.source)]), (9, .ptr 3 1), (10, .t (tI r2.Kind)), (11, .t (tB (r2.Kind == 1))), (12, .t (tB (r2.Kind == 1))), (17, .t (tB (r2.Kind == 2))), (18, .t (tB (r2.Kind == 2))), (19, .ptr 1000000 0), (20, .ptr 3 2), (21, .t (tI r2.Torque)), (22, .tup [])], [(3, .box (x68_0 r2)), (5, .box [.t (tI s.low), .t (tI s.high), .t (tI s.source)]), (1000000, .box [.t (tI v2.low), .t (tI v2.high), .t (tI v2.source)])]⟩) (tie_arbiter_span_atLeast s r2.Torque) rfl rfl rfl rfl rfl rfl rfl (fun _ => rfl) (fun _ => rfl) (fun _ => rfl) (fun _ => .of rfl rfl) fun v2 hv2 => .nil (.endb ?_)))
        exact TieS.leaf ⟨rfl, .of rfl rfl⟩
      · refine TieS.seq (.region (.run 2 rfl (.nil (.cond rfl ?_ ?_))))
        · refine TieS.region (.run 3 rfl (.callG [(1000000, 1000000)] [] (fun v3 => ⟨[(0, .ptr 1000000 0), (1, .agg [.t (tI r2.Source), .t (tI r2.Kind), .t (tI r2.Torque), .t (tI r2.Priority)]), (3, .ptr 3 0), (4, .t (tB false)), (5, .ptr 5 0), (6, .ptr 1000000 0), (7, .ptr 1000000 0), (8, .agg [.t (tI s.low), .t (tI s.high), .t (tI s.source)]), (9, .ptr 3 1), (10, .t (tI r2.Kind)), (11, .t (tB (r2.Kind == 1))), (12, .t (tB (r2.Kind == 1))), (17, .t (tB (r2.Kind == 2))), (18, .t (tB (r2.Kind == 2))), (23, .t (tB (r2.Kind == 3))), (24, .t (tB (r2.Kind == 3))), (25, .ptr 1000000 0), (26, .ptr 3 2), (27, .t (tI r2.Torque)), (28, .tup [])], [(3, .box (x68_0 r2)), (5, .box [.t (tI s.low), .t (tI s.high), .t (tI s.source)]), (1000000, .box [.t (tI v3.low), .t (tI v3.high), .t (tI v3.source)])]⟩) (tie_arbiter_span_exactly s r2.Torque) rfl rfl rfl rfl rfl rfl rfl (fun _ => rfl) (fun _ => rfl) (fun _ => rfl) (fun _ => .of rfl rfl) fun v3 hv3 => .nil (.endb ?_)))
          exact TieS.leaf ⟨rfl, .of rfl rfl⟩
        · exact TieS.skip (.endb (.leaf ⟨rfl, .of rfl rfl⟩))
  rintro f2 e σ' _ ⟨rfl, hs⟩
  refine TieX.sub hs (TieS.seq (.seq (.draw 7 [_, _, _, _, _, _, _] [(0, .ptr 1000000 0), (3, .ptr 3 0), (5, .ptr 5 0)] [(3, .box (x68_0 r2)), (5, .box [.t (tI s.low), .t (tI s.high), .t (tI s.source)]), (1000000, .box [.t (tI f2.low), .t (tI f2.high), .t (tI f2.source)])] mixed (.of rfl rfl) rfl rfl rfl rfl (.cons (.quiet rfl rfl rfl) (.cons (.quiet rfl rfl rfl) (.cons (.quiet rfl rfl rfl) (.cons (.quiet rfl rfl rfl) (.cons (.quiet rfl rfl rfl) (.cons (.quiet rfl rfl rfl) (.cons (.quiet rfl rfl rfl) (.nil)))))))) (.nil ?_))))
  refine TieS.bind (Q₁ := fun t e σ' => e = .normal ∧ Sub ⟨[(0, .ptr 1000000 0), (5, .ptr 5 0)], [(5, .box [.t (tI s.low), .t (tI s.high), .t (tI s.source)]), (1000000, .box [.t (tI f2.low), .t (tI f2.high), .t (tI t)])]⟩ σ') ?_ ?_
  · refine TieS.cond rfl ?_ ?_
    · exact TieS.region (.run 6 rfl (.nil (.leaf ⟨rfl, .of rfl rfl⟩)))
    · exact TieS.skip (.leaf ⟨rfl, .of rfl rfl⟩)
  rintro f3 e σ' _ ⟨rfl, hs⟩
  refine TieX.sub hs (TieS.seq (TieX.split (fun hg => ?_) (fun hg2 => ?_)))
  · exact TieS.draw 17 [_, _, _, _, _, _, _, _, _, _, _, _, _, _, _, _, _] [(0, .ptr 1000000 0), (5, .ptr 5 0)] [(5, .box [.t (tI s.low), .t (tI s.high), .t (tI s.source)]), (1000000, .box [.t (tI f2.low), .t (tI f2.high), .t (tI f3)])] mixed (.of rfl rfl) rfl rfl rfl rfl (.cons (.quiet rfl rfl rfl) (.cons (.quiet rfl rfl rfl) (.cons (.quiet rfl rfl rfl) (.cons (.quiet rfl rfl rfl) (.cons (.quiet rfl rfl rfl) (.cons (.quiet rfl rfl rfl) (.cons (.quiet rfl rfl rfl) (.cons (.cast (congrArg T.B hg) (.quiet rfl rfl rfl)) (.cons (.skip rfl) (.cons (.skip rfl) (.cons (.skip rfl) (.cons (.skip rfl) (.cons (.skip rfl) (.cons (.skip rfl) (.cons (.skip rfl) (.cons (.quiet rfl rfl rfl) (.cons (.quiet rfl rfl rfl) (.nil)))))))))))))))))) (.nil (.ret ⟨.inl rfl, ⟨[(1000000, 1000000)], _, _, rfl, rfl, rfl, rfl, rfl⟩⟩))
  · exact TieS.draw 17 [_, _, _, _, _, _, _, _, _, _, _, _, _, _, _, _, _] [(0, .ptr 1000000 0), (5, .ptr 5 0)] [(5, .box [.t (tI s.low), .t (tI s.high), .t (tI s.source)]), (1000000, .box [.t (tI f2.low), .t (tI f2.high), .t (tI f3)])] mixed (.of rfl rfl) rfl rfl rfl rfl (.cons (.quiet rfl rfl rfl) (.cons (.quiet rfl rfl rfl) (.cons (.quiet rfl rfl rfl) (.cons (.quiet rfl rfl rfl) (.cons (.quiet rfl rfl rfl) (.cons (.quiet rfl rfl rfl) (.cons (.quiet rfl rfl rfl) (.cons (.cast (congrArg T.B hg2) (.quiet rfl rfl rfl)) (.cons (.quiet rfl rfl rfl) (.cons (.quiet rfl rfl rfl) (.cons (.quiet rfl rfl rfl) (.cons (.quiet rfl rfl rfl) (.cons (.quiet rfl rfl rfl) (.cons (.quiet rfl rfl rfl) (.cons (.quiet rfl rfl rfl) (.cons (.quiet rfl rfl rfl) (.cons (.quiet rfl rfl rfl) (.nil)))))))))))))))))) (.nil (.ret ⟨.inl rfl, ⟨[(1000000, 1000000)], _, _, rfl, rfl, rfl, rfl, rfl⟩⟩))
set_option maxRecDepth 100000 in
def sortI69_ren : Go.Shelf.Ren := ⟨fun | 125 => 81 | 128 => 95 | 129 => 96 | 189 => 69 | 215 => 72 | 216 => 52 | 257 => 80 | 294 => 87 | 295 => 88 | 296 => 89 | 297 => 90 | 298 => 91 | 299 => 92 | 300 => 93 | 301 => 94 | 328 => 103 | 329 => 104 | 330 => 105 | 331 => 106 | 332 => 107 | 343 => 113 | n => n, fun | 0 => 0 | 3 => 3 | 4 => 4 | 5 => 5 | 9 => 9 | 28 => 22 | 46 => 69 | 51 => 106 | 53 => 109 | 131 => 33 | 182 => 140 | 183 => 141 | 218 => 149 | 222 => 153 | 228 => 157 | 229 => 116 | n => n, fun  | n => n⟩
open Go.Shelf in
theorem sortI69 : Lays.n189 Tryz.prog sortI69_ren := {
  mixed := by kernel_rfl,
  f125 := Tryz.func81.trans (congrArg some (by kernel_rfl)),
  f128 := Tryz.func95.trans (congrArg some (by kernel_rfl)),
  f129 := Tryz.func96.trans (congrArg some (by kernel_rfl)),
  f189 := Tryz.func69.trans (congrArg some (by kernel_rfl)),
  f215 := Tryz.func72.trans (congrArg some (by kernel_rfl)),
  f216 := Tryz.func52.trans (congrArg some (by kernel_rfl)),
  f257 := Tryz.func80.trans (congrArg some (by kernel_rfl)),
  f294 := Tryz.func87.trans (congrArg some (by kernel_rfl)),
  f295 := Tryz.func88.trans (congrArg some (by kernel_rfl)),
  f296 := Tryz.func89.trans (congrArg some (by kernel_rfl)),
  f297 := Tryz.func90.trans (congrArg some (by kernel_rfl)),
  f298 := Tryz.func91.trans (congrArg some (by kernel_rfl)),
  f299 := Tryz.func92.trans (congrArg some (by kernel_rfl)),
  f300 := Tryz.func93.trans (congrArg some (by kernel_rfl)),
  f301 := Tryz.func94.trans (congrArg some (by kernel_rfl)),
  f328 := Tryz.func103.trans (congrArg some (by kernel_rfl)),
  f329 := Tryz.func104.trans (congrArg some (by kernel_rfl)),
  f330 := Tryz.func105.trans (congrArg some (by kernel_rfl)),
  f331 := Tryz.func106.trans (congrArg some (by kernel_rfl)),
  f332 := Tryz.func107.trans (congrArg some (by kernel_rfl)),
  f343 := Tryz.func113.trans (congrArg some (by kernel_rfl)),
  t0 := Tryz.underlying0,
  a0 := Tryz.isAgg0,
  z0 := Tryz.sizeOf0,
  v0 := Tryz.zeroValue0,
  t3 := Tryz.underlying3,
  a3 := Tryz.isAgg3,
  z3 := Tryz.sizeOf3,
  v3 := Tryz.zeroValue3,
  t4 := Tryz.underlying4,
  a4 := Tryz.isAgg4,
  z4 := Tryz.sizeOf4,
  v4 := Tryz.zeroValue4,
  t5 := Tryz.underlying5,
  a5 := Tryz.isAgg5,
  z5 := Tryz.sizeOf5,
  v5 := Tryz.zeroValue5,
  t9 := Tryz.underlying9,
  a9 := Tryz.isAgg9,
  z9 := Tryz.sizeOf9,
  v9 := Tryz.zeroValue9,
  t28 := Tryz.underlying22,
  a28 := Tryz.isAgg22,
  z28 := Tryz.sizeOf22,
  v28 := Tryz.zeroValue22,
  t46 := Tryz.underlying69,
  a46 := Tryz.isAgg69,
  z46 := Tryz.sizeOf69,
  v46 := Tryz.zeroValue69,
  t51 := Tryz.underlying106,
  a51 := Tryz.isAgg106,
  z51 := Tryz.sizeOf106,
  v51 := Tryz.zeroValue106,
  t53 := Tryz.underlying109,
  a53 := Tryz.isAgg109,
  z53 := Tryz.sizeOf109,
  v53 := Tryz.zeroValue109,
  t131 := Tryz.underlying33,
  a131 := Tryz.isAgg33,
  z131 := Tryz.sizeOf33,
  v131 := Tryz.zeroValue33,
  t182 := Tryz.underlying140,
  a182 := Tryz.isAgg140,
  z182 := Tryz.sizeOf140,
  v182 := Tryz.zeroValue140,
  t183 := Tryz.underlying141,
  a183 := Tryz.isAgg141,
  z183 := Tryz.sizeOf141,
  v183 := Tryz.zeroValue141,
  t218 := Tryz.underlying149,
  a218 := Tryz.isAgg149,
  z218 := Tryz.sizeOf149,
  v218 := Tryz.zeroValue149,
  t222 := Tryz.underlying153,
  a222 := Tryz.isAgg153,
  z222 := Tryz.sizeOf153,
  v222 := Tryz.zeroValue153,
  t228 := Tryz.underlying157,
  a228 := Tryz.isAgg157,
  z228 := Tryz.sizeOf157,
  v228 := Tryz.zeroValue157,
  t229 := Tryz.underlying116,
  a229 := Tryz.isAgg116,
  z229 := Tryz.sizeOf116,
  v229 := Tryz.zeroValue116 }
theorem tie_slices_Sort_sint (s : List Int) : TieG Tryz.prog 69 [.own 1000000] [(1000000, .rows 3 1 s.length (s.map Pv.encI))] (slices_Sort_sint s) (fun _ => .tup []) (fun r => [(1000000, .rows 3 1 r.length (r.map Pv.encI))]) :=
  sortInts_tie (ρ := sortI69_ren) sortI69 Tryz.call69 s
set_option maxRecDepth 100000 in
def compI70_ren : Go.Shelf.Ren := ⟨fun | 20 => 70 | n => n, fun | 0 => 0 | 3 => 3 | 4 => 4 | 22 => 22 | n => n, fun  | n => n⟩
open Go.Shelf in
theorem compI70 : Lays2.n20 Tryz.prog compI70_ren := {
  mixed := by kernel_rfl,
  f20 := Tryz.func70.trans (congrArg some (by kernel_rfl)),
  t0 := Tryz.underlying0,
  a0 := Tryz.isAgg0,
  z0 := Tryz.sizeOf0,
  v0 := Tryz.zeroValue0,
  t3 := Tryz.underlying3,
  a3 := Tryz.isAgg3,
  z3 := Tryz.sizeOf3,
  v3 := Tryz.zeroValue3,
  t4 := Tryz.underlying4,
  a4 := Tryz.isAgg4,
  z4 := Tryz.sizeOf4,
  v4 := Tryz.zeroValue4,
  t22 := Tryz.underlying22,
  a22 := Tryz.isAgg22,
  z22 := Tryz.sizeOf22,
  v22 := Tryz.zeroValue22,
  i3 := by kernel_rfl }
theorem tie_slices_Compact_sint (s : List Int) : TieG Tryz.prog 70 [.own 1000000] [(1000000, .rows 3 1 s.length (s.map Pv.encI))] (slices_Compact_sint s) (fun _ => .own 900000) (fun r => [(900000, .rows 3 1 r.length (r.map Pv.encI))]) :=
  compactInts_tie (ρ := compI70_ren) compI70 Tryz.call70 s
set_option maxRecDepth 100000 in
theorem tie_arbiter_decide (l : List SRequest) (low : Int) (high : Int) : TieF Tryz.prog 40 [.t (tS enc_SRequest l), .t (tI low), .t (tI high)] (arbiter_decide l low high) (fun r => .tup [A_Sarbiter_span r.1, .t (tS Pv.encI r.2)]) := by
  refine TieF.intro htab 38 [.cell 6 103, .tmp 7] Tryz.call40 Tryz.func40 rfl rfl rfl (Nat.le_of_ble_eq_true rfl) fun w0 L => ?_
  refine TieS.seq (.region (.run 2 rfl (.nil (.seq ?_))))
  refine TieS.region (.run 1 rfl (.callG [] [(900000, 2104)] (fun v => ⟨[(0, .t (tS enc_SRequest l)), (1, .t (tI low)), (2, .t (tI high)), (6, .ptr 6 0), (7, .t (.v (.slice none 0 0))), (12, .t (tS enc_SRequest l)), (13, .own 2104)], [(6, .box [.t (tI 0), .t (tI 0), .t (tI 0)]), (2104, .rs 82 4 v enc_SRequest)]⟩) (tie_slices_Clone_sRequest l) rfl rfl rfl rfl rfl rfl rfl (fun _ => rfl) (fun _ => rfl) (fun _ => rfl) (fun _ => .of rfl rfl) fun v hv => .run 1 rfl (.nil ?_)))
  refine TieS.seq (.region (.run 1 rfl (.callG [(1000000, 2104)] [] (fun v2 => ⟨[(0, .own 2104), (1, .t (tI low)), (2, .t (tI high)), (6, .ptr 6 0), (7, .t (.v (.slice none 0 0))), (12, .t (tS enc_SRequest l)), (13, .own 2104), (14, .own 2104), (15, .tup [])], [(6, .box [.t (tI 0), .t (tI 0), .t (tI 0)]), (2104, .rs 82 4 v2 enc_SRequest)]⟩) (tie_slices_SortStableFunc_sRequest v 67 [] arbiter_decide_1 tie_arbiter_decide_1) rfl rfl rfl rfl rfl rfl rfl (fun _ => rfl) (fun _ => rfl) (fun _ => rfl) (fun _ => .of rfl rfl) fun v2 hv2 => .nil ?_)))
  refine TieS.seq (.region (.run 5 rfl (.nil (.seq ?_))))
  refine TieS.region (.run 1 rfl (.nil (.seq (.seq ?_))))
  refine TieS.region (.run 3 rfl (.nil (.block (TieX.nilP 9 2248 3 1 [] rfl rfl rfl rfl rfl ?_))))
  refine TieS.loop (fun p => ⟨[(6, .ptr 6 0), (8, .ptr 8 0), (9, .own 2248), (19, .own 2104), (20, .t (tI (v2.length : Int))), (21, .t (tI p.1))], [(6, .box [.t (tI 0), .t (tI 0), .t (tI 0)]), (8, .box [.t (tI p.2.2.low), .t (tI p.2.2.high), .t (tI p.2.2.source)]), (2104, .rs 82 4 v2 enc_SRequest), (2248, .rs 3 1 p.2.1 Pv.encI)]⟩) (fun b e σ' => match b with | .inl t => e = .exit 0 ∧ Sub ⟨[(6, .ptr 6 0), (8, .ptr 8 0), (9, .own 2248)], [(6, .box [.t (tI 0), .t (tI 0), .t (tI 0)]), (8, .box [.t (tI t.2.low), .t (tI t.2.high), .t (tI t.2.source)]), (2248, .rs 3 1 t.1 Pv.encI)]⟩ σ' | .inr t => False) (.of rfl rfl) ?_ ?_
  · rintro ⟨i, s⟩
    refine TieS.seq (.region (.run 1 rfl (.nil (.seq ?_))))
    refine TieS.cond rfl ?_ ?_
    · refine TieS.skip (.seq (TieX.pre fun x hx => TieX.sub (σ' := ⟨[(6, .ptr 6 0), (8, .ptr 8 0), (9, .own 2248), (19, .own 2104), (20, .t (tI (v2.length : Int))), (21, .t (tI i))], [(6, .box [.t (tI 0), .t (tI 0), .t (tI 0)]), (8, .box [.t (tI s.2.low), .t (tI s.2.high), .t (tI s.2.source)]), (2104, .rs 82 4 v2 enc_SRequest), (2248, .rs 3 1 s.1 Pv.encI)]⟩) (.of rfl rfl) (TieS.bind (Q₁ := fun f e σ' => match f with | .next t => e = .normal ∧ Sub ⟨[(6, .ptr 6 0), (8, .ptr 8 0), (9, .own 2248), (19, .own 2104), (20, .t (tI (v2.length : Int))), (21, .t (tI i))], [(6, .box [.t (tI 0), .t (tI 0), .t (tI 0)]), (8, .box [.t (tI t.2.low), .t (tI t.2.high), .t (tI t.2.source)]), (2104, .rs 82 4 v2 enc_SRequest), (2248, .rs 3 1 t.1 Pv.encI)]⟩ σ' | .brk t => e = .exit 0 ∧ Sub ⟨[(6, .ptr 6 0), (8, .ptr 8 0), (9, .own 2248)], [(6, .box [.t (tI 0), .t (tI 0), .t (tI 0)]), (8, .box [.t (tI t.2.low), .t (tI t.2.high), .t (tI t.2.source)]), (2248, .rs 3 1 t.1 Pv.encI)]⟩ σ' | .ret r => False) ?_ ?_)))
      · refine TieS.block (.seq (.region (.indexOH hx rfl rfl rfl rfl rfl rfl rfl rfl rfl rfl (.loadY hx rfl rfl rfl rfl rfl rfl rfl rfl ?_))))
        refine TieO.run 2 rfl (.nil (.seq (.region (.run 1 rfl ?_))))
        refine TieO.callG [(1000000, 8)] [] (fun r2 => ⟨[(6, .ptr 6 0), (8, .ptr 8 0), (9, .own 2248), (11, .ptr 11 0), (19, .own 2104), (20, .t (tI (v2.length : Int))), (21, .t (tI i)), (23, .pe 2104 (Int.toNat i) 4 0), (24, .agg [.t (tI x.Source), .t (tI x.Kind), .t (tI x.Torque), .t (tI x.Priority)]), (25, .agg [.t (tI x.Source), .t (tI x.Kind), .t (tI x.Torque), .t (tI x.Priority)]), (26, .t (tB r2.1))], [(6, .box [.t (tI 0), .t (tI 0), .t (tI 0)]), (8, .box [.t (tI r2.2.low), .t (tI r2.2.high), .t (tI r2.2.source)]), (11, .box [.t (tI x.Source), .t (tI x.Kind), .t (tI x.Torque), .t (tI x.Priority)]), (2104, .rs 82 4 v2 enc_SRequest), (2248, .rs 3 1 s.1 Pv.encI)]⟩) (tie_arbiter_span_narrow s.2 x) rfl rfl rfl rfl rfl rfl rfl (fun _ => rfl) (fun _ => rfl) (fun _ => rfl) (fun _ => .of rfl rfl) fun r2 hr2 => .nil (.cond rfl ?_ ?_)
        · refine TieS.region (.run 4 rfl (.appendY (id := 2248) (l := s.1) (r := ([x.Source] : List Int)) (tm' := [(6, .ptr 6 0), (8, .ptr 8 0), (11, .ptr 11 0), (19, .own 2104), (20, .t (tI (v2.length : Int))), (21, .t (tI i)), (23, .pe 2104 (Int.toNat i) 4 0), (24, .agg [.t (tI x.Source), .t (tI x.Kind), .t (tI x.Torque), .t (tI x.Priority)]), (25, .agg [.t (tI x.Source), .t (tI x.Kind), .t (tI x.Torque), .t (tI x.Priority)]), (26, .t (tB r2.1)), (28, .ptr 11 0), (29, .t (tI x.Source)), (30, .own 30)]) (hp' := [(6, .box [.t (tI 0), .t (tI 0), .t (tI 0)]), (8, .box [.t (tI r2.2.low), .t (tI r2.2.high), .t (tI r2.2.source)]), (11, .box [.t (tI x.Source), .t (tI x.Kind), .t (tI x.Torque), .t (tI x.Priority)]), (30, .rs 3 1 ([x.Source] : List Int) Pv.encI), (2104, .rs 82 4 v2 enc_SRequest)]) rfl rfl rfl rfl rfl rfl rfl (fun _ => rfl) (fun _ => rfl) (.inl ⟨rfl, rfl⟩) (.inr ⟨_, rfl, rfl⟩) (.of rfl rfl) rfl rfl rfl fun l2 => .run 1 rfl (.nil ?_)))
          exact TieS.endb (.leaf ⟨rfl, .of rfl rfl⟩)
        · exact TieS.skip (.endb (.leaf ⟨rfl, .of rfl rfl⟩))
      rintro (t | t | r) e σ' _ hq
      · obtain ⟨rfl, hs⟩ := hq
        exact TieX.sub hs (TieS.region (.run 2 rfl (.nil (.leaf ⟨rfl, .of rfl rfl⟩))))
      · obtain ⟨rfl, hs⟩ := hq
        exact TieX.exitOut rfl ⟨(fun h => by cases h), rfl, hs⟩
      · exact hq.elim
    · exact TieS.exitOut rfl ⟨(fun h => by cases h), rfl, .of rfl rfl⟩
  rintro (s2 | r) e σ' _ hq
  · obtain ⟨rfl, hs⟩ := hq
    refine TieX.exit rfl (TieX.sub hs ?_)
    refine TieS.seq (.region (.run 1 rfl (.callG [(1000000, 2248)] [] (fun v3 => ⟨[(6, .ptr 6 0), (8, .ptr 8 0), (9, .own 2248), (33, .own 2248), (34, .tup [])], [(6, .box [.t (tI 0), .t (tI 0), .t (tI 0)]), (8, .box [.t (tI s2.2.low), .t (tI s2.2.high), .t (tI s2.2.source)]), (2248, .rs 3 1 v3 Pv.encI)]⟩) (tie_slices_Sort_sint s2.1) rfl rfl rfl rfl rfl rfl rfl (fun _ => rfl) (fun _ => rfl) (fun _ => rfl) (fun _ => .of rfl rfl) fun v3 hv3 => .nil ?_)))
    refine TieS.seq (.bind (Q₁ := fun t e σ' => e = .normal ∧ Sub ⟨[(6, .ptr 6 0), (7, .own 2296)], [(6, .box [.t (tI t.2.low), .t (tI t.2.high), .t (tI t.2.source)]), (2296, .rs 3 1 t.1 Pv.encI)]⟩ σ') ?_ ?_)
    · refine TieX.pre fun v4 hv4 => TieS.draws 3 (bm 5 0) (bm 5 7) ⟨[(6, .ptr 6 0), (35, .agg [.t (tI s2.2.low), .t (tI s2.2.high), .t (tI s2.2.source)]), (37, .own 2296)], [(6, .box [.t (tI 0), .t (tI 0), .t (tI 0)]), (8, .box [.t (tI s2.2.low), .t (tI s2.2.high), .t (tI s2.2.source)]), (2296, .rs 3 1 v4 Pv.encI)]⟩ mixed (fun _ _ _ h => by cases h.1) rfl rfl rfl rfl ?_ ?_
      · refine TieA.mv 1 rfl (.inl rfl) rfl (by kernel_rfl) rfl (.all [0, 2] (by kernel_rfl) rfl (AllA.run _ rfl rfl rfl ?_ ?_))
        · refine TieA.all [2] (by kernel_rfl) rfl (AllA.cons (σ₁ := ⟨[(6, .ptr 6 0), (35, .agg [.t (tI s2.2.low), .t (tI s2.2.high), .t (tI s2.2.source)]), (37, .own 2296)], [(6, .box [.t (tI 0), .t (tI 0), .t (tI 0)]), (8, .box [.t (tI s2.2.low), .t (tI s2.2.high), .t (tI s2.2.source)]), (2296, .rs 3 1 v4 Pv.encI)]⟩) _ rfl rfl ?_ ?_ ?_)
          · refine TieO.withH hv4 (TieO.callG [(1000000, 2248)] [(900000, 2296)] (fun v4 => ⟨[(6, .ptr 6 0), (35, .agg [.t (tI s2.2.low), .t (tI s2.2.high), .t (tI s2.2.source)]), (37, .own 2296)], [(6, .box [.t (tI 0), .t (tI 0), .t (tI 0)]), (8, .box [.t (tI s2.2.low), .t (tI s2.2.high), .t (tI s2.2.source)]), (2296, .rs 3 1 v4 Pv.encI)]⟩) (tie_slices_Compact_sint v3) rfl rfl rfl rfl rfl rfl rfl (fun _ => rfl) (fun _ => rfl) (fun _ => rfl) (fun _ => .of rfl rfl) (TieO.ifG ?_))
            exact TieO.nil (TieS.leaf ⟨rfl, .of rfl rfl⟩)
          · exact TieA.done (.of rfl rfl)
          exact AllA.nil
        refine AllA.cons (σ₁ := ⟨[(6, .ptr 6 0), (8, .ptr 8 0), (37, .own 2296)], [(6, .box [.t (tI 0), .t (tI 0), .t (tI 0)]), (8, .box [.t (tI s2.2.low), .t (tI s2.2.high), .t (tI s2.2.source)]), (2296, .rs 3 1 v4 Pv.encI)]⟩) _ rfl rfl ?_ ?_ ?_
        · refine TieO.withH hv4 (TieO.callG [(1000000, 2248)] [(900000, 2296)] (fun v4 => ⟨[(6, .ptr 6 0), (8, .ptr 8 0), (34, .tup []), (37, .own 2296)], [(6, .box [.t (tI 0), .t (tI 0), .t (tI 0)]), (8, .box [.t (tI s2.2.low), .t (tI s2.2.high), .t (tI s2.2.source)]), (2296, .rs 3 1 v4 Pv.encI)]⟩) (tie_slices_Compact_sint v3) rfl rfl rfl rfl rfl rfl rfl (fun _ => rfl) (fun _ => rfl) (fun _ => rfl) (fun _ => .of rfl rfl) (TieO.ifG ?_))
          exact TieO.nil (TieS.leaf ⟨rfl, .of rfl rfl⟩)
        · refine TieA.all [0] (by kernel_rfl) rfl (AllA.run _ rfl rfl rfl ?_ ?_)
          · exact TieA.done (.of rfl rfl)
          exact AllA.nil
        exact AllA.nil
      exact TieO.run 2 rfl (.nil (.leaf ⟨rfl, .of rfl rfl⟩))
    rintro s3 e σ' _ ⟨rfl, hs⟩
    exact TieX.sub hs (TieS.ret ⟨.inl rfl, rfl⟩)
  · exact hq.elim
set_option maxRecDepth 100000 in
theorem tie_arbiter_Decide (l : List SRequest) (low : Int) (high : Int) : TieF Tryz.prog 13 [.t (tS enc_SRequest l), .t (tI low), .t (tI high)] (arbiter_Decide l low high) (fun r => .tup [A_SGrant r.1, .t (tI r.2)]) := by
  refine TieF.intro htab 31 [.cell 6 66, .tmp 7] Tryz.call13 Tryz.func13 rfl rfl rfl (Nat.le_of_ble_eq_true rfl) fun w0 L => ?_
  refine TieS.seq (.region (.run 2 rfl (.nil (.seq ?_))))
  refine TieS.seq (.region (.run 3 rfl (.call _ rfl rfl rfl (tie_arbiter_given l low high) (fun _ => rfl) fun v => .run 1 rfl ?_)))
  refine TieO.nil (.seq (.region (.run 2 rfl (.nil ?_))))
  refine TieS.cond rfl ?_ ?_
  · exact TieS.seq (.region (.run 4 rfl (.nil (.ret ⟨.inl rfl, rfl⟩))))
  · refine TieS.skip (.seq (.region (.run 3 rfl (.call _ rfl rfl rfl (tie_arbiter_decide l low high) (fun _ => rfl) fun r2 => ?_))))
    refine TieO.run 6 rfl (.nil (.seq (.region (.run 7 rfl ?_))))
    exact TieO.nil (.ret ⟨.inl rfl, rfl⟩)
set_option maxRecDepth 100000 in
theorem tie_magnetotop_reactionOver (t2 : STables) (l : List Smagnetotop_ReactionStep) : TieF Tryz.prog 4 [A_STables t2, .t (tS enc_Smagnetotop_ReactionStep l)] (magnetotop_reactionOver t2 l) (fun r => .tup [.t (tI r.1), .t (tB r.2)]) := by
  refine TieF.intro htab 139 [.tmp 4, .tmp 5] Tryz.call4 Tryz.func4 rfl rfl rfl (Nat.le_of_ble_eq_true rfl) fun w0 L => ?_
  refine TieS.seq (.region (.run 3 rfl (.nil (.seq ?_))))
  refine TieS.region (.call _ rfl rfl rfl (tie_quiz_New 1) (fun _ => rfl) fun r2 => .run 6 rfl (.nil (.seq ?_)))
  refine TieS.seq (.region (.run 2 rfl (.nil (.cond rfl ?_ ?_))))
  · exact TieS.seq (.region (.run 2 rfl (.nil (.ret ⟨.inl rfl, rfl⟩))))
  · refine TieS.skip (.seq (TieX.pre fun v hv => TieS.draw 3 [_, _, _] [(1, .t (tS enc_Smagnetotop_ReactionStep l)), (2, .ptr 2 0), (6, .ptr 6 0)] [(2, .box (B_STables t2)), (6, .box [.t (tI r2.1.Question), .t (tI r2.1.Asked), .t (tI r2.1.Errors), .t (tB r2.1.Open), .t (tB r2.1.Off)])] mixed (.of rfl rfl) rfl rfl rfl rfl (.cons (.quiet rfl rfl rfl) (.cons (.callV (tie_stage_New) hv rfl rfl rfl rfl) (.cons (.quiet rfl rfl rfl) (.nil)))) (.run 2 rfl ?_)))
    refine TieO.nil (.seq (.region (.run 3 rfl (.nil ?_))))
    refine TieS.seq (.region (.run 1 rfl (.nil (.seq ?_))))
    refine TieS.seq (.region (.run 3 rfl (.nil (.block ?_))))
    refine TieS.loop (fun p => ⟨[(2, .ptr 2 0), (8, .ptr 32 0), (9, .t (tI p.2.1)), (10, .t (tI p.2.2.1)), (11, .t (tB p.2.2.2.1)), (12, .t (tB p.2.2.2.2.1)), (33, .t (tS enc_Smagnetotop_ReactionStep l)), (34, .t (tI (l.length : Int))), (35, .t (tI p.1))], [(2, .box (B_STables t2)), (32, .box (B_Smagnetotop_monitored p.2.2.2.2.2))]⟩) (fun b e σ' => match b with | .inl t => e = .exit 0 ∧ Sub ⟨[(9, .t (tI t.1))], []⟩ σ' | .inr t => e = .ret ∧ retT tab σ' [.tmp 4, .tmp 5] = some (((fun r => .tup [.t (tI r.1), .t (tB r.2)]) : (Int × Bool) → T) t)) (.of rfl rfl) ?_ ?_
    · rintro ⟨i, s⟩
      refine TieS.seq (.region (.run 1 rfl (.nil (.seq ?_))))
      refine TieS.cond rfl ?_ ?_
      · refine TieS.skip (.seq (TieX.pre fun x hx => TieX.sub (σ' := ⟨[(2, .ptr 2 0), (8, .ptr 32 0), (9, .t (tI s.1)), (10, .t (tI s.2.1)), (11, .t (tB s.2.2.1)), (12, .t (tB s.2.2.2.1)), (33, .t (tS enc_Smagnetotop_ReactionStep l)), (34, .t (tI (l.length : Int))), (35, .t (tI i))], [(2, .box (B_STables t2)), (32, .box (B_Smagnetotop_monitored s.2.2.2.2))]⟩) (.of rfl rfl) (TieS.bind (Q₁ := fun f e σ' => match f with | .next t => e = .normal ∧ Sub ⟨[(2, .ptr 2 0), (8, .ptr 32 0), (9, .t (tI t.1)), (10, .t (tI t.2.1)), (11, .t (tB t.2.2.1)), (12, .t (tB t.2.2.2.1)), (33, .t (tS enc_Smagnetotop_ReactionStep l)), (34, .t (tI (l.length : Int))), (35, .t (tI i))], [(2, .box (B_STables t2)), (32, .box (B_Smagnetotop_monitored t.2.2.2.2))]⟩ σ' | .brk t => e = .exit 0 ∧ Sub ⟨[(9, .t (tI t.1))], []⟩ σ' | .ret t => e = .ret ∧ retT tab σ' [.tmp 4, .tmp 5] = some (((fun r => .tup [.t (tI r.1), .t (tB r.2)]) : (Int × Bool) → T) t)) ?_ ?_)))
        · refine TieS.block (.seq (.region (.indexH hx rfl rfl rfl rfl rfl rfl rfl rfl (fun _ => rfl) (.run 3 rfl ?_))))
          refine TieO.nil (.seq (.region (.run 3 rfl (.callG [(1000000, 32)] [] (fun r3 => ⟨[(2, .ptr 2 0), (8, .ptr 32 0), (9, .t (tI s.1)), (10, .t (tI s.2.1)), (11, .t (tB s.2.2.1)), (12, .t (tB s.2.2.2.1)), (14, .ptr 14 0), (33, .t (tS enc_Smagnetotop_ReactionStep l)), (34, .t (tI (l.length : Int))), (35, .t (tI i)), (37, .el (enc_Smagnetotop_ReactionStep x)), (38, .agg [.t (tK .u16 x.Pedal), .t (tK .u16 x.Speed), .t (tK .u16 x.Charge), .t (tK .u16 x.Late), .t (tK .u8 x.Fires), .t (tB x.Limited), .t (tK .i16 x.Limit)]), (40, .ptr 32 0), (41, .agg [.t (tS Pv.encI t2.Air.X), .t (tS Pv.encI t2.Air.Y), .t (tS (Pv.encS Pv.encI) t2.Air.Z), .t (tS Pv.encI t2.Spark.X), .t (tS Pv.encI t2.Spark.Y), .t (tS (Pv.encS Pv.encI) t2.Spark.Z), .t (tS Pv.encI t2.Torque.X), .t (tS Pv.encI t2.Torque.Y), .t (tS (Pv.encS Pv.encI) t2.Torque.Z), .t (tS Pv.encI t2.Wish.X), .t (tS Pv.encI t2.Wish.Y), .t (tS (Pv.encS Pv.encI) t2.Wish.Z), .t (tS Pv.encI t2.AirTemp.X), .t (tS Pv.encI t2.AirTemp.Y), .t (tS Pv.encI t2.Dwell.X), .t (tS Pv.encI t2.Dwell.Y), .t (tS Pv.encI t2.Dead.X), .t (tS Pv.encI t2.Dead.Y), .t (tS Pv.encI t2.Efficiency.X), .t (tS Pv.encI t2.Efficiency.Y), .t (tI t2.Idle.P), .t (tI t2.Idle.I), .t (tI t2.Idle.Low), .t (tI t2.Idle.High)]), (42, .agg [.t (tK .u16 x.Pedal), .t (tK .u16 x.Speed), .t (tK .u16 x.Charge), .t (tK .u16 x.Late), .t (tK .u8 x.Fires), .t (tB x.Limited), .t (tK .i16 x.Limit)]), (43, .tup [.t (tI r3.1), .t (tI r3.2.1), .t (tI r3.2.2.1), .t (tB r3.2.2.2.1)])], [(2, .box (B_STables t2)), (14, .box [.t (tK .u16 x.Pedal), .t (tK .u16 x.Speed), .t (tK .u16 x.Charge), .t (tK .u16 x.Late), .t (tK .u8 x.Fires), .t (tB x.Limited), .t (tK .i16 x.Limit)]), (32, .box (B_Smagnetotop_monitored r3.2.2.2.2))]⟩) (tie_magnetotop_monitored_step (u8_2 (u8_1 (u8_0 s.2.2.2.2 (⟨s.2.2.2.2.guard.Over, s.2.2.2.2.guard.Calm, s.2.2.2.2.guard.Off⟩ : SGuard)) (⟨s.2.2.2.2.quiz.Question, s.2.2.2.2.quiz.Asked, s.2.2.2.2.quiz.Errors, s.2.2.2.2.quiz.Open, s.2.2.2.2.quiz.Off⟩ : SQuiz)) (⟨s.2.2.2.2.stage.Enabled, s.2.2.2.2.stage.Cause, s.2.2.2.2.stage.Since⟩ : SStage)) t2 x) rfl rfl rfl rfl rfl rfl rfl (fun _ => rfl) (fun _ => rfl) (fun _ => rfl) (fun _ => .of rfl rfl) fun r3 hr3 => ?_))))
          refine TieO.run 9 rfl (.nil (.seq (.seq (.region ?_))))
          refine TieO.run 2 rfl (.nil (.cond rfl ?_ ?_))
          · exact TieS.seq (.region (.run 2 rfl (.nil (.ret ⟨rfl, rfl⟩))))
          · refine TieS.skip (.seq (.region (.run 3 rfl (.nil ?_))))
            refine TieS.seq (.seq (.region (.run 3 rfl (.nil ?_))))
            refine TieS.bind (Q₁ := fun t e σ' => e = .normal ∧ Sub ⟨[(2, .ptr 2 0), (8, .ptr 32 0), (9, .t (tI s.1)), (10, .t (tI t)), (11, .t (tB s.2.2.1)), (12, .t (tB s.2.2.2.1)), (15, .t (tI r3.1)), (16, .t (tI r3.2.1)), (33, .t (tS enc_Smagnetotop_ReactionStep l)), (34, .t (tI (l.length : Int))), (35, .t (tI i))], [(2, .box (B_STables t2)), (32, .box (B_Smagnetotop_monitored r3.2.2.2.2))]⟩ σ') ?_ ?_
            · refine TieS.cond rfl ?_ ?_
              · exact TieS.region (.run 1 rfl (.nil (.leaf ⟨rfl, .of rfl rfl⟩)))
              · exact TieS.skip (.leaf ⟨rfl, .of rfl rfl⟩)
            rintro row e σ' _ ⟨rfl, hs⟩
            refine TieX.sub hs (TieS.seq (.region (.run 4 rfl (.nil ?_))))
            refine TieS.seq (.region (.run 2 rfl (.selAnd (v := decide (r3.2.1 ≤ r3.1)) 4 59 (fun b => ⟨[(2, .ptr 2 0), (8, .ptr 32 0), (9, .t (tI (maxI s.1 row))), (10, .t (tI row)), (12, .t (tB s.2.2.2.1)), (15, .t (tI r3.1)), (33, .t (tS enc_Smagnetotop_ReactionStep l)), (34, .t (tI (l.length : Int))), (35, .t (tI i)), (63, .t (tB b))], [(2, .box (B_STables t2)), (32, .box (B_Smagnetotop_monitored r3.2.2.2.2))]⟩) rfl ?_ ?_ ?_)))
            · exact TieO.run 4 rfl (.nil (.leaf ⟨rfl, .of rfl rfl⟩))
            · exact TieO.run 4 rfl (.nil (.leaf ⟨rfl, .of rfl rfl⟩))
            refine TieO.run 1 rfl (.nil (.seq (.seq (.region ?_))))
            refine TieO.run 2 rfl (.selAnd (v := (!r3.2.2.2.2.stage.Enabled)) 7 65 (fun b => ⟨[(2, .ptr 2 0), (8, .ptr 32 0), (9, .t (tI (maxI s.1 row))), (10, .t (tI row)), (11, .t (tB (s.2.2.1 && (decide (r3.2.1 ≤ r3.1))))), (12, .t (tB s.2.2.2.1)), (15, .t (tI r3.1)), (33, .t (tS enc_Smagnetotop_ReactionStep l)), (34, .t (tI (l.length : Int))), (35, .t (tI i)), (72, .t (tB b))], [(2, .box (B_STables t2)), (32, .box (B_Smagnetotop_monitored r3.2.2.2.2))]⟩) rfl ?_ ?_ ?_)
            · exact TieO.run 7 rfl (.nil (.leaf ⟨rfl, .of rfl rfl⟩))
            · exact TieO.run 7 rfl (.nil (.leaf ⟨rfl, .of rfl rfl⟩))
            refine TieO.run 1 rfl (.bind 9 (fun b2 => ⟨[(2, .ptr 2 0), (8, .ptr 32 0), (9, .t (tI (maxI s.1 row))), (10, .t (tI row)), (11, .t (tB (s.2.2.1 && (decide (r3.2.1 ≤ r3.1))))), (12, .t (tB s.2.2.2.1)), (15, .t (tI r3.1)), (33, .t (tS enc_Smagnetotop_ReactionStep l)), (34, .t (tI (l.length : Int))), (35, .t (tI i)), (82, .t (tB b2))], [(2, .box (B_STables t2)), (32, .box (B_Smagnetotop_monitored r3.2.2.2.2))]⟩) (TieO.split 73 rfl ?_ ?_) fun b2 _ => ?_)
            · exact TieO.run 9 rfl (.nil (.leaf ⟨rfl, .of rfl rfl⟩))
            · refine TieO.run 2 rfl (.selAnd (v := r3.2.2.2.2.stage.Enabled) 6 75 (fun b => ⟨[(2, .ptr 2 0), (8, .ptr 32 0), (9, .t (tI (maxI s.1 row))), (10, .t (tI row)), (11, .t (tB (s.2.2.1 && (decide (r3.2.1 ≤ r3.1))))), (12, .t (tB s.2.2.2.1)), (15, .t (tI r3.1)), (33, .t (tS enc_Smagnetotop_ReactionStep l)), (34, .t (tI (l.length : Int))), (35, .t (tI i)), (73, .t (tB false)), (81, .t (tB b))], [(2, .box (B_STables t2)), (32, .box (B_Smagnetotop_monitored r3.2.2.2.2))]⟩) rfl ?_ ?_ ?_)
              · exact TieO.run 6 rfl (.nil (.leaf ⟨rfl, .of rfl rfl⟩))
              · exact TieO.run 6 rfl (.nil (.leaf ⟨rfl, .of rfl rfl⟩))
              exact TieO.run 1 rfl (.nil (.leaf ⟨rfl, .of rfl rfl⟩))
            refine TieO.nil (.cond rfl ?_ ?_)
            · exact TieS.seq (.region (.run 2 rfl (.nil (.ret ⟨rfl, rfl⟩))))
            · refine TieS.skip (.seq (.region (.run 2 rfl (.selOr (v := (!r3.2.2.2.2.stage.Enabled)) 7 84 (fun b => ⟨[(2, .ptr 2 0), (8, .ptr 32 0), (9, .t (tI (maxI s.1 row))), (10, .t (tI row)), (11, .t (tB (s.2.2.1 && (decide (r3.2.1 ≤ r3.1))))), (15, .t (tI r3.1)), (33, .t (tS enc_Smagnetotop_ReactionStep l)), (34, .t (tI (l.length : Int))), (35, .t (tI i)), (91, .t (tB b))], [(2, .box (B_STables t2)), (32, .box (B_Smagnetotop_monitored r3.2.2.2.2))]⟩) rfl ?_ ?_ ?_))))
              · exact TieO.run 7 rfl (.nil (.leaf ⟨rfl, .of rfl rfl⟩))
              · exact TieO.run 7 rfl (.nil (.leaf ⟨rfl, .of rfl rfl⟩))
              refine TieO.run 1 rfl (.nil (.seq (.seq (.region ?_))))
              refine TieO.run 1 rfl (.nil (.bind (Q₁ := fun t e σ' => match t with | .inl t => e = .normal ∧ Sub ⟨[(2, .ptr 2 0), (8, .ptr 32 0), (9, .t (tI (maxI s.1 row))), (10, .t (tI row)), (11, .t (tB (s.2.2.1 && (decide (r3.2.1 ≤ r3.1))))), (12, .t (tB (s.2.2.2.1 || (!r3.2.2.2.2.stage.Enabled)))), (15, .t (tI r3.1)), (33, .t (tS enc_Smagnetotop_ReactionStep l)), (34, .t (tI (l.length : Int))), (35, .t (tI i))], [(2, .box (B_STables t2)), (32, .box (B_Smagnetotop_monitored r3.2.2.2.2))]⟩ σ' | .inr t => e = .ret ∧ retT tab σ' [.tmp 4, .tmp 5] = some (((fun r => .tup [.t (tI r.1), .t (tB r.2)]) : (Int × Bool) → T) t)) ?_ ?_))
              · refine TieS.cond rfl ?_ ?_
                · refine TieS.seq (.bind (Q₁ := fun t e σ' => e = .normal ∧ Sub ⟨[(2, .ptr 2 0), (8, .ptr 32 0), (9, .t (tI (maxI s.1 row))), (10, .t (tI row)), (11, .t (tB (s.2.2.1 && (decide (r3.2.1 ≤ r3.1))))), (12, .t (tB (s.2.2.2.1 || (!r3.2.2.2.2.stage.Enabled)))), (15, .t (tI r3.1)), (19, .t (tS enc_SSwitch t.1)), (20, .t (tI t.2)), (33, .t (tS enc_Smagnetotop_ReactionStep l)), (34, .t (tI (l.length : Int))), (35, .t (tI i))], [(2, .box (B_STables t2)), (32, .box (B_Smagnetotop_monitored r3.2.2.2.2))]⟩ σ') ?_ ?_)
                  · refine TieX.pre fun r4 hr4 => TieS.draws 20 (bm 21 0) (bm 21 1048575) ⟨[(2, .ptr 2 0), (8, .ptr 32 0), (9, .t (tI (maxI s.1 row))), (10, .t (tI row)), (11, .t (tB (s.2.2.1 && (decide (r3.2.1 ≤ r3.1))))), (12, .t (tB (s.2.2.2.1 || (!r3.2.2.2.2.stage.Enabled)))), (15, .t (tI r3.1)), (19, .t (tS enc_SSwitch r4.1)), (33, .t (tS enc_Smagnetotop_ReactionStep l)), (34, .t (tI (l.length : Int))), (35, .t (tI i)), (111, .t (tI r4.2))], [(2, .box (B_STables t2)), (32, .box (B_Smagnetotop_monitored r3.2.2.2.2))]⟩ mixed (fun _ _ _ h => by cases h.1) rfl rfl rfl rfl ?_ ?_
                    · refine TieA.have_ (fuel₁ := 6) (l₁ := (bm 21 32767)) (σ₁ := ⟨[(2, .ptr 2 0), (8, .ptr 32 0), (9, .t (tI (maxI s.1 row))), (10, .t (tI row)), (11, .t (tB (s.2.2.1 && (decide (r3.2.1 ≤ r3.1))))), (12, .t (tB (s.2.2.2.1 || (!r3.2.2.2.2.stage.Enabled)))), (15, .t (tI r3.1)), (33, .t (tS enc_Smagnetotop_ReactionStep l)), (34, .t (tI (l.length : Int))), (35, .t (tI i)), (97, .agg [.t (tB r3.2.2.2.2.stage.Enabled), .t (tI r3.2.2.2.2.stage.Cause), .t (tI r3.2.2.2.2.stage.Since)]), (108, .own 108)], [(2, .box (B_STables t2)), (32, .box (B_Smagnetotop_monitored r3.2.2.2.2)), (108, .rs 63 3 ([(⟨r3.2.2.2.2.now, 0, true⟩ : SSwitch), (⟨r3.2.2.2.2.now, 1, false⟩ : SSwitch)] : List SSwitch) enc_SSwitch)]⟩) ?_ fun A_4 => ?_
                      · refine TieA.all [15] (by kernel_rfl) rfl (AllA.cons (σ₁ := ⟨[(2, .ptr 2 0), (8, .ptr 32 0), (9, .t (tI (maxI s.1 row))), (10, .t (tI row)), (11, .t (tB (s.2.2.1 && (decide (r3.2.1 ≤ r3.1))))), (12, .t (tB (s.2.2.2.1 || (!r3.2.2.2.2.stage.Enabled)))), (15, .t (tI r3.1)), (33, .t (tS enc_Smagnetotop_ReactionStep l)), (34, .t (tI (l.length : Int))), (35, .t (tI i)), (109, .tup [.t (tS enc_SSwitch r4.1), .t (tI r4.2)])], [(2, .box (B_STables t2)), (32, .box (B_Smagnetotop_monitored r3.2.2.2.2))]⟩) _ rfl rfl ?_ ?_ ?_)
                        · refine TieO.frz 108 rfl (.withH hr4 (TieO.call _ rfl rfl rfl (tie_stage_Pass (⟨r3.2.2.2.2.stage.Enabled, r3.2.2.2.2.stage.Cause, r3.2.2.2.2.stage.Since⟩ : SStage) ([(⟨r3.2.2.2.2.now, 0, true⟩ : SSwitch), (⟨r3.2.2.2.2.now, 1, false⟩ : SSwitch)] : List SSwitch)) (fun _ => rfl) (TieO.ifH ?_)))
                          exact TieO.nil (TieS.leaf ⟨rfl, .of rfl rfl⟩)
                        · refine TieA.mv 16 rfl (.inl rfl) rfl (by kernel_rfl) rfl (.all [17, 18] (by kernel_rfl) rfl (AllA.run _ rfl rfl rfl ?_ ?_))
                          · refine TieA.mv 19 rfl (.inr rfl) rfl (by kernel_rfl) rfl (.all [18] (by kernel_rfl) rfl (AllA.run _ rfl rfl rfl ?_ ?_))
                            · exact TieA.done (.of rfl rfl)
                            exact AllA.nil
                          refine AllA.run _ rfl rfl rfl ?_ ?_
                          · refine TieA.all [17] (by kernel_rfl) rfl (AllA.run _ rfl rfl rfl ?_ ?_)
                            · exact TieA.mv 19 rfl (.inr rfl) rfl (by kernel_rfl) rfl (.done (.of rfl rfl))
                            exact AllA.nil
                          exact AllA.nil
                        exact AllA.nil
                      refine TieA.have_ (fuel₁ := 7) (l₁ := (bm 21 16383)) (σ₁ := ⟨[(2, .ptr 2 0), (8, .ptr 32 0), (9, .t (tI (maxI s.1 row))), (10, .t (tI row)), (11, .t (tB (s.2.2.1 && (decide (r3.2.1 ≤ r3.1))))), (12, .t (tB (s.2.2.2.1 || (!r3.2.2.2.2.stage.Enabled)))), (15, .t (tI r3.1)), (33, .t (tS enc_Smagnetotop_ReactionStep l)), (34, .t (tI (l.length : Int))), (35, .t (tI i)), (97, .agg [.t (tB r3.2.2.2.2.stage.Enabled), .t (tI r3.2.2.2.2.stage.Cause), .t (tI r3.2.2.2.2.stage.Since)]), (102, .agg [.t (tI r3.2.2.2.2.now), .t (tI 0), .t (tB true)]), (107, .agg [.t (tI r3.2.2.2.2.now), .t (tI 1), .t (tB false)])], [(2, .box (B_STables t2)), (32, .box (B_Smagnetotop_monitored r3.2.2.2.2))]⟩) ?_ fun A_3 => ?_
                      · exact TieA.all [14] (by kernel_rfl) rfl (AllA.runTo _ rfl rfl rfl (.of rfl rfl) A_4 (AllA.nil))
                      refine TieA.have_ (fuel₁ := 8) (l₁ := (bm 21 8191)) (σ₁ := ⟨[(2, .ptr 2 0), (8, .ptr 32 0), (9, .t (tI (maxI s.1 row))), (10, .t (tI row)), (11, .t (tB (s.2.2.1 && (decide (r3.2.1 ≤ r3.1))))), (12, .t (tB (s.2.2.2.1 || (!r3.2.2.2.2.stage.Enabled)))), (15, .t (tI r3.1)), (33, .t (tS enc_Smagnetotop_ReactionStep l)), (34, .t (tI (l.length : Int))), (35, .t (tI i)), (97, .agg [.t (tB r3.2.2.2.2.stage.Enabled), .t (tI r3.2.2.2.2.stage.Cause), .t (tI r3.2.2.2.2.stage.Since)]), (102, .agg [.t (tI r3.2.2.2.2.now), .t (tI 0), .t (tB true)]), (106, .t (tI r3.2.2.2.2.now))], [(2, .box (B_STables t2)), (32, .box (B_Smagnetotop_monitored r3.2.2.2.2))]⟩) ?_ fun A_2 => ?_
                      · exact TieA.all [13] (by kernel_rfl) rfl (AllA.runTo _ rfl rfl rfl (.of rfl rfl) A_3 (AllA.nil))
                      refine TieA.have_ (fuel₁ := 9) (l₁ := (bm 21 4095)) (σ₁ := ⟨[(2, .ptr 2 0), (8, .ptr 32 0), (9, .t (tI (maxI s.1 row))), (10, .t (tI row)), (11, .t (tB (s.2.2.1 && (decide (r3.2.1 ≤ r3.1))))), (12, .t (tB (s.2.2.2.1 || (!r3.2.2.2.2.stage.Enabled)))), (15, .t (tI r3.1)), (33, .t (tS enc_Smagnetotop_ReactionStep l)), (34, .t (tI (l.length : Int))), (35, .t (tI i)), (97, .agg [.t (tB r3.2.2.2.2.stage.Enabled), .t (tI r3.2.2.2.2.stage.Cause), .t (tI r3.2.2.2.2.stage.Since)]), (102, .agg [.t (tI r3.2.2.2.2.now), .t (tI 0), .t (tB true)]), (105, .ptr 32 11)], [(2, .box (B_STables t2)), (32, .box (B_Smagnetotop_monitored r3.2.2.2.2))]⟩) ?_ fun A_1 => ?_
                      · exact TieA.all [12] (by kernel_rfl) rfl (AllA.runTo _ rfl rfl rfl (.of rfl rfl) A_2 (AllA.nil))
                      refine TieA.have_ (fuel₁ := 8) (l₁ := (bm 21 16127)) (σ₁ := ⟨[(2, .ptr 2 0), (8, .ptr 32 0), (9, .t (tI (maxI s.1 row))), (10, .t (tI row)), (11, .t (tB (s.2.2.1 && (decide (r3.2.1 ≤ r3.1))))), (12, .t (tB (s.2.2.2.1 || (!r3.2.2.2.2.stage.Enabled)))), (15, .t (tI r3.1)), (33, .t (tS enc_Smagnetotop_ReactionStep l)), (34, .t (tI (l.length : Int))), (35, .t (tI i)), (97, .agg [.t (tB r3.2.2.2.2.stage.Enabled), .t (tI r3.2.2.2.2.stage.Cause), .t (tI r3.2.2.2.2.stage.Since)]), (101, .t (tI r3.2.2.2.2.now)), (107, .agg [.t (tI r3.2.2.2.2.now), .t (tI 1), .t (tB false)])], [(2, .box (B_STables t2)), (32, .box (B_Smagnetotop_monitored r3.2.2.2.2))]⟩) ?_ fun A_6 => ?_
                      · exact TieA.all [8] (by kernel_rfl) rfl (AllA.runTo _ rfl rfl rfl (.of rfl rfl) A_3 (AllA.nil))
                      refine TieA.have_ (fuel₁ := 9) (l₁ := (bm 21 7935)) (σ₁ := ⟨[(2, .ptr 2 0), (8, .ptr 32 0), (9, .t (tI (maxI s.1 row))), (10, .t (tI row)), (11, .t (tB (s.2.2.1 && (decide (r3.2.1 ≤ r3.1))))), (12, .t (tB (s.2.2.2.1 || (!r3.2.2.2.2.stage.Enabled)))), (15, .t (tI r3.1)), (33, .t (tS enc_Smagnetotop_ReactionStep l)), (34, .t (tI (l.length : Int))), (35, .t (tI i)), (97, .agg [.t (tB r3.2.2.2.2.stage.Enabled), .t (tI r3.2.2.2.2.stage.Cause), .t (tI r3.2.2.2.2.stage.Since)]), (101, .t (tI r3.2.2.2.2.now)), (106, .t (tI r3.2.2.2.2.now))], [(2, .box (B_STables t2)), (32, .box (B_Smagnetotop_monitored r3.2.2.2.2))]⟩) ?_ fun A_5 => ?_
                      · exact TieA.all [8, 13] (by kernel_rfl) rfl (AllA.runTo _ rfl rfl rfl (.of rfl rfl) A_2 (AllA.runTo _ rfl rfl rfl (.of rfl rfl) A_6 (AllA.nil)))
                      refine TieA.have_ (fuel₁ := 10) (l₁ := (bm 21 3839)) (σ₁ := ⟨[(2, .ptr 2 0), (8, .ptr 32 0), (9, .t (tI (maxI s.1 row))), (10, .t (tI row)), (11, .t (tB (s.2.2.1 && (decide (r3.2.1 ≤ r3.1))))), (12, .t (tB (s.2.2.2.1 || (!r3.2.2.2.2.stage.Enabled)))), (15, .t (tI r3.1)), (33, .t (tS enc_Smagnetotop_ReactionStep l)), (34, .t (tI (l.length : Int))), (35, .t (tI i)), (97, .agg [.t (tB r3.2.2.2.2.stage.Enabled), .t (tI r3.2.2.2.2.stage.Cause), .t (tI r3.2.2.2.2.stage.Since)]), (101, .t (tI r3.2.2.2.2.now)), (105, .ptr 32 11)], [(2, .box (B_STables t2)), (32, .box (B_Smagnetotop_monitored r3.2.2.2.2))]⟩) ?_ fun A_0 => ?_
                      · exact TieA.all [8, 12] (by kernel_rfl) rfl (AllA.runTo _ rfl rfl rfl (.of rfl rfl) A_1 (AllA.runTo _ rfl rfl rfl (.of rfl rfl) A_5 (AllA.nil)))
                      refine TieA.have_ (fuel₁ := 9) (l₁ := (bm 21 15999)) (σ₁ := ⟨[(2, .ptr 2 0), (8, .ptr 32 0), (9, .t (tI (maxI s.1 row))), (10, .t (tI row)), (11, .t (tB (s.2.2.1 && (decide (r3.2.1 ≤ r3.1))))), (12, .t (tB (s.2.2.2.1 || (!r3.2.2.2.2.stage.Enabled)))), (15, .t (tI r3.1)), (33, .t (tS enc_Smagnetotop_ReactionStep l)), (34, .t (tI (l.length : Int))), (35, .t (tI i)), (97, .agg [.t (tB r3.2.2.2.2.stage.Enabled), .t (tI r3.2.2.2.2.stage.Cause), .t (tI r3.2.2.2.2.stage.Since)]), (100, .ptr 32 11), (107, .agg [.t (tI r3.2.2.2.2.now), .t (tI 1), .t (tB false)])], [(2, .box (B_STables t2)), (32, .box (B_Smagnetotop_monitored r3.2.2.2.2))]⟩) ?_ fun A_8 => ?_
                      · exact TieA.all [7] (by kernel_rfl) rfl (AllA.runTo _ rfl rfl rfl (.of rfl rfl) A_6 (AllA.nil))
                      refine TieA.have_ (fuel₁ := 10) (l₁ := (bm 21 7807)) (σ₁ := ⟨[(2, .ptr 2 0), (8, .ptr 32 0), (9, .t (tI (maxI s.1 row))), (10, .t (tI row)), (11, .t (tB (s.2.2.1 && (decide (r3.2.1 ≤ r3.1))))), (12, .t (tB (s.2.2.2.1 || (!r3.2.2.2.2.stage.Enabled)))), (15, .t (tI r3.1)), (33, .t (tS enc_Smagnetotop_ReactionStep l)), (34, .t (tI (l.length : Int))), (35, .t (tI i)), (97, .agg [.t (tB r3.2.2.2.2.stage.Enabled), .t (tI r3.2.2.2.2.stage.Cause), .t (tI r3.2.2.2.2.stage.Since)]), (100, .ptr 32 11), (106, .t (tI r3.2.2.2.2.now))], [(2, .box (B_STables t2)), (32, .box (B_Smagnetotop_monitored r3.2.2.2.2))]⟩) ?_ fun A_7 => ?_
                      · exact TieA.all [7, 13] (by kernel_rfl) rfl (AllA.runTo _ rfl rfl rfl (.of rfl rfl) A_5 (AllA.runTo _ rfl rfl rfl (.of rfl rfl) A_8 (AllA.nil)))
                      refine TieA.have_ (fuel₁ := 8) (l₁ := (bm 21 16375)) (σ₁ := ⟨[(2, .ptr 2 0), (8, .ptr 32 0), (9, .t (tI (maxI s.1 row))), (10, .t (tI row)), (11, .t (tB (s.2.2.1 && (decide (r3.2.1 ≤ r3.1))))), (12, .t (tB (s.2.2.2.1 || (!r3.2.2.2.2.stage.Enabled)))), (15, .t (tI r3.1)), (33, .t (tS enc_Smagnetotop_ReactionStep l)), (34, .t (tI (l.length : Int))), (35, .t (tI i)), (96, .ptr 32 8), (102, .agg [.t (tI r3.2.2.2.2.now), .t (tI 0), .t (tB true)]), (107, .agg [.t (tI r3.2.2.2.2.now), .t (tI 1), .t (tB false)])], [(2, .box (B_STables t2)), (32, .box (B_Smagnetotop_monitored r3.2.2.2.2))]⟩) ?_ fun A_10 => ?_
                      · refine TieA.all [3, 14] (by kernel_rfl) rfl (AllA.runTo _ rfl rfl rfl (.of rfl rfl) A_3 (AllA.run _ rfl rfl rfl ?_ ?_))
                        · exact TieA.all [3] (by kernel_rfl) rfl (AllA.runTo _ rfl rfl rfl (.of rfl rfl) A_4 (AllA.nil))
                        exact AllA.nil
                      refine TieA.have_ (fuel₁ := 9) (l₁ := (bm 21 8183)) (σ₁ := ⟨[(2, .ptr 2 0), (8, .ptr 32 0), (9, .t (tI (maxI s.1 row))), (10, .t (tI row)), (11, .t (tB (s.2.2.1 && (decide (r3.2.1 ≤ r3.1))))), (12, .t (tB (s.2.2.2.1 || (!r3.2.2.2.2.stage.Enabled)))), (15, .t (tI r3.1)), (33, .t (tS enc_Smagnetotop_ReactionStep l)), (34, .t (tI (l.length : Int))), (35, .t (tI i)), (96, .ptr 32 8), (102, .agg [.t (tI r3.2.2.2.2.now), .t (tI 0), .t (tB true)]), (106, .t (tI r3.2.2.2.2.now))], [(2, .box (B_STables t2)), (32, .box (B_Smagnetotop_monitored r3.2.2.2.2))]⟩) ?_ fun A_9 => ?_
                      · exact TieA.all [3, 13] (by kernel_rfl) rfl (AllA.runTo _ rfl rfl rfl (.of rfl rfl) A_2 (AllA.runTo _ rfl rfl rfl (.of rfl rfl) A_10 (AllA.nil)))
                      refine TieA.have_ (fuel₁ := 9) (l₁ := (bm 21 16119)) (σ₁ := ⟨[(2, .ptr 2 0), (8, .ptr 32 0), (9, .t (tI (maxI s.1 row))), (10, .t (tI row)), (11, .t (tB (s.2.2.1 && (decide (r3.2.1 ≤ r3.1))))), (12, .t (tB (s.2.2.2.1 || (!r3.2.2.2.2.stage.Enabled)))), (15, .t (tI r3.1)), (33, .t (tS enc_Smagnetotop_ReactionStep l)), (34, .t (tI (l.length : Int))), (35, .t (tI i)), (96, .ptr 32 8), (101, .t (tI r3.2.2.2.2.now)), (107, .agg [.t (tI r3.2.2.2.2.now), .t (tI 1), .t (tB false)])], [(2, .box (B_STables t2)), (32, .box (B_Smagnetotop_monitored r3.2.2.2.2))]⟩) ?_ fun A_12 => ?_
                      · exact TieA.all [3, 8] (by kernel_rfl) rfl (AllA.runTo _ rfl rfl rfl (.of rfl rfl) A_6 (AllA.runTo _ rfl rfl rfl (.of rfl rfl) A_10 (AllA.nil)))
                      refine TieA.have_ (fuel₁ := 10) (l₁ := (bm 21 7927)) (σ₁ := ⟨[(2, .ptr 2 0), (8, .ptr 32 0), (9, .t (tI (maxI s.1 row))), (10, .t (tI row)), (11, .t (tB (s.2.2.1 && (decide (r3.2.1 ≤ r3.1))))), (12, .t (tB (s.2.2.2.1 || (!r3.2.2.2.2.stage.Enabled)))), (15, .t (tI r3.1)), (33, .t (tS enc_Smagnetotop_ReactionStep l)), (34, .t (tI (l.length : Int))), (35, .t (tI i)), (96, .ptr 32 8), (101, .t (tI r3.2.2.2.2.now)), (106, .t (tI r3.2.2.2.2.now))], [(2, .box (B_STables t2)), (32, .box (B_Smagnetotop_monitored r3.2.2.2.2))]⟩) ?_ fun A_11 => ?_
                      · exact TieA.all [3, 8, 13] (by kernel_rfl) rfl (AllA.runTo _ rfl rfl rfl (.of rfl rfl) A_5 (AllA.runTo _ rfl rfl rfl (.of rfl rfl) A_9 (AllA.runTo _ rfl rfl rfl (.of rfl rfl) A_12 (AllA.nil))))
                      refine TieA.mv 0 rfl (.inl rfl) rfl (by kernel_rfl) rfl (.nP 1 rfl rfl rfl (by kernel_rfl) rfl (.fP 2 rfl rfl rfl (by kernel_rfl) rfl rfl rfl (.mv 4 rfl (.inl rfl) rfl (by kernel_rfl) rfl (.nP 5 rfl rfl rfl (by kernel_rfl) rfl ?_))))
                      refine TieA.fP 6 rfl rfl rfl (by kernel_rfl) rfl rfl rfl (.mv 9 rfl (.inl rfl) rfl (by kernel_rfl) rfl (.nP 10 rfl rfl rfl (by kernel_rfl) rfl (.fP 11 rfl rfl rfl (by kernel_rfl) rfl rfl rfl (.all [3, 7, 12] (by kernel_rfl) rfl ?_))))
                      refine AllA.run _ rfl rfl rfl ?_ ?_
                      · exact TieA.all [7, 12] (by kernel_rfl) rfl (AllA.runTo _ rfl rfl rfl (.of rfl rfl) A_0 (AllA.runTo _ rfl rfl rfl (.of rfl rfl) A_7 (AllA.nil)))
                      refine AllA.run _ rfl rfl rfl ?_ ?_
                      · refine TieA.all [3, 8, 12] (by kernel_rfl) rfl (AllA.runTo _ rfl rfl rfl (.of rfl rfl) A_0 (AllA.run _ rfl rfl rfl ?_ ?_))
                        · exact TieA.all [3, 12] (by kernel_rfl) rfl (AllA.runTo _ rfl rfl rfl (.of rfl rfl) A_1 (AllA.runTo _ rfl rfl rfl (.of rfl rfl) A_9 (AllA.nil)))
                        exact AllA.runTo _ rfl rfl rfl (.of rfl rfl) A_11 (AllA.nil)
                      refine AllA.run _ rfl rfl rfl ?_ ?_
                      · refine TieA.all [3, 7, 13] (by kernel_rfl) rfl (AllA.runTo _ rfl rfl rfl (.of rfl rfl) A_7 (AllA.runTo _ rfl rfl rfl (.of rfl rfl) A_11 (AllA.run _ rfl rfl rfl ?_ ?_)))
                        · exact TieA.all [3, 7] (by kernel_rfl) rfl (AllA.runTo _ rfl rfl rfl (.of rfl rfl) A_8 (AllA.runTo _ rfl rfl rfl (.of rfl rfl) A_12 (AllA.nil)))
                        exact AllA.nil
                      exact AllA.nil
                    exact TieO.run 1 rfl (.nil (.leaf ⟨rfl, .of rfl rfl⟩))
                  rintro s2 e σ' _ ⟨rfl, hs⟩
                  refine TieX.sub hs (TieS.seq (.region (.run 3 rfl (.bind 10 (fun b3 => ⟨[(2, .ptr 2 0), (8, .ptr 32 0), (9, .t (tI (maxI s.1 row))), (10, .t (tI row)), (11, .t (tB (s.2.2.1 && (decide (r3.2.1 ≤ r3.1))))), (12, .t (tB (s.2.2.2.1 || (!r3.2.2.2.2.stage.Enabled)))), (15, .t (tI r3.1)), (33, .t (tS enc_Smagnetotop_ReactionStep l)), (34, .t (tI (l.length : Int))), (35, .t (tI i)), (124, .t (tB b3))], [(2, .box (B_STables t2)), (32, .box (B_Smagnetotop_monitored r3.2.2.2.2))]⟩) (TieO.split 114 rfl ?_ ?_) fun b3 _ => ?_))))
                  · exact TieO.run 10 rfl (.nil (.leaf ⟨rfl, .of rfl rfl⟩))
                  · exact TieO.run 7 rfl (.callS _ rfl rfl rfl (tie_slices_Equal_sSwitch s2.1 ([(⟨r3.2.2.2.2.now, 1, false⟩ : SSwitch)] : List SSwitch)) (fun _ => rfl) (fun _ => rfl) fun v2 => .run 2 rfl (.nil (.leaf ⟨rfl, .of rfl rfl⟩)))
                  refine TieO.nil (.cond rfl ?_ ?_)
                  · exact TieS.seq (.region (.run 2 rfl (.nil (.ret ⟨rfl, rfl⟩))))
                  · exact TieS.skip (.leaf ⟨rfl, .of rfl rfl⟩)
                · exact TieS.skip (.leaf ⟨rfl, .of rfl rfl⟩)
              rintro (s3 | r6) e σ' _ hq
              · obtain ⟨rfl, hs⟩ := hq
                refine TieX.sub hs (TieS.seq (.region (.call _ rfl rfl rfl (tie_arbiter_Decide ([] : List SRequest) 0 10000) (fun _ => rfl) fun r5 => .run 6 rfl ?_)))
                refine TieO.nil (.seq (.region (.run 3 rfl (.selOr (v := decide (r5.1.Torque > r3.1)) 5 131 (fun b => ⟨[(2, .ptr 2 0), (8, .ptr 32 0), (9, .t (tI (maxI s.1 row))), (10, .t (tI row)), (11, .t (tB (s.2.2.1 && (decide (r3.2.1 ≤ r3.1))))), (12, .t (tB (s.2.2.2.1 || (!r3.2.2.2.2.stage.Enabled)))), (33, .t (tS enc_Smagnetotop_ReactionStep l)), (34, .t (tI (l.length : Int))), (35, .t (tI i)), (136, .t (tB b))], [(2, .box (B_STables t2)), (32, .box (B_Smagnetotop_monitored r3.2.2.2.2))]⟩) rfl ?_ ?_ ?_))))
                · exact TieO.run 5 rfl (.nil (.leaf ⟨rfl, .of rfl rfl⟩))
                · exact TieO.run 5 rfl (.nil (.leaf ⟨rfl, .of rfl rfl⟩))
                refine TieO.nil (.cond rfl ?_ ?_)
                · exact TieS.seq (.region (.run 2 rfl (.nil (.ret ⟨rfl, rfl⟩))))
                · exact TieS.skip (.endb (.leaf ⟨rfl, .of rfl rfl⟩))
              · obtain ⟨rfl, hs⟩ := hq
                exact TieX.ret ⟨rfl, hs⟩
        rintro (t | t | t) e σ' _ hq
        · obtain ⟨rfl, hs⟩ := hq
          exact TieX.sub hs (TieS.region (.run 2 rfl (.nil (.leaf ⟨rfl, .of rfl rfl⟩))))
        · obtain ⟨rfl, hs⟩ := hq
          exact TieX.exitOut rfl ⟨(fun h => by cases h), rfl, hs⟩
        · obtain ⟨rfl, hs⟩ := hq
          exact TieX.ret ⟨(fun h => by cases h), rfl, hs⟩
      · exact TieS.exitOut rfl ⟨(fun h => by cases h), rfl, .of rfl rfl⟩
    rintro (s4 | r7) e σ' _ hq
    · obtain ⟨rfl, hs⟩ := hq
      refine TieX.exit rfl (TieX.sub hs ?_)
      exact TieS.seq (.region (.run 3 rfl (.nil (.ret ⟨.inl rfl, rfl⟩))))
    · obtain ⟨rfl, hs⟩ := hq
      exact TieX.ret ⟨.inl rfl, hs⟩
set_option maxRecDepth 100000 in
theorem tie_math_bits_Mul (x : Int) (y : Int) : TieF Tryz.prog 14 [.t (tK .u64 x), .t (tK .u64 y)] (math_bits_Mul x y) (fun r => .tup [.t (tK .u64 r.1), .t (tK .u64 r.2)]) := by
  refine TieF.intro htab 30 [.tmp 4, .tmp 5] Tryz.call14 Tryz.func14 rfl rfl rfl (Nat.le_of_ble_eq_true rfl) fun w0 L => ?_
  refine TieS.seq (.region (.run 2 rfl (.nil (.seq ?_))))
  refine TieS.condR rfl (.skip (.seq (.region (.run 2 rfl ?_))))
  refine TieO.call _ rfl rfl rfl (tie_math_bits_Mul64 x y) (fun _ => rfl) fun r2 => .run 5 rfl (.nil (.seq (.region ?_)))
  exact TieO.run 4 rfl (.nil (.ret ⟨.inl rfl, rfl⟩))
set_option maxRecDepth 100000 in
theorem tie_slices_Repeat_smagnetotop_ReactionStep (x : List Smagnetotop_ReactionStep) (count : Int) : TieF Tryz.prog 5 [.t (tS enc_Smagnetotop_ReactionStep x), .t (tI count)] (slices_Repeat_smagnetotop_ReactionStep x count) (fun r => .t (tS enc_Smagnetotop_ReactionStep r)) := by
  refine TieF.intro htab 48 [.tmp 4] Tryz.call5 Tryz.func5 rfl rfl rfl (Nat.le_of_ble_eq_true rfl) fun w0 L => ?_
  refine TieS.seq (.region (.run 1 rfl (.nil (.seq ?_))))
  refine TieS.seq (.region (.run 2 rfl (.nil (.bind (Q₁ := fun t e σ' => e = .normal ∧ Sub ⟨[(0, .t (tS enc_Smagnetotop_ReactionStep x)), (1, .t (tI count))], []⟩ σ') ?_ ?_))))
  · refine TieS.cond rfl ?_ ?_
    · exact TieS.region (.fail)
    · exact TieS.skip (.leaf ⟨rfl, .of rfl rfl⟩)
  rintro s e σ' _ ⟨rfl, hs⟩
  refine TieX.sub hs (TieS.seq (.region (.run 5 rfl (.call _ rfl rfl rfl (tie_math_bits_Mul (IntKind.u64.wrap (x.length : Int)) (IntKind.u64.wrap count)) (fun _ => rfl) fun r2 => ?_))))
  refine TieO.run 5 rfl (.nil (.seq (.seq (.region ?_))))
  refine TieO.run 3 rfl (.selOr (v := decide (r2.2 > 9223372036854775807)) 3 23 (fun b => ⟨[(0, .t (tS enc_Smagnetotop_ReactionStep x)), (6, .t (tK .u64 r2.2)), (26, .t (tB b))], []⟩) rfl ?_ ?_ ?_)
  · exact TieO.run 3 rfl (.nil (.leaf ⟨rfl, .of rfl rfl⟩))
  · exact TieO.run 3 rfl (.nil (.leaf ⟨rfl, .of rfl rfl⟩))
  refine TieO.nil (.bind (Q₁ := fun t e σ' => e = .normal ∧ Sub ⟨[(0, .t (tS enc_Smagnetotop_ReactionStep x)), (6, .t (tK .u64 r2.2))], []⟩ σ') ?_ ?_)
  · refine TieS.cond rfl ?_ ?_
    · exact TieS.region (.fail)
    · exact TieS.skip (.leaf ⟨rfl, .of rfl rfl⟩)
  rintro s2 e σ' _ ⟨rfl, hs⟩
  refine TieX.sub hs (TieS.seq (.region (.run 2 rfl (.makeO (enc := enc_Smagnetotop_ReactionStep) 2240 (⟨0, 0, 0, 0, 0, false, 0⟩ : Smagnetotop_ReactionStep) rfl rfl rfl rfl rfl rfl rfl rfl rfl rfl rfl rfl rfl fun l hl => ?_))))
  refine TieO.run 1 rfl (.nil (.seq (.region (.run 2 rfl ?_))))
  refine TieO.copyO (e2 := 0) (l := l) (r := x) rfl rfl rfl rfl (fun _ => rfl) (fun _ => rfl) rfl rfl (.inl rfl) rfl (.run 1 rfl (.nil (.seq (.block ?_))))
  refine TieS.loop (fun t => ⟨[(7, .own 2240), (8, .t (tI t.1))], [(2240, .rs 39 7 t.2 enc_Smagnetotop_ReactionStep)]⟩) (fun b e σ' => match b with | .inl t => e = .exit 0 ∧ Sub ⟨[(7, .own 2240)], [(2240, .rs 39 7 t.2 enc_Smagnetotop_ReactionStep)]⟩ σ' | .inr t => False) (.of rfl rfl) ?_ ?_
  · intro s3
    refine TieS.seq (.seq (.region (.run 4 rfl (.nil ?_))))
    refine TieS.cond rfl ?_ ?_
    · refine TieS.skip (.block (.bind (Q₁ := fun t e σ' => e = .normal ∧ Sub ⟨[(7, .own 2240), (8, .t (tI t.1))], [(2240, .rs 39 7 t.2 enc_Smagnetotop_ReactionStep)]⟩ σ') ?_ ?_))
      · refine TieX.pre fun u hu => TieX.pre fun u2 hu2 => TieS.draws 8 (bm 10 0) (bm 10 255) ⟨[(7, .own 2240), (8, .t (tI s3.1)), (38, .t (tI s3.1)), (45, .t (tI ((min (Int.toNat s3.1 - Int.toNat 0) (Int.toNat (s3.2.length : Int) - Int.toNat s3.1) : Nat) : Int)))], [(2240, .rs 39 7 (copyVM s3.2 s3.1 (s3.2.length : Int) 0 s3.1) enc_Smagnetotop_ReactionStep)]⟩ mixed (fun _ _ _ h => by cases h.1) rfl rfl rfl rfl ?_ ?_
        · refine TieA.have_ (fuel₁ := 3) (l₁ := (bm 10 127)) (σ₁ := ⟨[(7, .own 2240), (8, .t (tI s3.1)), (38, .t (tI s3.1)), (41, .vw 2240 (Int.toNat s3.1) (Int.toNat (s3.2.length : Int) - Int.toNat s3.1) 7), (44, .vw 2240 (Int.toNat 0) (Int.toNat s3.1 - Int.toNat 0) 7)], [(2240, .rs 39 7 s3.2 enc_Smagnetotop_ReactionStep)]⟩) ?_ fun A_0 => ?_
          · refine TieA.all [7] (by kernel_rfl) rfl (AllA.cons (σ₁ := ⟨[(7, .own 2240), (8, .t (tI s3.1)), (38, .t (tI s3.1)), (45, .t (tI ((min (Int.toNat s3.1 - Int.toNat 0) (Int.toNat (s3.2.length : Int) - Int.toNat s3.1) : Nat) : Int)))], [(2240, .rs 39 7 (copyVM s3.2 s3.1 (s3.2.length : Int) 0 s3.1) enc_Smagnetotop_ReactionStep)]⟩) _ rfl rfl ?_ ?_ ?_)
            · exact TieO.copyV hu hu2 chk_le chk_le rfl rfl rfl rfl (fun _ => rfl) (fun _ => rfl) rfl rfl rfl rfl (.nil (TieS.leaf ⟨rfl, .of rfl rfl⟩))
            · exact TieA.done (.of rfl rfl)
            exact AllA.nil
          refine TieA.mv 0 rfl (.inl rfl) rfl (by kernel_rfl) rfl (.mv 1 rfl (.inl rfl) rfl (by kernel_rfl) rfl (.mv 2 rfl (.inl rfl) rfl (by kernel_rfl) rfl (.mv 4 rfl (.inl rfl) rfl (by kernel_rfl) rfl (.mv 5 rfl (.inl rfl) rfl (by kernel_rfl) rfl ?_))))
          refine TieA.all [3, 6] (by kernel_rfl) rfl (AllA.cons (σ₁ := ⟨[(7, .own 2240), (8, .t (tI s3.1)), (38, .t (tI s3.1)), (41, .vw 2240 (Int.toNat s3.1) (Int.toNat (s3.2.length : Int) - Int.toNat s3.1) 7), (42, .own 2240), (43, .t (tI s3.1))], [(2240, .rs 39 7 s3.2 enc_Smagnetotop_ReactionStep)]⟩) _ rfl rfl ?_ ?_ ?_)
          · refine TieO.withH hu (TieO.viewO rfl rfl rfl rfl rfl rfl rfl rfl rfl rfl rfl (TieO.ifG ?_))
            exact TieO.nil (TieS.leaf ⟨rfl, .of rfl rfl⟩)
          · refine TieA.all [6] (by kernel_rfl) rfl (AllA.cons _ rfl rfl ?_ A_0 ?_)
            · refine TieO.withH hu2 (TieO.viewO rfl rfl rfl rfl rfl rfl rfl rfl rfl rfl rfl (TieO.ifG ?_))
              exact TieO.nil (TieS.leaf ⟨rfl, .of rfl rfl⟩)
            exact AllA.nil
          refine AllA.cons (σ₁ := ⟨[(7, .own 2240), (8, .t (tI s3.1)), (38, .t (tI s3.1)), (39, .own 2240), (40, .t (tI s3.1)), (44, .vw 2240 (Int.toNat 0) (Int.toNat s3.1 - Int.toNat 0) 7)], [(2240, .rs 39 7 s3.2 enc_Smagnetotop_ReactionStep)]⟩) _ rfl rfl ?_ ?_ ?_
          · refine TieO.withH hu2 (TieO.viewO rfl rfl rfl rfl rfl rfl rfl rfl rfl rfl rfl (TieO.ifG ?_))
            exact TieO.nil (TieS.leaf ⟨rfl, .of rfl rfl⟩)
          · refine TieA.all [3] (by kernel_rfl) rfl (AllA.cons _ rfl rfl ?_ A_0 ?_)
            · refine TieO.withH hu (TieO.viewO rfl rfl rfl rfl rfl rfl rfl rfl rfl rfl rfl (TieO.ifG ?_))
              exact TieO.nil (TieS.leaf ⟨rfl, .of rfl rfl⟩)
            exact AllA.nil
          exact AllA.nil
        exact TieO.run 2 rfl (.nil (.leaf ⟨rfl, .of rfl rfl⟩))
      rintro s4 e σ' _ ⟨rfl, hs⟩
      exact TieX.sub hs (TieS.endb (.leaf ⟨rfl, .of rfl rfl⟩))
    · exact TieS.exitOut rfl ⟨(fun h => by cases h), rfl, .of rfl rfl⟩
  rintro (s5 | r) e σ' _ hq
  · obtain ⟨rfl, hs⟩ := hq
    refine TieX.exit rfl (TieX.sub hs ?_)
    exact TieS.seq (.region (.run 2 rfl (.nil (.ret ⟨.inl rfl, rfl⟩))))
  · exact hq.elim
abbrev x3_0 : List T := [.t (.v (.slice none 0 0)), .t (.v (.slice none 0 0)), .t (.v (.slice none 0 0)), .t (.v (.slice none 0 0)), .t (.v (.slice none 0 0)), .t (.v (.slice none 0 0)), .own 18, .own 19, .own 22, .own 12, .own 13, .own 16, .t (.v (.slice none 0 0)), .t (.v (.slice none 0 0)), .t (.v (.slice none 0 0)), .t (.v (.slice none 0 0)), .t (.v (.slice none 0 0)), .t (.v (.slice none 0 0)), .own 24, .own 25, .t (tI 0), .t (tI 0), .t (tI 0), .t (tI 0)]
set_option maxRecDepth 100000 in
theorem tie_magnetotop_TopReaction (t2 : STables) (l : List Smagnetotop_ReactionStep) : TieF Tryz.prog 3 [A_STables t2, .t (tS enc_Smagnetotop_ReactionStep l)] (magnetotop_TopReaction t2 l) (fun r => .t (tB r)) := by
  refine TieF.intro htab 68 [.tmp 4] Tryz.call3 Tryz.func3 rfl rfl rfl (Nat.le_of_ble_eq_true rfl) fun w0 L => ?_
  refine TieS.seq (.region (.run 2 rfl (.nil (.seq ?_))))
  refine TieS.region (.run 4 rfl (.frz 14 rfl (.frz 15 rfl (.run 1 rfl ?_))))
  refine TieO.run 5 rfl (.frz 20 rfl (.frz 21 rfl (.run 1 rfl (.run 7 rfl ?_))))
  refine TieO.nil (.seq (.seq (.bind (Q₁ := fun t e σ' => e = .normal ∧ Sub ⟨[(1, .t (tS enc_Smagnetotop_ReactionStep l)), (2, .ptr 2 0), (6, .t (tI t.1)), (7, .t (tB t.2))], [(2, .box (B_STables t2))]⟩ σ') ?_ ?_)))
  · refine TieX.pre fun v hv => TieX.pre fun r2 hr2 => TieS.draws 9 (bm 10 0) (bm 10 511) ⟨[(1, .t (tS enc_Smagnetotop_ReactionStep l)), (2, .ptr 2 0), (6, .t (tI r2.1)), (35, .t (tB r2.2))], [(2, .box (B_STables t2)), (5, .box x3_0), (12, .rs 3 1 ([0, 1] : List Int) Pv.encI), (13, .rs 3 1 ([0, 1] : List Int) Pv.encI), (16, .rs 22 1 ([([0, 0] : List Int), ([0, 0] : List Int)] : List (List Int)) (Pv.encS Pv.encI)), (18, .rs 3 1 ([0, 1] : List Int) Pv.encI), (19, .rs 3 1 ([0, 1] : List Int) Pv.encI), (22, .rs 22 1 ([([900, 900] : List Int), ([900, 900] : List Int)] : List (List Int)) (Pv.encS Pv.encI)), (24, .rs 3 1 ([0, 1] : List Int) Pv.encI), (25, .rs 3 1 ([1000, 1000] : List Int) Pv.encI)]⟩ mixed (fun _ _ _ h => by cases h.1) rfl rfl rfl rfl ?_ ?_
    · refine TieA.have_ (fuel₁ := 6) (l₁ := (bm 10 15)) (σ₁ := ⟨[(1, .t (tS enc_Smagnetotop_ReactionStep l)), (2, .ptr 2 0), (29, .agg [.t (.v (.slice none 0 0)), .t (.v (.slice none 0 0)), .t (.v (.slice none 0 0)), .t (.v (.slice none 0 0)), .t (.v (.slice none 0 0)), .t (.v (.slice none 0 0)), .own 18, .own 19, .own 22, .own 12, .own 13, .own 16, .t (.v (.slice none 0 0)), .t (.v (.slice none 0 0)), .t (.v (.slice none 0 0)), .t (.v (.slice none 0 0)), .t (.v (.slice none 0 0)), .t (.v (.slice none 0 0)), .own 24, .own 25, .t (tI 0), .t (tI 0), .t (tI 0), .t (tI 0)]), (32, .t (tS enc_Smagnetotop_ReactionStep v))], [(2, .box (B_STables t2)), (5, .box x3_0), (12, .rs 3 1 ([0, 1] : List Int) Pv.encI), (13, .rs 3 1 ([0, 1] : List Int) Pv.encI), (16, .rs 22 1 ([([0, 0] : List Int), ([0, 0] : List Int)] : List (List Int)) (Pv.encS Pv.encI)), (18, .rs 3 1 ([0, 1] : List Int) Pv.encI), (19, .rs 3 1 ([0, 1] : List Int) Pv.encI), (22, .rs 22 1 ([([900, 900] : List Int), ([900, 900] : List Int)] : List (List Int)) (Pv.encS Pv.encI)), (24, .rs 3 1 ([0, 1] : List Int) Pv.encI), (25, .rs 3 1 ([1000, 1000] : List Int) Pv.encI)]⟩) ?_ fun A_2 => ?_
      · refine TieA.all [4] (by kernel_rfl) rfl (AllA.cons (σ₁ := ⟨[(1, .t (tS enc_Smagnetotop_ReactionStep l)), (2, .ptr 2 0), (33, .tup [.t (tI r2.1), .t (tB r2.2)])], [(2, .box (B_STables t2)), (5, .box x3_0), (12, .rs 3 1 ([0, 1] : List Int) Pv.encI), (13, .rs 3 1 ([0, 1] : List Int) Pv.encI), (16, .rs 22 1 ([([0, 0] : List Int), ([0, 0] : List Int)] : List (List Int)) (Pv.encS Pv.encI)), (18, .rs 3 1 ([0, 1] : List Int) Pv.encI), (19, .rs 3 1 ([0, 1] : List Int) Pv.encI), (22, .rs 22 1 ([([900, 900] : List Int), ([900, 900] : List Int)] : List (List Int)) (Pv.encS Pv.encI)), (24, .rs 3 1 ([0, 1] : List Int) Pv.encI), (25, .rs 3 1 ([1000, 1000] : List Int) Pv.encI)]⟩) _ rfl rfl ?_ ?_ ?_)
        · refine TieO.withH hr2 (TieO.callS _ rfl rfl rfl (tie_magnetotop_reactionOver (⟨(⟨([] : List Int), ([] : List Int), ([] : List (List Int))⟩ : SMap), (⟨([] : List Int), ([] : List Int), ([] : List (List Int))⟩ : SMap), (⟨([0, 1] : List Int), ([0, 1] : List Int), ([([900, 900] : List Int), ([900, 900] : List Int)] : List (List Int))⟩ : SMap), (⟨([0, 1] : List Int), ([0, 1] : List Int), ([([0, 0] : List Int), ([0, 0] : List Int)] : List (List Int))⟩ : SMap), (⟨([] : List Int), ([] : List Int)⟩ : SCurve), (⟨([] : List Int), ([] : List Int)⟩ : SCurve), (⟨([] : List Int), ([] : List Int)⟩ : SCurve), (⟨([0, 1] : List Int), ([1000, 1000] : List Int)⟩ : SCurve), (⟨0, 0, 0, 0⟩ : SGain)⟩ : STables) v) (fun _ => rfl) (fun _ => rfl) (TieO.ifH ?_))
          exact TieO.nil (TieS.leaf ⟨rfl, .of rfl rfl⟩)
        · refine TieA.mv 5 rfl (.inl rfl) rfl (by kernel_rfl) rfl (.all [6, 7] (by kernel_rfl) rfl (AllA.run _ rfl rfl rfl ?_ ?_))
          · refine TieA.mv 8 rfl (.inr rfl) rfl (by kernel_rfl) rfl (.all [7] (by kernel_rfl) rfl (AllA.run _ rfl rfl rfl ?_ ?_))
            · exact TieA.done (.of rfl rfl)
            exact AllA.nil
          refine AllA.run _ rfl rfl rfl ?_ ?_
          · refine TieA.all [6] (by kernel_rfl) rfl (AllA.run _ rfl rfl rfl ?_ ?_)
            · exact TieA.mv 8 rfl (.inr rfl) rfl (by kernel_rfl) rfl (.done (.of rfl rfl))
            exact AllA.nil
          exact AllA.nil
        exact AllA.nil
      refine TieA.have_ (fuel₁ := 7) (l₁ := (bm 10 7)) (σ₁ := ⟨[(1, .t (tS enc_Smagnetotop_ReactionStep l)), (2, .ptr 2 0), (29, .agg [.t (.v (.slice none 0 0)), .t (.v (.slice none 0 0)), .t (.v (.slice none 0 0)), .t (.v (.slice none 0 0)), .t (.v (.slice none 0 0)), .t (.v (.slice none 0 0)), .own 18, .own 19, .own 22, .own 12, .own 13, .own 16, .t (.v (.slice none 0 0)), .t (.v (.slice none 0 0)), .t (.v (.slice none 0 0)), .t (.v (.slice none 0 0)), .t (.v (.slice none 0 0)), .t (.v (.slice none 0 0)), .own 24, .own 25, .t (tI 0), .t (tI 0), .t (tI 0), .t (tI 0)]), (31, .own 31)], [(2, .box (B_STables t2)), (5, .box x3_0), (12, .rs 3 1 ([0, 1] : List Int) Pv.encI), (13, .rs 3 1 ([0, 1] : List Int) Pv.encI), (16, .rs 22 1 ([([0, 0] : List Int), ([0, 0] : List Int)] : List (List Int)) (Pv.encS Pv.encI)), (18, .rs 3 1 ([0, 1] : List Int) Pv.encI), (19, .rs 3 1 ([0, 1] : List Int) Pv.encI), (22, .rs 22 1 ([([900, 900] : List Int), ([900, 900] : List Int)] : List (List Int)) (Pv.encS Pv.encI)), (24, .rs 3 1 ([0, 1] : List Int) Pv.encI), (25, .rs 3 1 ([1000, 1000] : List Int) Pv.encI), (31, .rs 39 7 ([(⟨0, 0, 0, 0, 15, false, 0⟩ : Smagnetotop_ReactionStep)] : List Smagnetotop_ReactionStep) enc_Smagnetotop_ReactionStep)]⟩) ?_ fun A_1 => ?_
      · refine TieA.all [3] (by kernel_rfl) rfl (AllA.cons _ rfl rfl ?_ A_2 ?_)
        · refine TieO.frz 31 rfl (.withH hv (TieO.call _ rfl rfl rfl (tie_slices_Repeat_smagnetotop_ReactionStep ([(⟨0, 0, 0, 0, 15, false, 0⟩ : Smagnetotop_ReactionStep)] : List Smagnetotop_ReactionStep) 6) (fun _ => rfl) (TieO.ifH ?_)))
          exact TieO.nil (TieS.leaf ⟨rfl, .of rfl rfl⟩)
        exact AllA.nil
      refine TieA.have_ (fuel₁ := 8) (l₁ := (bm 10 3)) (σ₁ := ⟨[(1, .t (tS enc_Smagnetotop_ReactionStep l)), (2, .ptr 2 0), (29, .agg [.t (.v (.slice none 0 0)), .t (.v (.slice none 0 0)), .t (.v (.slice none 0 0)), .t (.v (.slice none 0 0)), .t (.v (.slice none 0 0)), .t (.v (.slice none 0 0)), .own 18, .own 19, .own 22, .own 12, .own 13, .own 16, .t (.v (.slice none 0 0)), .t (.v (.slice none 0 0)), .t (.v (.slice none 0 0)), .t (.v (.slice none 0 0)), .t (.v (.slice none 0 0)), .t (.v (.slice none 0 0)), .own 24, .own 25, .t (tI 0), .t (tI 0), .t (tI 0), .t (tI 0)]), (30, .agg [.t (tK .u16 0), .t (tK .u16 0), .t (tK .u16 0), .t (tK .u16 0), .t (tK .u8 15), .t (tB false), .t (tK .i16 0)])], [(2, .box (B_STables t2)), (5, .box x3_0), (12, .rs 3 1 ([0, 1] : List Int) Pv.encI), (13, .rs 3 1 ([0, 1] : List Int) Pv.encI), (16, .rs 22 1 ([([0, 0] : List Int), ([0, 0] : List Int)] : List (List Int)) (Pv.encS Pv.encI)), (18, .rs 3 1 ([0, 1] : List Int) Pv.encI), (19, .rs 3 1 ([0, 1] : List Int) Pv.encI), (22, .rs 22 1 ([([900, 900] : List Int), ([900, 900] : List Int)] : List (List Int)) (Pv.encS Pv.encI)), (24, .rs 3 1 ([0, 1] : List Int) Pv.encI), (25, .rs 3 1 ([1000, 1000] : List Int) Pv.encI)]⟩) ?_ fun A_0 => ?_
      · exact TieA.all [2] (by kernel_rfl) rfl (AllA.runTo _ rfl rfl rfl (.of rfl rfl) A_1 (AllA.nil))
      refine TieA.all [0, 1] (by kernel_rfl) rfl (AllA.run _ rfl rfl rfl ?_ ?_)
      · exact TieA.all [1] (by kernel_rfl) rfl (AllA.runTo _ rfl rfl rfl (.of rfl rfl) A_0 (AllA.nil))
      refine AllA.run _ rfl rfl rfl ?_ ?_
      · refine TieA.all [0, 2] (by kernel_rfl) rfl (AllA.runTo _ rfl rfl rfl (.of rfl rfl) A_0 (AllA.run _ rfl rfl rfl ?_ ?_))
        · refine TieA.all [0, 3] (by kernel_rfl) rfl (AllA.runTo _ rfl rfl rfl (.of rfl rfl) A_1 (AllA.cons (σ₁ := ⟨[(1, .t (tS enc_Smagnetotop_ReactionStep l)), (2, .ptr 2 0), (5, .ptr 5 0), (32, .t (tS enc_Smagnetotop_ReactionStep v))], [(2, .box (B_STables t2)), (5, .box x3_0), (12, .rs 3 1 ([0, 1] : List Int) Pv.encI), (13, .rs 3 1 ([0, 1] : List Int) Pv.encI), (16, .rs 22 1 ([([0, 0] : List Int), ([0, 0] : List Int)] : List (List Int)) (Pv.encS Pv.encI)), (18, .rs 3 1 ([0, 1] : List Int) Pv.encI), (19, .rs 3 1 ([0, 1] : List Int) Pv.encI), (22, .rs 22 1 ([([900, 900] : List Int), ([900, 900] : List Int)] : List (List Int)) (Pv.encS Pv.encI)), (24, .rs 3 1 ([0, 1] : List Int) Pv.encI), (25, .rs 3 1 ([1000, 1000] : List Int) Pv.encI)]⟩) _ rfl rfl ?_ ?_ ?_))
          · refine TieO.frz 31 rfl (.withH hv (TieO.call _ rfl rfl rfl (tie_slices_Repeat_smagnetotop_ReactionStep ([(⟨0, 0, 0, 0, 15, false, 0⟩ : Smagnetotop_ReactionStep)] : List Smagnetotop_ReactionStep) 6) (fun _ => rfl) (TieO.ifH ?_)))
            exact TieO.nil (TieS.leaf ⟨rfl, .of rfl rfl⟩)
          · exact TieA.all [0] (by kernel_rfl) rfl (AllA.runTo _ rfl rfl rfl (.of rfl rfl) A_2 (AllA.nil))
          exact AllA.nil
        exact AllA.nil
      exact AllA.nil
    exact TieO.run 1 rfl (.nil (.leaf ⟨rfl, .of rfl rfl⟩))
  rintro s e σ' _ ⟨rfl, hs⟩
  refine TieX.sub hs (TieS.seq (.region (.run 3 rfl (.selOr (v := (s.1 != 4)) 3 38 (fun b => ⟨[(1, .t (tS enc_Smagnetotop_ReactionStep l)), (2, .ptr 2 0), (41, .t (tB b))], [(2, .box (B_STables t2))]⟩) rfl ?_ ?_ ?_))))
  · exact TieO.run 3 rfl (.nil (.leaf ⟨rfl, .of rfl rfl⟩))
  · exact TieO.run 3 rfl (.nil (.leaf ⟨rfl, .of rfl rfl⟩))
  refine TieO.nil (.cond rfl ?_ ?_)
  · exact TieS.seq (.region (.run 1 rfl (.nil (.ret ⟨.inl rfl, rfl⟩))))
  · refine TieS.skip (.seq (.seq (.region (.run 4 rfl ?_))))
    refine TieO.bind 4 (fun b2 => ⟨[(1, .t (tS enc_Smagnetotop_ReactionStep l)), (2, .ptr 2 0), (49, .t (tB b2))], [(2, .box (B_STables t2))]⟩) (TieO.split 45 rfl ?_ ?_) fun b2 _ => ?_
    · exact TieO.run 4 rfl (.nil (.leaf ⟨rfl, .of rfl rfl⟩))
    · exact TieO.run 1 rfl (.call _ rfl rfl rfl (tie_torque_Valid t2) (fun _ => rfl) fun v2 => .run 2 rfl (.nil (.leaf ⟨rfl, .of rfl rfl⟩)))
    refine TieO.nil (.cond rfl ?_ ?_)
    · exact TieS.seq (.region (.run 1 rfl (.nil (.ret ⟨.inl rfl, rfl⟩))))
    · refine TieS.skip (.seq (.seq (.region (.run 1 rfl ?_))))
      refine TieO.call _ rfl rfl rfl (tie_monitor_Permitted t2 0 0 ([] : List SRequest)) (fun _ => rfl) fun r3 => .run 5 rfl (.nil (.seq (.region ?_)))
      refine TieO.run 2 rfl (.nil (.cond rfl ?_ ?_))
      · exact TieS.seq (.region (.run 1 rfl (.nil (.ret ⟨.inl rfl, rfl⟩))))
      · refine TieS.skip (.seq (.region (.run 2 rfl (.call _ rfl rfl rfl (tie_magnetotop_reactionOver t2 l) (fun _ => rfl) fun r4 => ?_))))
        refine TieO.run 5 rfl (.nil (.seq (.region (.run 2 rfl ?_))))
        refine TieO.selAnd (v := decide (r4.1 ≤ 4)) 3 64 (fun b => ⟨[(67, .t (tB b))], []⟩) rfl ?_ ?_ ?_
        · exact TieO.run 3 rfl (.nil (.leaf ⟨rfl, .of rfl rfl⟩))
        · exact TieO.run 3 rfl (.nil (.leaf ⟨rfl, .of rfl rfl⟩))
        exact TieO.run 1 rfl (.nil (.ret ⟨.inl rfl, rfl⟩))
end Go.Proofs.YtjgoihfcmpjimaaGreat
namespace Go.Pv
open Go
structure wf_SMap (x : SMap) : Prop where
  X : (wfL (fun n => (Lit.int .i64 n).wf = true)) x.X
  Y : (wfL (fun n => (Lit.int .i64 n).wf = true)) x.Y
  Z : (wfL (wfL (fun n => (Lit.int .i64 n).wf = true))) x.Z
structure wf_SCurve (x : SCurve) : Prop where
  X : (wfL (fun n => (Lit.int .i64 n).wf = true)) x.X
  Y : (wfL (fun n => (Lit.int .i64 n).wf = true)) x.Y
structure wf_SGain (x : SGain) : Prop where
  P : (fun n => (Lit.int .i64 n).wf = true) x.P
  I : (fun n => (Lit.int .i64 n).wf = true) x.I
  Low : (fun n => (Lit.int .i64 n).wf = true) x.Low
  High : (fun n => (Lit.int .i64 n).wf = true) x.High
structure wf_STables (x : STables) : Prop where
  Air : wf_SMap x.Air
  Spark : wf_SMap x.Spark
  Torque : wf_SMap x.Torque
  Wish : wf_SMap x.Wish
  AirTemp : wf_SCurve x.AirTemp
  Dwell : wf_SCurve x.Dwell
  Dead : wf_SCurve x.Dead
  Efficiency : wf_SCurve x.Efficiency
  Idle : wf_SGain x.Idle
structure wf_Smagnetotop_ReactionStep (x : Smagnetotop_ReactionStep) : Prop where
  Pedal : (fun n => (Lit.int .u16 n).wf = true) x.Pedal
  Speed : (fun n => (Lit.int .u16 n).wf = true) x.Speed
  Charge : (fun n => (Lit.int .u16 n).wf = true) x.Charge
  Late : (fun n => (Lit.int .u16 n).wf = true) x.Late
  Fires : (fun n => (Lit.int .u8 n).wf = true) x.Fires
  Limited : (fun _ => True) x.Limited
  Limit : (fun n => (Lit.int .i16 n).wf = true) x.Limit
end Go.Pv
namespace Go.Proofs.YtjgoihfcmpjimaaGreat
open Go Go.Pv Go.Proofs
theorem reads_3 : Reads Tryz.prog 3 Pv.encI (fun n => (Lit.int .i64 n).wf = true) := reads_int Tryz.underlying3 (fun _ => rfl)
theorem reads_22 : Reads Tryz.prog 22 (Pv.encS Pv.encI) (wfL (fun n => (Lit.int .i64 n).wf = true)) := reads_slice (sz := 1) Tryz.underlying22 reads_3 (by kernel_rfl) (by decide) (fun _ => rfl)
theorem reads_23 : Reads Tryz.prog 23 (Pv.encS (Pv.encS Pv.encI)) (wfL (wfL (fun n => (Lit.int .i64 n).wf = true))) := reads_slice (sz := 1) Tryz.underlying23 reads_22 (by kernel_rfl) (by decide) (fun _ => rfl)
theorem reads_25 : Reads Tryz.prog 25 enc_SMap wf_SMap := by
  intro H e w fuel cs x h
  obtain ⟨xs, n, _, rfl, hl, hlen, hf⟩ := DataW.trod_struct Tryz.underlying25 h
  obtain ⟨y0, w0, r0⟩ := field_of hlen hf 0 rfl reads_22
  obtain ⟨y1, w1, r1⟩ := field_of hlen hf 1 rfl reads_22
  obtain ⟨y2, w2, r2⟩ := field_of hlen hf 2 rfl reads_23
  exact ⟨⟨y0, y1, y2⟩, ⟨w0, w1, w2⟩, rtl_cons (o := 0) (o' := 1) r0 (by kernel_rfl) (rtl_cons (o := 1) (o' := 2) r1 (by kernel_rfl) (rtl_cons (o := 2) (o' := 3) r2 (by kernel_rfl) (rtl_nil (hl.trans (by kernel_rfl)))))⟩
theorem reads_27 : Reads Tryz.prog 27 enc_SCurve wf_SCurve := by
  intro H e w fuel cs x h
  obtain ⟨xs, n, _, rfl, hl, hlen, hf⟩ := DataW.trod_struct Tryz.underlying27 h
  obtain ⟨y0, w0, r0⟩ := field_of hlen hf 0 rfl reads_22
  obtain ⟨y1, w1, r1⟩ := field_of hlen hf 1 rfl reads_22
  exact ⟨⟨y0, y1⟩, ⟨w0, w1⟩, rtl_cons (o := 0) (o' := 1) r0 (by kernel_rfl) (rtl_cons (o := 1) (o' := 2) r1 (by kernel_rfl) (rtl_nil (hl.trans (by kernel_rfl))))⟩
theorem reads_29 : Reads Tryz.prog 29 enc_SGain wf_SGain := by
  intro H e w fuel cs x h
  obtain ⟨xs, n, _, rfl, hl, hlen, hf⟩ := DataW.trod_struct Tryz.underlying29 h
  obtain ⟨y0, w0, r0⟩ := field_of hlen hf 0 rfl reads_3
  obtain ⟨y1, w1, r1⟩ := field_of hlen hf 1 rfl reads_3
  obtain ⟨y2, w2, r2⟩ := field_of hlen hf 2 rfl reads_3
  obtain ⟨y3, w3, r3⟩ := field_of hlen hf 3 rfl reads_3
  exact ⟨⟨y0, y1, y2, y3⟩, ⟨w0, w1, w2, w3⟩, rtl_cons (o := 0) (o' := 1) r0 (by kernel_rfl) (rtl_cons (o := 1) (o' := 2) r1 (by kernel_rfl) (rtl_cons (o := 2) (o' := 3) r2 (by kernel_rfl) (rtl_cons (o := 3) (o' := 4) r3 (by kernel_rfl) (rtl_nil (hl.trans (by kernel_rfl))))))⟩
theorem reads_31 : Reads Tryz.prog 31 enc_STables wf_STables := by
  intro H e w fuel cs x h
  obtain ⟨xs, n, _, rfl, hl, hlen, hf⟩ := DataW.trod_struct Tryz.underlying31 h
  obtain ⟨y0, w0, r0⟩ := field_of hlen hf 0 rfl reads_25
  obtain ⟨y1, w1, r1⟩ := field_of hlen hf 1 rfl reads_25
  obtain ⟨y2, w2, r2⟩ := field_of hlen hf 2 rfl reads_25
  obtain ⟨y3, w3, r3⟩ := field_of hlen hf 3 rfl reads_25
  obtain ⟨y4, w4, r4⟩ := field_of hlen hf 4 rfl reads_27
  obtain ⟨y5, w5, r5⟩ := field_of hlen hf 5 rfl reads_27
  obtain ⟨y6, w6, r6⟩ := field_of hlen hf 6 rfl reads_27
  obtain ⟨y7, w7, r7⟩ := field_of hlen hf 7 rfl reads_27
  obtain ⟨y8, w8, r8⟩ := field_of hlen hf 8 rfl reads_29
  exact ⟨⟨y0, y1, y2, y3, y4, y5, y6, y7, y8⟩, ⟨w0, w1, w2, w3, w4, w5, w6, w7, w8⟩, rtl_cons (o := 0) (o' := 3) r0 (by kernel_rfl) (rtl_cons (o := 3) (o' := 6) r1 (by kernel_rfl) (rtl_cons (o := 6) (o' := 9) r2 (by kernel_rfl) (rtl_cons (o := 9) (o' := 12) r3 (by kernel_rfl) (rtl_cons (o := 12) (o' := 14) r4 (by kernel_rfl) (rtl_cons (o := 14) (o' := 16) r5 (by kernel_rfl) (rtl_cons (o := 16) (o' := 18) r6 (by kernel_rfl) (rtl_cons (o := 18) (o' := 20) r7 (by kernel_rfl) (rtl_cons (o := 20) (o' := 24) r8 (by kernel_rfl) (rtl_nil (hl.trans (by kernel_rfl)))))))))))⟩
theorem arg_31 : ArgOk Tryz.prog 31 (fun x => A_STables x) wf_STables := arg_struct Tryz.underlying31 reads_31 (fun _ => rfl)
theorem reads_36 : Reads Tryz.prog 36 enc_u16 (fun n => (Lit.int .u16 n).wf = true) := reads_int Tryz.underlying36 (fun _ => rfl)
theorem reads_5 : Reads Tryz.prog 5 enc_u8 (fun n => (Lit.int .u8 n).wf = true) := reads_int Tryz.underlying5 (fun _ => rfl)
theorem reads_4 : Reads Tryz.prog 4 Pv.encB (fun _ => True) := reads_bool Tryz.underlying4 (fun _ => rfl)
theorem reads_37 : Reads Tryz.prog 37 enc_i16 (fun n => (Lit.int .i16 n).wf = true) := reads_int Tryz.underlying37 (fun _ => rfl)
theorem reads_39 : Reads Tryz.prog 39 enc_Smagnetotop_ReactionStep wf_Smagnetotop_ReactionStep := by
  intro H e w fuel cs x h
  obtain ⟨xs, n, _, rfl, hl, hlen, hf⟩ := DataW.trod_struct Tryz.underlying39 h
  obtain ⟨y0, w0, r0⟩ := field_of hlen hf 0 rfl reads_36
  obtain ⟨y1, w1, r1⟩ := field_of hlen hf 1 rfl reads_36
  obtain ⟨y2, w2, r2⟩ := field_of hlen hf 2 rfl reads_36
  obtain ⟨y3, w3, r3⟩ := field_of hlen hf 3 rfl reads_36
  obtain ⟨y4, w4, r4⟩ := field_of hlen hf 4 rfl reads_5
  obtain ⟨y5, w5, r5⟩ := field_of hlen hf 5 rfl reads_4
  obtain ⟨y6, w6, r6⟩ := field_of hlen hf 6 rfl reads_37
  exact ⟨⟨y0, y1, y2, y3, y4, y5, y6⟩, ⟨w0, w1, w2, w3, w4, w5, w6⟩, rtl_cons (o := 0) (o' := 1) r0 (by kernel_rfl) (rtl_cons (o := 1) (o' := 2) r1 (by kernel_rfl) (rtl_cons (o := 2) (o' := 3) r2 (by kernel_rfl) (rtl_cons (o := 3) (o' := 4) r3 (by kernel_rfl) (rtl_cons (o := 4) (o' := 5) r4 (by kernel_rfl) (rtl_cons (o := 5) (o' := 6) r5 (by kernel_rfl) (rtl_cons (o := 6) (o' := 7) r6 (by kernel_rfl) (rtl_nil (hl.trans (by kernel_rfl)))))))))⟩
theorem reads_32 : Reads Tryz.prog 32 (Pv.encS enc_Smagnetotop_ReactionStep) (wfL wf_Smagnetotop_ReactionStep) := reads_slice (sz := 7) Tryz.underlying32 reads_39 (by kernel_rfl) (by decide) (fun _ => rfl)
theorem arg_32 : ArgOk Tryz.prog 32 (fun x => .t (tS enc_Smagnetotop_ReactionStep x)) (wfL wf_Smagnetotop_ReactionStep) := arg_slice Tryz.underlying32 reads_32 (fun _ => rfl)
end Go.Proofs.YtjgoihfcmpjimaaGreat
namespace Go.Pv
open Go.RowKit
theorem stepsN_inv {S R : Type} (f : Int → S → Option (Fl S R)) (I : Nat → S → Prop) : ∀ (k i : Nat) (s : S), I i s → (∀ j, i ≤ j → j < i + k → ∀ s, I j s → ∃ s', f (j : Int) s = some (.next s') ∧ I (j + 1) s') → ∃ s', stepsN f k (i : Int) s = some (.inl s') ∧ I (i + k) s'
  | 0, i, s, h, _ => ⟨s, rfl, h⟩
  | k + 1, i, s, h, st => by
    obtain ⟨s1, h1, h2⟩ := st i (Nat.le_refl _) (by omega) s h
    obtain ⟨s2, h3, h4⟩ := stepsN_inv f I k (i + 1) s1 h2 (fun j a b => st j (by omega) (by omega))
    refine ⟨s2, ?_, by rw [show i + (k + 1) = i + 1 + k by omega]; exact h4⟩
    simp only [stepsN, h1, Option.bind_some]
    exact h3
theorem rangeN_inv {S R : Type} (n : Nat) (hn : n ≤ 9223372036854775807) (f : Int → S → Option (Fl S R)) (I : Nat → S → Prop) (s : S) (h : I 0 s) (st : ∀ j, j < n → ∀ s, I j s → ∃ s', f (j : Int) s = some (.next s') ∧ I (j + 1) s') : ∃ s', rangeN (n : Int) f s = some (.inl s') ∧ I n s' := by
  obtain ⟨s', h1, h2⟩ := stepsN_inv f I n 0 s h (fun j _ b => st j (by omega))
  refine ⟨s', ?_, by simpa using h2⟩
  rw [rangeN_steps _ hn]
  exact h1
theorem setM_nat {α : Type} (l : List α) (i : Nat) (y : α) (h : i < l.length) : setM l (i : Int) y = some (l.set i y) := by
  unfold setM; rw [if_pos ⟨by omega, by omega⟩]; rfl
theorem getI_get {α : Type} (l : List α) (i : Nat) (h : i < l.length) : getI l (i : Int) = some l[i] := by rw [getI_nat, List.getElem?_eq_getElem h]
theorem makeM_nat {α : Type} (n : Nat) (h : n ≤ 1073741824) (z : α) : makeM (n : Int) z = some (List.replicate n z) := by
  unfold makeM; rw [if_pos ⟨by omega, by omega⟩]; rfl
theorem appendM_ok {α : Type} (l r : List α) (h : l.length + r.length ≤ 1073741824) : appendM l r = some (l ++ r) := by
  unfold appendM; rw [if_pos h]
end Go.Pv
set_option linter.unusedSimpArgs false
namespace Go.Pv
open Go
/-- slices.insertionSortCmpFunc -/
noncomputable def g_insertionSortCmpFunc_b2 {α : Type} (a : Int) (cmp : α → α → Option Int) (s2 : Int × List α) : Option ((Int × List α) ⊕ ((Int × List α) ⊕ Empty)) :=
  Option.bind (bif (decide (s2.1 > a)) then (Option.bind (getI s2.2 s2.1) fun x => Option.bind (getI s2.2 (w64 (s2.1 - 1))) fun x2 => Option.bind (cmp x x2) fun v => some (decide (v < 0))) else (some false)) fun (v2 : Bool) => bif v2 then (Option.bind (Option.bind (getI s2.2 (w64 (s2.1 - 1))) fun x3 => Option.bind (getI s2.2 s2.1) fun x4 => Option.bind (setM s2.2 s2.1 x3) fun l => Option.bind (getI l (w64 (s2.1 - 1))) fun _ => Option.bind (setM l (w64 (s2.1 - 1)) x4) fun l2 => some l2) fun (f2 : List α) => some (.inl (w64 (s2.1 - 1), f2))) else (some (.inr (.inl (s2.1, s2.2))))
noncomputable def g_insertionSortCmpFunc_b1 {α : Type} (a : Int) (b2 : Int) (cmp : α → α → Option Int) (s : Int × List α) : Option ((Int × List α) ⊕ ((Int × List α) ⊕ Empty)) :=
  bif (decide (s.1 < b2)) then (Option.bind (loopM (g_insertionSortCmpFunc_b2 a cmp) (s.1, s.2)) fun (t : (Int × List α) ⊕ Empty) => match t with | .inl s3 => (some (.inl (w64 (s.1 + 1), s3.2))) | .inr r => r.elim) else (some (.inr (.inl (s.1, s.2))))
noncomputable def g_insertionSortCmpFunc {α : Type} (data : List α) (a : Int) (b2 : Int) (cmp : α → α → Option Int) : Option (List α) :=
  Option.bind (loopM (g_insertionSortCmpFunc_b1 a b2 cmp) (w64 (a + 1), data)) fun (t : (Int × List α) ⊕ Empty) => match t with | .inl s4 => (some s4.2) | .inr r => r.elim
/-- slices.swapRangeCmpFunc -/
noncomputable def g_swapRangeCmpFunc_b1 {α : Type} (a : Int) (b2 : Int) (n2 : Int) (s : Int × List α) : Option ((Int × List α) ⊕ ((Int × List α) ⊕ Empty)) :=
  bif (decide (s.1 < n2)) then (Option.bind (Option.bind (getI s.2 (w64 (b2 + s.1))) fun x => Option.bind (getI s.2 (w64 (a + s.1))) fun x2 => Option.bind (setM s.2 (w64 (a + s.1)) x) fun l => Option.bind (getI l (w64 (b2 + s.1))) fun _ => Option.bind (setM l (w64 (b2 + s.1)) x2) fun l2 => some l2) fun (f2 : List α) => some (.inl (w64 (s.1 + 1), f2))) else (some (.inr (.inl (s.1, s.2))))
noncomputable def g_swapRangeCmpFunc {α : Type} (data : List α) (a : Int) (b2 : Int) (n2 : Int) (_ : α → α → Option Int) : Option (List α) :=
  Option.bind (loopM (g_swapRangeCmpFunc_b1 a b2 n2) (0, data)) fun (t : (Int × List α) ⊕ Empty) => match t with | .inl s2 => (some s2.2) | .inr r => r.elim
/-- slices.rotateCmpFunc -/
noncomputable def g_rotateCmpFunc_b1 {α : Type} (m2 : Int) (cmp : α → α → Option Int) (s : Int × Int × List α) : Option ((Int × Int × List α) ⊕ ((Int × Int × List α) ⊕ Empty)) :=
  bif (s.1 != s.2.1) then (bif (decide (s.1 > s.2.1)) then (Option.bind (g_swapRangeCmpFunc s.2.2 (w64 (m2 - s.1)) m2 s.2.1 cmp) fun v => some (.inl (w64 (s.1 - s.2.1), s.2.1, v))) else (Option.bind (g_swapRangeCmpFunc s.2.2 (w64 (m2 - s.1)) (w64 ((w64 (m2 + s.2.1)) - s.1)) s.1 cmp) fun v2 => some (.inl (s.1, w64 (s.2.1 - s.1), v2)))) else (some (.inr (.inl (s.1, s.2.1, s.2.2))))
noncomputable def g_rotateCmpFunc {α : Type} (data : List α) (a : Int) (m2 : Int) (b2 : Int) (cmp : α → α → Option Int) : Option (List α) :=
  Option.bind (loopM (g_rotateCmpFunc_b1 m2 cmp) (w64 (m2 - a), w64 (b2 - m2), data)) fun (t : (Int × Int × List α) ⊕ Empty) => match t with | .inl s2 => (Option.bind (g_swapRangeCmpFunc s2.2.2 (w64 (m2 - s2.1)) m2 s2.1 cmp) fun v3 => some v3) | .inr r => r.elim
/-- slices.symMergeCmpFunc -/
noncomputable def g_symMergeCmpFunc_b1 {α : Type} (data : List α) (a : Int) (cmp : α → α → Option Int) (s : Int × Int) : Option ((Int × Int) ⊕ ((Int × Int) ⊕ Empty)) :=
  bif (decide (s.1 < s.2)) then (Option.bind (getI data (w64 (bitShr .u64 (IntKind.u64.wrap (w64 (s.1 + s.2))) 1))) fun x => Option.bind (getI data a) fun x2 => Option.bind (cmp x x2) fun v => bif (decide (v < 0)) then (some (.inl (w64 ((w64 (bitShr .u64 (IntKind.u64.wrap (w64 (s.1 + s.2))) 1)) + 1), s.2))) else (some (.inl (s.1, w64 (bitShr .u64 (IntKind.u64.wrap (w64 (s.1 + s.2))) 1))))) else (some (.inr (.inl (s.1, s.2))))
noncomputable def g_symMergeCmpFunc_b2 {α : Type} (s2 : Int × Int) (s3 : Int × List α) : Option ((Int × List α) ⊕ ((Int × List α) ⊕ Empty)) :=
  bif (decide (s3.1 < (w64 (s2.1 - 1)))) then (Option.bind (Option.bind (getI s3.2 (w64 (s3.1 + 1))) fun x3 => Option.bind (getI s3.2 s3.1) fun x4 => Option.bind (setM s3.2 s3.1 x3) fun l => Option.bind (getI l (w64 (s3.1 + 1))) fun _ => Option.bind (setM l (w64 (s3.1 + 1)) x4) fun l2 => some l2) fun (f2 : List α) => some (.inl (w64 (s3.1 + 1), f2))) else (some (.inr (.inl (s3.1, s3.2))))
noncomputable def g_symMergeCmpFunc_b3 {α : Type} (data : List α) (m2 : Int) (cmp : α → α → Option Int) (s5 : Int × Int) : Option ((Int × Int) ⊕ ((Int × Int) ⊕ Empty)) :=
  bif (decide (s5.1 < s5.2)) then (Option.bind (getI data m2) fun x6 => Option.bind (getI data (w64 (bitShr .u64 (IntKind.u64.wrap (w64 (s5.1 + s5.2))) 1))) fun x7 => Option.bind (cmp x6 x7) fun v2 => bif (!(decide (v2 < 0))) then (some (.inl (w64 ((w64 (bitShr .u64 (IntKind.u64.wrap (w64 (s5.1 + s5.2))) 1)) + 1), s5.2))) else (some (.inl (s5.1, w64 (bitShr .u64 (IntKind.u64.wrap (w64 (s5.1 + s5.2))) 1))))) else (some (.inr (.inl (s5.1, s5.2))))
noncomputable def g_symMergeCmpFunc_b4 {α : Type} (s6 : Int × Int) (s7 : Int × List α) : Option ((Int × List α) ⊕ ((Int × List α) ⊕ Empty)) :=
  bif (decide (s7.1 > s6.1)) then (Option.bind (Option.bind (getI s7.2 (w64 (s7.1 - 1))) fun x8 => Option.bind (getI s7.2 s7.1) fun x9 => Option.bind (setM s7.2 s7.1 x8) fun l3 => Option.bind (getI l3 (w64 (s7.1 - 1))) fun _ => Option.bind (setM l3 (w64 (s7.1 - 1)) x9) fun l4 => some l4) fun (f3 : List α) => some (.inl (w64 (s7.1 - 1), f3))) else (some (.inr (.inl (s7.1, s7.2))))
noncomputable def g_symMergeCmpFunc_b5 {α : Type} (data : List α) (a : Int) (m2 : Int) (b2 : Int) (cmp : α → α → Option Int) (s10 : Int × Int) : Option ((Int × Int) ⊕ ((Int × Int) ⊕ Empty)) :=
  bif (decide (s10.1 < s10.2)) then (Option.bind (getI data (w64 ((w64 ((w64 ((w64 (bitShr .u64 (IntKind.u64.wrap (w64 (a + b2))) 1)) + m2)) - 1)) - (w64 (bitShr .u64 (IntKind.u64.wrap (w64 (s10.1 + s10.2))) 1))))) fun x11 => Option.bind (getI data (w64 (bitShr .u64 (IntKind.u64.wrap (w64 (s10.1 + s10.2))) 1))) fun x12 => Option.bind (cmp x11 x12) fun v3 => bif (!(decide (v3 < 0))) then (some (.inl (w64 ((w64 (bitShr .u64 (IntKind.u64.wrap (w64 (s10.1 + s10.2))) 1)) + 1), s10.2))) else (some (.inl (s10.1, w64 (bitShr .u64 (IntKind.u64.wrap (w64 (s10.1 + s10.2))) 1))))) else (some (.inr (.inl (s10.1, s10.2))))
noncomputable def g_symMergeCmpFunc_s {α : Type} (rc : List α → Int → Int → Int → (α → α → Option Int) → Option (List α)) (data : List α) (a : Int) (m2 : Int) (b2 : Int) (cmp : α → α → Option Int) : Option (List α) :=
  bif ((w64 (m2 - a)) == 1) then (Option.bind (loopM (g_symMergeCmpFunc_b1 data a cmp) (m2, b2)) fun (t : (Int × Int) ⊕ Empty) => match t with | .inl s2 => (Option.bind (loopM (g_symMergeCmpFunc_b2 s2) (a, data)) fun (t : (Int × List α) ⊕ Empty) => match t with | .inl s4 => (some s4.2) | .inr r => r.elim) | .inr r => r.elim) else (bif ((w64 (b2 - m2)) == 1) then (Option.bind (loopM (g_symMergeCmpFunc_b3 data m2 cmp) (a, m2)) fun (t : (Int × Int) ⊕ Empty) => match t with | .inl s6 => (Option.bind (loopM (g_symMergeCmpFunc_b4 s6) (m2, data)) fun (t : (Int × List α) ⊕ Empty) => match t with | .inl s8 => (some s8.2) | .inr r => r.elim) | .inr r => r.elim) else (Option.bind (bif (decide (m2 > (w64 (bitShr .u64 (IntKind.u64.wrap (w64 (a + b2))) 1)))) then (some (w64 ((w64 ((w64 (bitShr .u64 (IntKind.u64.wrap (w64 (a + b2))) 1)) + m2)) - b2), w64 (bitShr .u64 (IntKind.u64.wrap (w64 (a + b2))) 1))) else (some (a, m2))) fun (s9 : Int × Int) => Option.bind (loopM (g_symMergeCmpFunc_b5 data a m2 b2 cmp) (s9.1, s9.2)) fun (t : (Int × Int) ⊕ Empty) => match t with | .inl s11 => (Option.bind (bif ((decide (s11.1 < m2)) && (decide (m2 < (w64 ((w64 ((w64 (bitShr .u64 (IntKind.u64.wrap (w64 (a + b2))) 1)) + m2)) - s11.1))))) then (Option.bind (g_rotateCmpFunc data s11.1 m2 (w64 ((w64 ((w64 (bitShr .u64 (IntKind.u64.wrap (w64 (a + b2))) 1)) + m2)) - s11.1)) cmp) fun v4 => some v4) else (some data)) fun (f4 : List α) => Option.bind (bif ((decide (a < s11.1)) && (decide (s11.1 < (w64 (bitShr .u64 (IntKind.u64.wrap (w64 (a + b2))) 1))))) then (Option.bind (rc f4 a s11.1 (w64 (bitShr .u64 (IntKind.u64.wrap (w64 (a + b2))) 1)) cmp) fun v5 => some v5) else (some f4)) fun (f5 : List α) => bif ((decide ((w64 (bitShr .u64 (IntKind.u64.wrap (w64 (a + b2))) 1)) < (w64 ((w64 ((w64 (bitShr .u64 (IntKind.u64.wrap (w64 (a + b2))) 1)) + m2)) - s11.1)))) && (decide ((w64 ((w64 ((w64 (bitShr .u64 (IntKind.u64.wrap (w64 (a + b2))) 1)) + m2)) - s11.1)) < b2))) then (Option.bind (rc f5 (w64 (bitShr .u64 (IntKind.u64.wrap (w64 (a + b2))) 1)) (w64 ((w64 ((w64 (bitShr .u64 (IntKind.u64.wrap (w64 (a + b2))) 1)) + m2)) - s11.1)) b2 cmp) fun v6 => some v6) else (some f5)) | .inr r => r.elim))
noncomputable def g_symMergeCmpFunc {α : Type} : Nat → List α → Int → Int → Int → (α → α → Option Int) → Option (List α)
  | 0 => fun _ _ _ _ _ => none
  | fu + 1 => g_symMergeCmpFunc_s (g_symMergeCmpFunc fu)
/-- slices.stableCmpFunc -/
noncomputable def g_stableCmpFunc_b1 {α : Type} (n2 : Int) (cmp : α → α → Option Int) (s : Int × Int × List α) : Option ((Int × Int × List α) ⊕ ((Int × Int × List α) ⊕ Empty)) :=
  bif (decide (s.2.1 ≤ n2)) then (Option.bind (g_insertionSortCmpFunc s.2.2 s.1 s.2.1 cmp) fun v => some (.inl (s.2.1, w64 (s.2.1 + 20), v))) else (some (.inr (.inl (s.1, s.2.1, s.2.2))))
noncomputable def g_stableCmpFunc_b3 {α : Type} (n2 : Int) (cmp : α → α → Option Int) (s3 : Int × List α) (s4 : Int × Int × List α) : Option ((Int × Int × List α) ⊕ ((Int × Int × List α) ⊕ Empty)) :=
  bif (decide (s4.2.1 ≤ n2)) then (Option.bind (g_symMergeCmpFunc 64 s4.2.2 s4.1 (w64 (s4.1 + s3.1)) s4.2.1 cmp) fun v3 => some (.inl (s4.2.1, w64 (s4.2.1 + (w64 (2 * s3.1))), v3))) else (some (.inr (.inl (s4.1, s4.2.1, s4.2.2))))
noncomputable def g_stableCmpFunc_b2 {α : Type} (n2 : Int) (cmp : α → α → Option Int) (s3 : Int × List α) : Option ((Int × List α) ⊕ ((Int × List α) ⊕ Empty)) :=
  bif (decide (s3.1 < n2)) then (Option.bind (loopM (g_stableCmpFunc_b3 n2 cmp s3) (0, w64 (2 * s3.1), s3.2)) fun (t : (Int × Int × List α) ⊕ Empty) => match t with | .inl s5 => (bif (decide ((w64 (s5.1 + s3.1)) < n2)) then (Option.bind (g_symMergeCmpFunc 64 s5.2.2 s5.1 (w64 (s5.1 + s3.1)) n2 cmp) fun v4 => some (.inl (w64 (s3.1 * 2), v4))) else (some (.inl (w64 (s3.1 * 2), s5.2.2)))) | .inr r => r.elim) else (some (.inr (.inl (s3.1, s3.2))))
noncomputable def g_stableCmpFunc {α : Type} (data : List α) (n2 : Int) (cmp : α → α → Option Int) : Option (List α) :=
  Option.bind (loopM (g_stableCmpFunc_b1 n2 cmp) (0, 20, data)) fun (t : (Int × Int × List α) ⊕ Empty) => match t with | .inl s2 => (Option.bind (g_insertionSortCmpFunc s2.2.2 s2.1 n2 cmp) fun v2 => Option.bind (loopM (g_stableCmpFunc_b2 n2 cmp) (20, v2)) fun (t : (Int × List α) ⊕ Empty) => match t with | .inl s6 => (some s6.2) | .inr r => r.elim) | .inr r => r.elim
/-- slices.SortStableFunc -/
noncomputable def g_SortStableFunc {α : Type} (x : List α) (cmp : α → α → Option Int) : Option (List α) :=
  Option.bind (g_stableCmpFunc x (x.length : Int) cmp) fun v => some v
section
variable {α β : Type}
theorem getI_mid (P : List α) (x : α) (R : List α) {i : Int} (h : i = (P.length : Int)) : getI (P ++ x :: R) i = some x := by
  subst h; rw [getI_nat, List.getElem?_append_right (Nat.le_refl _), Nat.sub_self]; rfl
theorem setM_mid (P : List α) (x y : α) (R : List α) {i : Int} (h : i = (P.length : Int)) : setM (P ++ x :: R) i y = some (P ++ y :: R) := by
  subst h; rw [setM_nat _ _ _ (by simp), List.set_append_right _ _ (Nat.le_refl _), Nat.sub_self]; rfl
/-- The left one is written first. -/
theorem swap2 (P : List α) (x : α) (M : List α) (y : α) (Q : List α) {i j : Int} (hi : i = (P.length : Int)) (hj : j = (P.length : Int) + 1 + (M.length : Int)) (k : List α → Option β) :
    (Option.bind (Option.bind (getI (P ++ x :: (M ++ y :: Q)) j) fun u => Option.bind (getI (P ++ x :: (M ++ y :: Q)) i) fun v => Option.bind (setM (P ++ x :: (M ++ y :: Q)) i u) fun l => Option.bind (getI l j) fun _ => Option.bind (setM l j v) fun l2 => some l2) k) = k (P ++ y :: (M ++ x :: Q)) := by
  have e : ∀ z w : α, P ++ z :: (M ++ w :: Q) = (P ++ z :: M) ++ w :: Q := fun z w => by simp
  have hj2 : ∀ z : α, j = ((P ++ z :: M).length : Int) := fun z => by rw [List.length_append, List.length_cons]; omega
  have g1 : getI (P ++ x :: (M ++ y :: Q)) j = some y := by rw [e]; exact getI_mid _ _ _ (hj2 x)
  have g3 : getI (P ++ y :: (M ++ y :: Q)) j = some y := by rw [e]; exact getI_mid _ _ _ (hj2 y)
  have s2 : setM (P ++ y :: (M ++ y :: Q)) j x = some (P ++ y :: (M ++ x :: Q)) := by rw [e, e]; exact setM_mid _ _ _ _ (hj2 y)
  rw [g1, Option.bind_some, getI_mid _ _ _ hi, Option.bind_some, setM_mid _ _ _ _ hi, Option.bind_some, g3, Option.bind_some, s2]
  rfl
/-- Neighbours; the right one is written first. -/
theorem swap3 (P : List α) (x y : α) (Q : List α) {i j : Int} (hi : i = (P.length : Int)) (hj : j = (P.length : Int) + 1) (k : List α → Option β) :
    (Option.bind (Option.bind (getI (P ++ x :: y :: Q) i) fun u => Option.bind (getI (P ++ x :: y :: Q) j) fun v => Option.bind (setM (P ++ x :: y :: Q) j u) fun l => Option.bind (getI l i) fun _ => Option.bind (setM l i v) fun l2 => some l2) k) = k (P ++ y :: x :: Q) := by
  have e : ∀ z w : α, P ++ z :: w :: Q = (P ++ [z]) ++ w :: Q := fun z w => by simp
  have hj2 : ∀ z : α, j = ((P ++ [z]).length : Int) := fun z => by rw [List.length_append, List.length_singleton]; omega
  have g1 : getI (P ++ x :: y :: Q) j = some y := by rw [e]; exact getI_mid _ _ _ (hj2 x)
  have s1 : setM (P ++ x :: y :: Q) j x = some (P ++ x :: x :: Q) := by rw [e, e]; exact setM_mid _ _ _ _ (hj2 x)
  rw [getI_mid _ _ _ hi, Option.bind_some, g1, Option.bind_some, s1, Option.bind_some, getI_mid _ _ _ hi, Option.bind_some, setM_mid _ _ _ _ hi]
  rfl
/-! Ranges change places. -/
theorem swr_loop (n a b : Int) : ∀ (X Y P M Q : List α) (i : Int), X.length = Y.length → a + i = (P.length : Int) → b + i = (P.length : Int) + (X.length : Int) + (M.length : Int) → n = i + (X.length : Int) → 0 ≤ i → 0 ≤ a → 0 ≤ b → P.length + X.length + M.length + Y.length ≤ 1073741824 →
    loopM (g_swapRangeCmpFunc_b1 a b n) (i, P ++ (X ++ (M ++ (Y ++ Q)))) = some (.inl (n, P ++ (Y ++ (M ++ (X ++ Q)))))
  | [], Y, P, M, Q, i, hl, _, _, hn, _, _, _, _ => by
    have : Y = [] := List.length_eq_zero_iff.1 hl.symm
    subst this
    refine loopM_out ?_
    unfold g_swapRangeCmpFunc_b1
    simp only [List.length_nil] at hn
    rw [show decide (i < n) = false from decide_eq_false (by omega)]
    have : i = n := by omega
    subst this
    rfl
  | x :: X, [], P, M, Q, i, hl, _, _, _, _, _, _, _ => by simp at hl
  | x :: X, y :: Y, P, M, Q, i, hl, ha, hb, hn, h0, ha0, hb0, hN => by
    simp only [List.length_cons] at hl hb hn hN
    have e1 : P ++ (x :: X ++ (M ++ (y :: Y ++ Q))) = P ++ x :: ((X ++ M) ++ y :: (Y ++ Q)) := by simp
    have e2 : P ++ y :: ((X ++ M) ++ x :: (Y ++ Q)) = (P ++ [y]) ++ (X ++ ((M ++ [x]) ++ (Y ++ Q))) := by simp
    have e3 : P ++ (y :: Y ++ (M ++ (x :: X ++ Q))) = (P ++ [y]) ++ (Y ++ ((M ++ [x]) ++ (X ++ Q))) := by simp
    rw [e1, e3, ← swr_loop n a b X Y (P ++ [y]) (M ++ [x]) Q (i + 1) (by omega) (by rw [List.length_append, List.length_singleton]; omega) (by simp only [List.length_append, List.length_singleton]; omega) (by omega) (by omega) ha0 hb0 (by rw [List.length_append, List.length_append]; simp only [List.length_singleton]; omega), ← e2]
    refine loopM_next ?_
    unfold g_swapRangeCmpFunc_b1
    simp only
    rw [show decide (i < n) = true from decide_eq_true (by omega), w64_of (n := b + i) (by omega) (by omega), w64_of (n := a + i) (by omega) (by omega), w64_of (n := i + 1) (by omega) (by omega)]
    simp only [cond_true]
    rw [swap2 P x (X ++ M) y (Y ++ Q) ha (by rw [List.length_append]; omega)]
theorem swapRange_eq (cmp : α → α → Option Int) (P X M Y Q : List α) {a b n : Int} (hl : X.length = Y.length) (ha : a = (P.length : Int)) (hb : b = (P.length : Int) + (X.length : Int) + (M.length : Int)) (hn : n = (X.length : Int)) (hN : P.length + X.length + M.length + Y.length ≤ 1073741824) :
    g_swapRangeCmpFunc (P ++ (X ++ (M ++ (Y ++ Q)))) a b n cmp = some (P ++ (Y ++ (M ++ (X ++ Q)))) := by
  unfold g_swapRangeCmpFunc
  rw [swr_loop n a b X Y P M Q 0 hl (by omega) (by omega) (by omega) (by omega) (by omega) (by omega) hN]
  rfl
/-! Rotation. -/
theorem rot_loop (cmp : α → α → Option Int) (m : Int) : ∀ (k : Nat) (P X Y Q : List α), X.length + Y.length ≤ k → 0 < X.length → 0 < Y.length → m = (P.length : Int) + (X.length : Int) → P.length + X.length + Y.length + Q.length ≤ 1073741824 →
    ∃ P' X' Y' Q', loopM (g_rotateCmpFunc_b1 m cmp) ((X.length : Int), (Y.length : Int), P ++ (X ++ (Y ++ Q))) = some (.inl ((X'.length : Int), (Y'.length : Int), P' ++ (X' ++ (Y' ++ Q')))) ∧ X'.length = Y'.length ∧ m = (P'.length : Int) + (X'.length : Int) ∧ P' ++ (Y' ++ (X' ++ Q')) = P ++ (Y ++ (X ++ Q)) ∧ P'.length + X'.length + Y'.length + Q'.length = P.length + X.length + Y.length + Q.length
  | 0, P, X, Y, Q, hk, hx, _, _, _ => by omega
  | k + 1, P, X, Y, Q, hk, hx, hy, hm, hN => by
    rcases Nat.lt_trichotomy X.length Y.length with h | h | h
    · -- the left one is shorter
      obtain ⟨Y1, Y2, rfl, h2⟩ : ∃ Y1 Y2, Y = Y1 ++ Y2 ∧ Y2.length = X.length := ⟨Y.take (Y.length - X.length), Y.drop (Y.length - X.length), by rw [List.take_append_drop], by rw [List.length_drop]; omega⟩
      rw [List.length_append] at hk h hy hN
      obtain ⟨P', X', Y', Q', r1, r2, r3, r4, r5⟩ := rot_loop cmp m k P Y2 Y1 (X ++ Q) (by omega) (by omega) (by omega) (by omega) (by rw [List.length_append]; omega)
      refine ⟨P', X', Y', Q', ?_, r2, r3, ?_, by rw [List.length_append] at *; omega⟩
      · rw [← r1]
        refine loopM_next ?_
        unfold g_rotateCmpFunc_b1
        simp only [List.length_append]
        rw [show ((X.length : Int) != ((Y1.length + Y2.length : Nat) : Int)) = true by simp; omega, show decide ((X.length : Int) > ((Y1.length + Y2.length : Nat) : Int)) = false from decide_eq_false (by omega)]
        simp only [cond_true, cond_false]
        rw [w64_of (n := m - (X.length : Int)) (by omega) (by omega), w64_of (n := m + ((Y1.length + Y2.length : Nat) : Int)) (by omega) (by omega), w64_of (n := m + ((Y1.length + Y2.length : Nat) : Int) - (X.length : Int)) (by omega) (by omega), w64_of (n := ((Y1.length + Y2.length : Nat) : Int) - (X.length : Int)) (by omega) (by omega)]
        rw [show P ++ (X ++ (Y1 ++ Y2 ++ Q)) = P ++ (X ++ (Y1 ++ (Y2 ++ Q))) by simp, swapRange_eq cmp P X Y1 Y2 Q h2.symm (by omega) (by omega) rfl (by omega)]
        simp only [Option.bind_some]
        rw [show ((Y1.length + Y2.length : Nat) : Int) - (X.length : Int) = (Y1.length : Int) by omega, h2]
      · rw [r4]; simp
    · refine ⟨P, X, Y, Q, ?_, h, hm, rfl, rfl⟩
      refine loopM_out ?_
      unfold g_rotateCmpFunc_b1
      simp only
      rw [show ((X.length : Int) != (Y.length : Int)) = false by simp; omega]
      rfl
    · obtain ⟨X1, X2, rfl, h2⟩ : ∃ X1 X2, X = X1 ++ X2 ∧ X1.length = Y.length := ⟨X.take Y.length, X.drop Y.length, by rw [List.take_append_drop], by rw [List.length_take]; omega⟩
      rw [List.length_append] at hk h hx hN hm
      obtain ⟨P', X', Y', Q', r1, r2, r3, r4, r5⟩ := rot_loop cmp m k (P ++ Y) X2 X1 Q (by omega) (by omega) (by omega) (by rw [List.length_append]; omega) (by rw [List.length_append]; omega)
      refine ⟨P', X', Y', Q', ?_, r2, r3, ?_, by rw [List.length_append] at *; omega⟩
      · rw [← r1]
        refine loopM_next ?_
        unfold g_rotateCmpFunc_b1
        simp only [List.length_append]
        rw [show (((X1.length + X2.length : Nat) : Int) != (Y.length : Int)) = true by simp; omega, show decide (((X1.length + X2.length : Nat) : Int) > (Y.length : Int)) = true from decide_eq_true (by omega)]
        simp only [cond_true, cond_false]
        rw [w64_of (n := m - ((X1.length + X2.length : Nat) : Int)) (by omega) (by omega), w64_of (n := ((X1.length + X2.length : Nat) : Int) - (Y.length : Int)) (by omega) (by omega)]
        rw [show P ++ (X1 ++ X2 ++ (Y ++ Q)) = P ++ (X1 ++ (X2 ++ (Y ++ Q))) by simp, swapRange_eq cmp P X1 X2 Y Q h2 (by omega) (by omega) (by omega) (by omega)]
        simp only [Option.bind_some]
        rw [show ((X1.length + X2.length : Nat) : Int) - (Y.length : Int) = (X2.length : Int) by omega, h2]
        simp
      · rw [r4]; simp
theorem rotate_eq (cmp : α → α → Option Int) (P X Y Q : List α) {a m b : Int} (hx : 0 < X.length) (hy : 0 < Y.length) (ha : a = (P.length : Int)) (hm : m = (P.length : Int) + (X.length : Int)) (hb : b = m + (Y.length : Int)) (hN : P.length + X.length + Y.length + Q.length ≤ 1073741824) :
    g_rotateCmpFunc (P ++ (X ++ (Y ++ Q))) a m b cmp = some (P ++ (Y ++ (X ++ Q))) := by
  unfold g_rotateCmpFunc
  rw [w64_of (n := m - a) (by omega) (by omega), w64_of (n := b - m) (by omega) (by omega), show m - a = (X.length : Int) by omega, show b - m = (Y.length : Int) by omega]
  obtain ⟨P', X', Y', Q', r1, r2, r3, r4, r5⟩ := rot_loop cmp m (X.length + Y.length) P X Y Q (Nat.le_refl _) hx hy hm hN
  rw [r1]
  simp only [Option.bind_some]
  rw [w64_of (n := m - (X'.length : Int)) (by omega) (by omega)]
  have := swapRange_eq cmp P' X' [] Y' Q' (a := m - (X'.length : Int)) (b := m) (n := (X'.length : Int)) r2 (by omega) (by simp only [List.length_nil]; omega) rfl (by simp only [List.length_nil]; omega)
  simp only [List.nil_append] at this
  rw [this, Option.bind_some, r4]
end
section
variable {α : Type} {D : α → Prop} {g : α → α → Option Int}
/-- What is asked of a comparison on what D holds: it answers; less is a strict weak order. -/
structure SW (D : α → Prop) (g : α → α → Option Int) : Prop where
  ans : ∀ x y, D x → D y → ∃ c, g x y = some c
  asym : ∀ x y, D x → D y → ltM g x y = true → ltM g y x = false
  ntrans : ∀ x y z, D x → D y → D z → ltM g x y = false → ltM g y z = false → ltM g x z = false
theorem SW.cmp (h : SW D g) {x y : α} (hx : D x) (hy : D y) : ∃ c, g x y = some c ∧ decide (c < 0) = ltM g x y := by
  obtain ⟨c, hc⟩ := h.ans x y hx hy
  exact ⟨c, hc, by unfold ltM; rw [hc]; rfl⟩
abbrev AllD (D : α → Prop) (l : List α) : Prop := ∀ x ∈ l, D x
def eqv (g : α → α → Option Int) (x y : α) : Bool := !ltM g x y && !ltM g y x
/-- The same elements; those that are alike in their order. -/
structure Sta (D : α → Prop) (g : α → α → Option Int) (l r : List α) : Prop where
  perm : r.Perm l
  same : ∀ x, D x → r.filter (eqv g x) = l.filter (eqv g x)
abbrev Srt (g : α → α → Option Int) (l : List α) : Prop := l.Pairwise fun x y => ltM g y x = false
theorem Sta.refl (l : List α) : Sta D g l l := ⟨.refl _, fun _ _ => rfl⟩
theorem Sta.trans {l r s : List α} (h : Sta D g l r) (k : Sta D g r s) : Sta D g l s := ⟨k.perm.trans h.perm, fun x hx => (k.same x hx).trans (h.same x hx)⟩
theorem Sta.app {A A' B B' : List α} (h : Sta D g A A') (k : Sta D g B B') : Sta D g (A ++ B) (A' ++ B') :=
  ⟨h.perm.append k.perm, fun x hx => by rw [List.filter_append, List.filter_append, h.same x hx, k.same x hx]⟩
theorem Sta.len {l r : List α} (h : Sta D g l r) : r.length = l.length := h.perm.length_eq
theorem Sta.all {l r : List α} (h : Sta D g l r) (hl : AllD D l) : AllD D r := fun x hx => hl x (h.perm.mem_iff.1 hx)
theorem Sta.swap (hs : SW D g) {A B : List α} (hA : AllD D A) (hB : AllD D B) (h : ∀ a ∈ A, ∀ b ∈ B, ltM g b a = true) : Sta D g (A ++ B) (B ++ A) := by
  refine ⟨List.perm_append_comm, fun x hx => ?_⟩
  rw [List.filter_append, List.filter_append]
  by_cases he : ∃ a ∈ A, eqv g x a = true
  · obtain ⟨a, ha, hxa⟩ := he
    have : B.filter (eqv g x) = [] := by
      rw [List.filter_eq_nil_iff]
      intro b hb hxb
      unfold eqv at hxa hxb
      simp only [Bool.and_eq_true, Bool.not_eq_true'] at hxa hxb
      have := hs.ntrans b x a (hB b hb) hx (hA a ha) hxb.2 hxa.1
      rw [h a ha b hb] at this
      cases this
    rw [this, List.nil_append, List.append_nil]
  · have : A.filter (eqv g x) = [] := by
      rw [List.filter_eq_nil_iff]
      intro a ha hxa
      exact he ⟨a, ha, hxa⟩
    rw [this, List.nil_append, List.append_nil]
theorem Srt.app {A B : List α} (hA : Srt g A) (hB : Srt g B) (h : ∀ a ∈ A, ∀ b ∈ B, ltM g b a = false) : Srt g (A ++ B) := List.pairwise_append.2 ⟨hA, hB, h⟩
theorem SW.irr (hs : SW D g) {x : α} (hx : D x) : ltM g x x = false := by
  cases h : ltM g x x
  · rfl
  · have := hs.asym x x hx hx h; rw [h] at this; cases this
/-! Insertion. -/
theorem ins_inner (hs : SW D g) (a : Int) : ∀ (n : Nat) (R1 : List α), R1.length = n → ∀ (P : List α) (x : α) (R2 Q : List α), a = (P.length : Int) → AllD D R1 → D x → AllD D R2 → Srt g (R1 ++ R2) → (∀ r ∈ R2, ltM g x r = true) → P.length + R1.length ≤ 1073741824 →
    ∃ (j : Int) (R' : List α), loopM (g_insertionSortCmpFunc_b2 a g) ((P.length : Int) + (R1.length : Int), P ++ (R1 ++ x :: (R2 ++ Q))) = some (.inl (j, P ++ (R' ++ Q))) ∧ Srt g R' ∧ Sta D g (R1 ++ x :: R2) R' := by
  intro n
  induction n with
  | zero =>
    intro R1 h1 P x R2 Q ha _ hx hR2 hsrt hlt hN
    have : R1 = [] := List.length_eq_zero_iff.1 h1
    subst this
    refine ⟨(P.length : Int) + ((0 : Nat) : Int), x :: R2, loopM_out ?_, ?_, Sta.refl _⟩
    · unfold g_insertionSortCmpFunc_b2
      simp only [List.length_nil]
      rw [show decide ((P.length : Int) + ((0 : Nat) : Int) > a) = false from decide_eq_false (by omega)]
      rfl
    · rw [Srt, List.pairwise_cons]
      exact ⟨fun r hr => hs.asym x r hx (hR2 r hr) (hlt r hr), by simpa using hsrt⟩
  | succ n ih =>
    intro R1 h1 P x R2 Q ha hR1 hx hR2 hsrt hlt hN
    have hne : R1 ≠ [] := by intro h; subst h; simp at h1
    obtain ⟨S, y, rfl⟩ : ∃ S y, R1 = S ++ [y] := ⟨R1.dropLast, R1.getLast hne, (List.dropLast_concat_getLast hne).symm⟩
    rw [List.length_append, List.length_singleton] at h1 hN
    have hy : D y := hR1 y (by simp)
    have hS : AllD D S := fun z hz => hR1 z (by simp [hz])
    obtain ⟨c, hc, hcl⟩ := hs.cmp hx hy
    have e1 : P ++ (S ++ [y] ++ x :: (R2 ++ Q)) = (P ++ S) ++ y :: x :: (R2 ++ Q) := by simp
    have e2 : P ++ (S ++ [y] ++ x :: (R2 ++ Q)) = (P ++ S ++ [y]) ++ x :: (R2 ++ Q) := by simp
    have hj : (P.length : Int) + (((S ++ [y]).length : Nat) : Int) = (P.length : Int) + (S.length : Int) + 1 := by rw [List.length_append, List.length_singleton]; omega
    have hb : g_insertionSortCmpFunc_b2 a g ((P.length : Int) + (((S ++ [y]).length : Nat) : Int), P ++ (S ++ [y] ++ x :: (R2 ++ Q))) = some (bif ltM g x y then .inl ((P.length : Int) + (S.length : Int), P ++ (S ++ x :: (y :: R2 ++ Q))) else .inr (.inl ((P.length : Int) + (S.length : Int) + 1, P ++ (S ++ [y] ++ x :: (R2 ++ Q))))) := by
      unfold g_insertionSortCmpFunc_b2
      simp only
      rw [hj, w64_of (n := (P.length : Int) + (S.length : Int) + 1 - 1) (by omega) (by omega), show (P.length : Int) + (S.length : Int) + 1 - 1 = (P.length : Int) + (S.length : Int) by omega]
      rw [show decide ((P.length : Int) + (S.length : Int) + 1 > a) = true from decide_eq_true (by omega)]
      have g1 : getI (P ++ (S ++ [y] ++ x :: (R2 ++ Q))) ((P.length : Int) + (S.length : Int) + 1) = some x := by rw [e2]; exact getI_mid _ _ _ (by simp only [List.length_append, List.length_singleton]; omega)
      have g2 : getI (P ++ (S ++ [y] ++ x :: (R2 ++ Q))) ((P.length : Int) + (S.length : Int)) = some y := by rw [e1]; exact getI_mid _ _ _ (by simp only [List.length_append]; omega)
      have sw := swap3 (P ++ S) y x (R2 ++ Q) (i := (P.length : Int) + (S.length : Int)) (j := (P.length : Int) + (S.length : Int) + 1) (by simp only [List.length_append]; omega) (by simp only [List.length_append]; omega) (fun (f2 : List α) => some (Sum.inl ((P.length : Int) + (S.length : Int), f2) : (Int × List α) ⊕ ((Int × List α) ⊕ Empty)))
      rw [← e1] at sw
      simp only [cond_true]
      rw [sw, g1, Option.bind_some, g2, Option.bind_some, hc, Option.bind_some, hcl, Option.bind_some]
      cases ltM g x y
      · rfl
      · simp
    cases hxy : ltM g x y
    · rw [hxy] at hb
      refine ⟨(P.length : Int) + (S.length : Int) + 1, S ++ [y] ++ x :: R2, ?_, ?_, Sta.refl _⟩
      · rw [loopM_out hb]; simp
      · have h2 := List.pairwise_append.1 hsrt
        refine Srt.app h2.1 ?_ fun p hp q hq => ?_
        · rw [Srt, List.pairwise_cons]
          exact ⟨fun r hr => hs.asym x r hx (hR2 r hr) (hlt r hr), h2.2.1⟩
        · rcases List.mem_cons.1 hq with rfl | hq
          · rcases List.mem_append.1 hp with hp | hp
            · have h3 := (List.pairwise_append.1 h2.1).2.2 p hp y (by simp)
              exact hs.ntrans q y p hx hy (hS p hp) hxy h3
            · rw [List.mem_singleton] at hp; subst hp; exact hxy
          · exact h2.2.2 p hp q hq
    · rw [hxy] at hb
      rw [loopM_next hb]
      obtain ⟨j, R', r1, r2, r3⟩ := ih S (by omega) P x (y :: R2) Q ha hS hx (fun z hz => by rcases List.mem_cons.1 hz with rfl | hz; exact hy; exact hR2 z hz) (by simpa using hsrt) (fun r hr => by
        rcases List.mem_cons.1 hr with rfl | hr
        · exact hxy
        · exact hlt r hr) (by omega)
      refine ⟨j, R', r1, r2, Sta.trans ?_ r3⟩
      have h4 : Sta D g ([y] ++ [x]) ([x] ++ [y]) := Sta.swap hs (fun z hz => by simp at hz; subst hz; exact hy) (fun z hz => by simp at hz; subst hz; exact hx) (fun p hp q hq => by simp at hp hq; subst hp; subst hq; exact hxy)
      have h5 := Sta.app (Sta.refl (D := D) (g := g) S) (Sta.app h4 (Sta.refl R2))
      simpa using h5
theorem ins_outer (hs : SW D g) (a b : Int) (P Q : List α) (ha : a = (P.length : Int)) : ∀ (T R : List α), b = (P.length : Int) + (R.length : Int) + (T.length : Int) → AllD D R → AllD D T → Srt g R → P.length + R.length + T.length ≤ 1073741824 →
    ∃ R', loopM (g_insertionSortCmpFunc_b1 a b g) ((P.length : Int) + (R.length : Int), P ++ (R ++ (T ++ Q))) = some (.inl (b, P ++ (R' ++ Q))) ∧ Srt g R' ∧ Sta D g (R ++ T) R'
  | [], R, hb, _, _, hR, _ => by
    refine ⟨R, loopM_out ?_, hR, by rw [List.append_nil]; exact Sta.refl _⟩
    unfold g_insertionSortCmpFunc_b1
    simp only [List.length_nil] at hb
    simp only
    rw [show decide ((P.length : Int) + (R.length : Int) < b) = false from decide_eq_false (by omega), show (P.length : Int) + (R.length : Int) = b by omega]
    simp
  | x :: T, R, hb, dR, dT, hR, hN => by
    simp only [List.length_cons] at hb hN
    obtain ⟨j, R1, r1, r2, r3⟩ := ins_inner hs a R.length R rfl P x [] (T ++ Q) ha dR (dT x (List.mem_cons_self ..)) (fun z hz => by cases hz) (by rw [List.append_nil]; exact hR) (fun z hz => by cases hz) (by omega)
    have hl : R1.length = R.length + 1 := by have := r3.len; simpa using this
    obtain ⟨R', s1, s2, s3⟩ := ins_outer hs a b P Q ha T R1 (by omega) (r3.all (fun z hz => by
      rcases List.mem_append.1 hz with hz | hz
      · exact dR z hz
      · simp at hz; subst hz; exact dT z (by simp))) (fun z hz => dT z (by simp [hz])) r2 (by omega)
    refine ⟨R', ?_, s2, Sta.trans ?_ s3⟩
    · rw [← s1]
      refine loopM_next ?_
      unfold g_insertionSortCmpFunc_b1
      simp only
      rw [show decide ((P.length : Int) + (R.length : Int) < b) = true from decide_eq_true (by omega), w64_of (n := (P.length : Int) + (R.length : Int) + 1) (by omega) (by omega)]
      simp only [cond_true]
      have e : P ++ (R ++ (x :: T ++ Q)) = P ++ (R ++ x :: ([] ++ (T ++ Q))) := by simp
      rw [e, r1]
      simp only [Option.bind_some]
      rw [hl, show (P.length : Int) + ((R.length + 1 : Nat) : Int) = (P.length : Int) + (R.length : Int) + 1 by omega]
    · have := Sta.app r3 (Sta.refl (D := D) (g := g) T)
      simpa using this
theorem insertion_eq (hs : SW D g) (P A Q : List α) {a b : Int} (ha : a = (P.length : Int)) (hb : b = (P.length : Int) + (A.length : Int)) (dA : AllD D A) (hN : P.length + A.length ≤ 1073741824) :
    ∃ R, g_insertionSortCmpFunc (P ++ (A ++ Q)) a b g = some (P ++ (R ++ Q)) ∧ Srt g R ∧ Sta D g A R := by
  unfold g_insertionSortCmpFunc
  rw [w64_of (n := a + 1) (by omega) (by omega)]
  cases A with
  | nil =>
    refine ⟨[], ?_, .nil, Sta.refl _⟩
    simp only [List.length_nil] at hb
    have : g_insertionSortCmpFunc_b1 a b g (a + 1, P ++ ([] ++ Q)) = some (.inr (.inl (a + 1, P ++ ([] ++ Q)))) := by
      unfold g_insertionSortCmpFunc_b1
      simp only
      rw [show decide (a + 1 < b) = false from decide_eq_false (by omega)]
      rfl
    rw [loopM_out this]; rfl
  | cons x T =>
    simp only [List.length_cons] at hb hN
    obtain ⟨R', s1, s2, s3⟩ := ins_outer hs a b P Q ha T [x] (by simp only [List.length_singleton]; omega) (fun z hz => by simp at hz; subst hz; exact dA z (by simp)) (fun z hz => dA z (by simp [hz])) (by simp) (by simp only [List.length_singleton]; omega)
    refine ⟨R', ?_, s2, s3⟩
    simp only [List.length_singleton] at s1
    rw [show a + 1 = (P.length : Int) + ((1 : Nat) : Int) by omega]
    have e : P ++ (x :: T ++ Q) = P ++ ([x] ++ (T ++ Q)) := by simp
    rw [e, s1]
    rfl
/-! A search by halves. -/
theorem bin_loop {mb : Int × Int → Option ((Int × Int) ⊕ ((Int × Int) ⊕ Empty))} (q : Int → Bool) (lo hi : Int)
    (hstep : ∀ i j, lo ≤ i → i < j → j ≤ hi → mb (i, j) = some (.inl (bif q ((i + j) / 2) then ((i + j) / 2 + 1, j) else (i, (i + j) / 2)))) (hstop : ∀ i, lo ≤ i → i ≤ hi → mb (i, i) = some (.inr (.inl (i, i)))) :
    ∀ (k : Nat) (i j : Int), (j - i).toNat ≤ k → lo ≤ i → i ≤ j → j ≤ hi → (i = lo ∨ q (i - 1) = true) → (j = hi ∨ q j = false) → ∃ s, loopM mb (i, j) = some (.inl (s, s)) ∧ lo ≤ s ∧ s ≤ hi ∧ (s = lo ∨ q (s - 1) = true) ∧ (s = hi ∨ q s = false)
  | 0, i, j, hk, h1, h2, h3, h4, h5 => by
    have : i = j := by omega
    subst this
    exact ⟨i, loopM_out (hstop i h1 h3), h1, h3, h4, h5⟩
  | k + 1, i, j, hk, h1, h2, h3, h4, h5 => by
    rcases Int.lt_or_eq_of_le h2 with h | h
    · have hst := hstep i j h1 h h3
      cases hq : q ((i + j) / 2)
      · rw [hq] at hst
        rw [loopM_next hst]
        exact bin_loop q lo hi hstep hstop k i ((i + j) / 2) (by omega) h1 (by omega) (by omega) h4 (.inr hq)
      · rw [hq] at hst
        rw [loopM_next hst]
        exact bin_loop q lo hi hstep hstop k ((i + j) / 2 + 1) j (by omega) (by omega) (by omega) h3 (.inr (by rw [Int.add_sub_cancel]; exact hq)) h5
    · subst h
      exact ⟨i, loopM_out (hstop i h1 h3), h1, h3, h4, h5⟩
end
section
variable {α : Type} {D : α → Prop} {g : α → α → Option Int}
/-- What a search asks at place h of a list. -/
def atI (l : List α) (h : Int) (p : α → Bool) : Bool := match getI l h with | some z => p z | none => false
theorem atI_of {l : List α} {h : Int} {z : α} (e : getI l h = some z) (p : α → Bool) : atI l h p = p z := by unfold atI; rw [e]
theorem getI_seg (P A Q : List α) (t : Nat) (h : t < A.length) {i : Int} (hi : i = (P.length : Int) + (t : Int)) : getI (P ++ (A ++ Q)) i = some A[t] := by
  subst hi
  rw [show (P.length : Int) + (t : Int) = ((P.length + t : Nat) : Int) by omega, getI_nat, List.getElem?_append_right (by omega), Nat.add_sub_cancel_left, List.getElem?_append_left h, List.getElem?_eq_getElem h]
/-- The moves of the one at the left end to the right. -/
theorem shiftR (s : Int × Int) : ∀ (B P : List α) (x : α) (R : List α), s.1 - 1 = (P.length : Int) + (B.length : Int) → P.length + B.length ≤ 1073741824 →
    loopM (g_symMergeCmpFunc_b2 s) ((P.length : Int), P ++ x :: (B ++ R)) = some (.inl ((P.length : Int) + (B.length : Int), P ++ (B ++ x :: R)))
  | [], P, x, R, hs, hN => by
    refine loopM_out ?_
    unfold g_symMergeCmpFunc_b2
    simp only [List.length_nil] at hs ⊢
    rw [w64_of (n := s.1 - 1) (by omega) (by omega), show decide ((P.length : Int) < s.1 - 1) = false from decide_eq_false (by omega), show (P.length : Int) + ((0 : Nat) : Int) = (P.length : Int) by omega]
    rfl
  | y :: B, P, x, R, hs, hN => by
    simp only [List.length_cons] at hs hN
    have ih := shiftR s B (P ++ [y]) x R (by simp only [List.length_append, List.length_singleton]; omega) (by simp only [List.length_append, List.length_singleton]; omega)
    have e : loopM (g_symMergeCmpFunc_b2 s) ((P.length : Int), P ++ x :: (y :: B ++ R)) = loopM (g_symMergeCmpFunc_b2 s) (((P ++ [y]).length : Int), (P ++ [y]) ++ x :: (B ++ R)) := by
      refine loopM_next ?_
      unfold g_symMergeCmpFunc_b2
      simp only
      rw [w64_of (n := s.1 - 1) (by omega) (by omega), w64_of (n := (P.length : Int) + 1) (by omega) (by omega), show decide ((P.length : Int) < s.1 - 1) = true from decide_eq_true (by omega)]
      simp only [cond_true]
      have sw := swap2 P x [] y (B ++ R) (i := (P.length : Int)) (j := (P.length : Int) + 1) rfl (by simp only [List.length_nil]; omega) (fun (f2 : List α) => some (Sum.inl ((P.length : Int) + 1, f2) : (Int × List α) ⊕ ((Int × List α) ⊕ Empty)))
      simp only [List.nil_append] at sw
      rw [show x :: (y :: B ++ R) = x :: y :: (B ++ R) from rfl, sw]
      simp
    rw [e, ih]
    have hl : (((P ++ [y]).length : Nat) : Int) + (B.length : Int) = (P.length : Int) + (((y :: B).length : Nat) : Int) := by
      simp only [List.length_append, List.length_cons, List.length_nil]; omega
    rw [hl, show P ++ [y] ++ (B ++ x :: R) = P ++ (y :: B ++ x :: R) by simp]
/-- The moves of the one at the right end to the left. -/
theorem shiftL (s : Int × Int) : ∀ (n : Nat) (A : List α), A.length = n → ∀ (P : List α) (x : α) (R : List α), s.1 = (P.length : Int) → P.length + A.length ≤ 1073741824 →
    loopM (g_symMergeCmpFunc_b4 s) ((P.length : Int) + (A.length : Int), P ++ (A ++ x :: R)) = some (.inl ((P.length : Int), P ++ x :: (A ++ R))) := by
  intro n
  induction n with
  | zero =>
    intro A hA P x R hs hN
    have : A = [] := List.length_eq_zero_iff.1 hA
    subst this
    refine loopM_out ?_
    unfold g_symMergeCmpFunc_b4
    simp only [List.length_nil]
    rw [show decide ((P.length : Int) + ((0 : Nat) : Int) > s.1) = false from decide_eq_false (by omega), show (P.length : Int) + ((0 : Nat) : Int) = (P.length : Int) by omega]
    rfl
  | succ n ih =>
    intro A hA P x R hs hN
    have hne : A ≠ [] := by intro h; subst h; simp at hA
    obtain ⟨S, y, rfl⟩ : ∃ S y, A = S ++ [y] := ⟨A.dropLast, A.getLast hne, (List.dropLast_concat_getLast hne).symm⟩
    rw [List.length_append, List.length_singleton] at hA hN
    have ih' := ih S (by omega) P x (y :: R) hs (by omega)
    have e : loopM (g_symMergeCmpFunc_b4 s) ((P.length : Int) + (((S ++ [y]).length : Nat) : Int), P ++ ((S ++ [y]) ++ x :: R)) = loopM (g_symMergeCmpFunc_b4 s) ((P.length : Int) + (S.length : Int), P ++ (S ++ x :: y :: R)) := by
      refine loopM_next ?_
      have hj : (P.length : Int) + (((S ++ [y]).length : Nat) : Int) = (P.length : Int) + (S.length : Int) + 1 := by rw [List.length_append, List.length_singleton]; omega
      unfold g_symMergeCmpFunc_b4
      simp only
      rw [hj, w64_of (n := (P.length : Int) + (S.length : Int) + 1 - 1) (by omega) (by omega), show (P.length : Int) + (S.length : Int) + 1 - 1 = (P.length : Int) + (S.length : Int) by omega, show decide ((P.length : Int) + (S.length : Int) + 1 > s.1) = true from decide_eq_true (by omega)]
      simp only [cond_true]
      have e1 : P ++ (S ++ [y] ++ x :: R) = (P ++ S) ++ y :: x :: R := by simp
      have sw := swap3 (P ++ S) y x R (i := (P.length : Int) + (S.length : Int)) (j := (P.length : Int) + (S.length : Int) + 1) (by simp only [List.length_append]; omega) (by simp only [List.length_append]; omega) (fun (f2 : List α) => some (Sum.inl ((P.length : Int) + (S.length : Int), f2) : (Int × List α) ⊕ ((Int × List α) ⊕ Empty)))
      rw [e1, sw]
      simp
    rw [e, ih']
    simp
theorem srt_get {A : List α} (h : Srt g A) {i j : Nat} (hi : i < A.length) (hj : j < A.length) (hij : i < j) : ltM g A[j] A[i] = false := by
  rw [Srt, List.pairwise_iff_getElem] at h
  exact h i j hi hj hij
/-- The base where the left part is one element. -/
theorem sym_left (hs : SW D g) (P : List α) (x : α) (B Q : List α) {a m b : Int} (ha : a = (P.length : Int)) (hm : m = a + 1) (hb : b = m + (B.length : Int)) (dx : D x) (dB : AllD D B) (sB : Srt g B) (hN : P.length + B.length ≤ 1000000000) :
    ∃ R, (Option.bind (loopM (g_symMergeCmpFunc_b1 (P ++ x :: (B ++ Q)) a g) (m, b)) fun (t : (Int × Int) ⊕ Empty) => match t with | .inl s2 => (Option.bind (loopM (g_symMergeCmpFunc_b2 s2) (a, P ++ x :: (B ++ Q))) fun (t : (Int × List α) ⊕ Empty) => match t with | .inl s4 => (some s4.2) | .inr r => r.elim) | .inr r => r.elim) = some (P ++ (R ++ Q)) ∧ Srt g R ∧ Sta D g (x :: B) R := by
  have ga : getI (P ++ x :: (B ++ Q)) a = some x := getI_mid _ _ _ ha
  have gB : ∀ (t : Nat) (ht : t < B.length) (i : Int), i = m + (t : Int) → getI (P ++ x :: (B ++ Q)) i = some B[t] := fun t ht i hi => by
    have e : P ++ x :: (B ++ Q) = (P ++ [x]) ++ (B ++ Q) := by simp
    rw [e]
    exact getI_seg _ _ _ t ht (by simp only [List.length_append, List.length_singleton]; omega)
  obtain ⟨s, k1, k2, k3, k4, k5⟩ := bin_loop (mb := g_symMergeCmpFunc_b1 (P ++ x :: (B ++ Q)) a g) (fun h => atI (P ++ x :: (B ++ Q)) h fun z => ltM g z x) m b (fun i j h1 h2 h3 => by
    have hg := gB ((i + j) / 2 - m).toNat (by omega) ((i + j) / 2) (by omega)
    rw [atI_of hg]
    unfold g_symMergeCmpFunc_b1
    simp only
    rw [show decide (i < j) = true from decide_eq_true h2, half_eq (x := i + j) (by omega) (by omega), w64_of (n := (i + j) / 2 + 1) (by omega) (by omega)]
    simp only [cond_true]
    obtain ⟨c, hc, hcl⟩ := hs.cmp (dB _ (List.getElem_mem (show ((i + j) / 2 - m).toNat < B.length by omega))) dx
    rw [hg, Option.bind_some, ga, Option.bind_some, hc, Option.bind_some, hcl]
    cases ltM g (B[((i + j) / 2 - m).toNat]'(by omega)) x <;> rfl) (fun i h1 h2 => by
    unfold g_symMergeCmpFunc_b1
    simp only
    rw [show decide (i < i) = false from decide_eq_false (by omega)]
    rfl) (b - m).toNat m b (Nat.le_refl _) (by omega) (by omega) (by omega) (.inl rfl) (.inl rfl)
  rw [k1]
  simp only [Option.bind_some]
  obtain ⟨B1, B2, rfl, hB1⟩ : ∃ B1 B2, B = B1 ++ B2 ∧ B1.length = (s - m).toNat := ⟨B.take (s - m).toNat, B.drop (s - m).toNat, by rw [List.take_append_drop], by rw [List.length_take]; omega⟩
  rw [List.length_append] at hb hN
  have lo : ∀ z ∈ B1, ltM g z x = true := fun z hz => by
    obtain ⟨t, ht, rfl⟩ := List.mem_iff_getElem.1 hz
    have hlast : ltM g (B1[B1.length - 1]'(by omega)) x = true := by
      rcases k4 with k4 | k4
      · omega
      · rw [atI_of (gB (B1.length - 1) (by rw [List.length_append]; omega) (s - 1) (by omega)), List.getElem_append_left (by omega)] at k4
        exact k4
    by_cases e : t = B1.length - 1
    · subst e; exact hlast
    · have h1 := srt_get (List.pairwise_append.1 sB).1 (i := t) (j := B1.length - 1) ht (by omega) (by omega)
      cases h2 : ltM g B1[t] x
      · have := hs.ntrans _ _ _ (dB _ (List.mem_append_left _ (List.getElem_mem (show B1.length - 1 < B1.length by omega)))) (dB _ (List.mem_append_left _ hz)) dx h1 h2
        rw [hlast] at this; cases this
      · rfl
  have hi : ∀ z ∈ B2, ltM g z x = false := fun z hz => by
    obtain ⟨t, ht, rfl⟩ := List.mem_iff_getElem.1 hz
    have hfirst : ltM g (B2[0]'(by omega)) x = false := by
      rcases k5 with k5 | k5
      · omega
      · rw [atI_of (gB B1.length (by rw [List.length_append]; omega) s (by omega)), List.getElem_append_right (Nat.le_refl _)] at k5
        simpa using k5
    by_cases e : t = 0
    · subst e; exact hfirst
    · have h1 := srt_get (List.pairwise_append.1 sB).2.1 (i := 0) (j := t) (by omega) ht (by omega)
      exact hs.ntrans _ _ _ (dB _ (List.mem_append_right _ hz)) (dB _ (List.mem_append_right _ (List.getElem_mem (show 0 < B2.length by omega)))) dx h1 hfirst
  have dB1 : AllD D B1 := fun z hz => dB z (List.mem_append_left _ hz)
  have dB2 : AllD D B2 := fun z hz => dB z (List.mem_append_right _ hz)
  refine ⟨B1 ++ x :: B2, ?_, ?_, ?_⟩
  · have h1 := shiftR (s, s) B1 P x (B2 ++ Q) (by simp only; omega) (by omega)
    rw [ha, List.append_assoc, h1]
    simp
  · refine Srt.app (List.pairwise_append.1 sB).1 ?_ fun p hp q hq => ?_
    · rw [Srt, List.pairwise_cons]
      exact ⟨hi, (List.pairwise_append.1 sB).2.1⟩
    · rcases List.mem_cons.1 hq with rfl | hq
      · exact hs.asym _ _ (dB1 p hp) dx (lo p hp)
      · exact (List.pairwise_append.1 sB).2.2 p hp q hq
  · have h1 : Sta D g ([x] ++ B1) (B1 ++ [x]) := Sta.swap hs (fun z hz => by simp at hz; subst hz; exact dx) dB1 (fun p hp q hq => by simp at hp; subst hp; exact lo q hq)
    have := Sta.app h1 (Sta.refl (D := D) (g := g) B2)
    simpa using this
/-- The base where the right part is one element. -/
theorem sym_right (hs : SW D g) (P : List α) (x : α) (A Q : List α) {a m : Int} (ha : a = (P.length : Int)) (hm : m = a + (A.length : Int)) (dx : D x) (dA : AllD D A) (sA : Srt g A) (hN : P.length + A.length ≤ 1000000000) :
    ∃ R, (Option.bind (loopM (g_symMergeCmpFunc_b3 (P ++ (A ++ x :: Q)) m g) (a, m)) fun (t : (Int × Int) ⊕ Empty) => match t with | .inl s6 => (Option.bind (loopM (g_symMergeCmpFunc_b4 s6) (m, P ++ (A ++ x :: Q))) fun (t : (Int × List α) ⊕ Empty) => match t with | .inl s8 => (some s8.2) | .inr r => r.elim) | .inr r => r.elim) = some (P ++ (R ++ Q)) ∧ Srt g R ∧ Sta D g (A ++ [x]) R := by
  have gm : getI (P ++ (A ++ x :: Q)) m = some x := by
    have e : P ++ (A ++ x :: Q) = (P ++ A) ++ x :: Q := by simp
    rw [e]
    exact getI_mid _ _ _ (by simp only [List.length_append]; omega)
  have gA : ∀ (t : Nat) (ht : t < A.length) (i : Int), i = a + (t : Int) → getI (P ++ (A ++ x :: Q)) i = some A[t] := fun t ht i hi => getI_seg _ _ _ t ht (by omega)
  obtain ⟨s, k1, k2, k3, k4, k5⟩ := bin_loop (mb := g_symMergeCmpFunc_b3 (P ++ (A ++ x :: Q)) m g) (fun h => atI (P ++ (A ++ x :: Q)) h fun z => !ltM g x z) a m (fun i j h1 h2 h3 => by
    have hg := gA ((i + j) / 2 - a).toNat (by omega) ((i + j) / 2) (by omega)
    rw [atI_of hg]
    unfold g_symMergeCmpFunc_b3
    simp only
    rw [show decide (i < j) = true from decide_eq_true h2, half_eq (x := i + j) (by omega) (by omega), w64_of (n := (i + j) / 2 + 1) (by omega) (by omega)]
    simp only [cond_true]
    obtain ⟨c, hc, hcl⟩ := hs.cmp dx (dA _ (List.getElem_mem (show ((i + j) / 2 - a).toNat < A.length by omega)))
    rw [gm, Option.bind_some, hg, Option.bind_some, hc, Option.bind_some, hcl]
    cases ltM g x (A[((i + j) / 2 - a).toNat]'(by omega)) <;> rfl) (fun i h1 h2 => by
    unfold g_symMergeCmpFunc_b3
    simp only
    rw [show decide (i < i) = false from decide_eq_false (by omega)]
    rfl) (m - a).toNat a m (Nat.le_refl _) (by omega) (by omega) (by omega) (.inl rfl) (.inl rfl)
  rw [k1]
  simp only [Option.bind_some]
  obtain ⟨A1, A2, rfl, hA1⟩ : ∃ A1 A2, A = A1 ++ A2 ∧ A1.length = (s - a).toNat := ⟨A.take (s - a).toNat, A.drop (s - a).toNat, by rw [List.take_append_drop], by rw [List.length_take]; omega⟩
  rw [List.length_append] at hm hN
  have dA1 : AllD D A1 := fun z hz => dA z (List.mem_append_left _ hz)
  have dA2 : AllD D A2 := fun z hz => dA z (List.mem_append_right _ hz)
  have lo : ∀ z ∈ A1, ltM g x z = false := fun z hz => by
    obtain ⟨t, ht, rfl⟩ := List.mem_iff_getElem.1 hz
    have hlast : ltM g x (A1[A1.length - 1]'(by omega)) = false := by
      rcases k4 with k4 | k4
      · omega
      · rw [atI_of (gA (A1.length - 1) (by rw [List.length_append]; omega) (s - 1) (by omega)), List.getElem_append_left (by omega)] at k4
        simpa using k4
    by_cases e : t = A1.length - 1
    · subst e; exact hlast
    · have h1 := srt_get (List.pairwise_append.1 sA).1 (i := t) (j := A1.length - 1) ht (by omega) (by omega)
      exact hs.ntrans _ _ _ dx (dA1 _ (List.getElem_mem (show A1.length - 1 < A1.length by omega))) (dA1 _ hz) hlast h1
  have hi : ∀ z ∈ A2, ltM g x z = true := fun z hz => by
    obtain ⟨t, ht, rfl⟩ := List.mem_iff_getElem.1 hz
    have hfirst : ltM g x (A2[0]'(by omega)) = true := by
      rcases k5 with k5 | k5
      · omega
      · rw [atI_of (gA A1.length (by rw [List.length_append]; omega) s (by omega)), List.getElem_append_right (Nat.le_refl _)] at k5
        simpa using k5
    by_cases e : t = 0
    · subst e; exact hfirst
    · have h1 := srt_get (List.pairwise_append.1 sA).2.1 (i := 0) (j := t) (by omega) ht (by omega)
      cases h2 : ltM g x A2[t]
      · have := hs.ntrans _ _ _ dx (dA2 _ hz) (dA2 _ (List.getElem_mem (show 0 < A2.length by omega))) h2 h1
        rw [hfirst] at this; cases this
      · rfl
  refine ⟨A1 ++ x :: A2, ?_, ?_, ?_⟩
  · have h1 := shiftL (s, s) A2.length A2 rfl (P ++ A1) x Q (by simp only [List.length_append]; omega) (by simp only [List.length_append]; omega)
    have e1 : P ++ (A1 ++ A2 ++ x :: Q) = (P ++ A1) ++ (A2 ++ x :: Q) := by simp
    rw [e1, show m = (((P ++ A1).length : Nat) : Int) + (A2.length : Int) by simp only [List.length_append]; omega, h1]
    simp
  · refine Srt.app (List.pairwise_append.1 sA).1 ?_ fun p hp q hq => ?_
    · rw [Srt, List.pairwise_cons]
      exact ⟨fun z hz => hs.asym _ _ dx (dA2 z hz) (hi z hz), (List.pairwise_append.1 sA).2.1⟩
    · rcases List.mem_cons.1 hq with rfl | hq
      · exact lo p hp
      · exact (List.pairwise_append.1 sA).2.2 p hp q hq
  · have h1 : Sta D g (A2 ++ [x]) ([x] ++ A2) := Sta.swap hs dA2 (fun z hz => by simp at hz; subst hz; exact dx) (fun p hp q hq => by simp at hq; subst hq; exact hi p hp)
    have := Sta.app (Sta.refl (D := D) (g := g) A1) h1
    simpa using this
end
section
variable {α : Type} {D : α → Prop} {g : α → α → Option Int}
theorem symMerge_eq (hs : SW D g) : ∀ (fu : Nat) (P A B Q : List α) (a m b : Int), a = (P.length : Int) → m = a + (A.length : Int) → b = m + (B.length : Int) → 0 < A.length → 0 < B.length → A.length + B.length ≤ 2 ^ fu → AllD D A → AllD D B → Srt g A → Srt g B → P.length + A.length + B.length + Q.length ≤ 1000000000 →
    ∃ R, g_symMergeCmpFunc fu (P ++ (A ++ (B ++ Q))) a m b g = some (P ++ (R ++ Q)) ∧ Srt g R ∧ Sta D g (A ++ B) R := by
  intro fu
  induction fu with
  | zero => intro P A B Q a m b _ _ _ h1 h2 h3; exfalso; simp at h3; omega
  | succ fu ih =>
    intro P A B Q a m b ha hm hb hA hB hsz dA dB sA sB hN
    rw [show g_symMergeCmpFunc (α := α) (fu + 1) = g_symMergeCmpFunc_s (g_symMergeCmpFunc fu) from rfl]
    unfold g_symMergeCmpFunc_s
    rw [w64_of (n := m - a) (by omega) (by omega), w64_of (n := b - m) (by omega) (by omega), half_eq (x := a + b) (by omega) (by omega)]
    by_cases hA1 : A.length = 1
    · -- one element at the left
      obtain ⟨x, rfl⟩ : ∃ x, A = [x] := List.length_eq_one_iff.1 hA1
      rw [show (m - a == 1) = true by simp; simp only [List.length_singleton] at hm; omega]
      simp only [cond_true]
      obtain ⟨R, r1, r2, r3⟩ := sym_left hs P x B Q (a := a) (m := m) (b := b) ha (by simp only [List.length_singleton] at hm; omega) hb (dA x (by simp)) dB sB (by omega)
      exact ⟨R, r1, r2, r3⟩
    · rw [show (m - a == 1) = false by simp; omega]
      simp only [cond_false]
      by_cases hB1 : B.length = 1
      · obtain ⟨x, rfl⟩ : ∃ x, B = [x] := List.length_eq_one_iff.1 hB1
        rw [show (b - m == 1) = true by simp; simp only [List.length_singleton] at hb; omega]
        simp only [cond_true]
        exact sym_right hs P x A Q (a := a) (m := m) ha hm (dB x (by simp)) dA sA (by omega)
      · rw [show (b - m == 1) = false by simp; omega]
        simp only [cond_false]
        generalize hmid : (a + b) / 2 = mid
        rw [w64_of (n := mid + m) (by omega) (by omega), w64_of (n := mid + m - b) (by omega) (by omega)]
        have hL : (P ++ (A ++ (B ++ Q))) = P ++ ((A ++ B) ++ Q) := by simp
        have gA : ∀ (t : Nat) (ht : t < A.length) (i : Int), i = a + (t : Int) → getI (P ++ (A ++ (B ++ Q))) i = some A[t] := fun t ht i hi => getI_seg _ _ _ t ht (by omega)
        have gB : ∀ (t : Nat) (ht : t < B.length) (i : Int), i = m + (t : Int) → getI (P ++ (A ++ (B ++ Q))) i = some B[t] := fun t ht i hi => by
          have e : P ++ (A ++ (B ++ Q)) = (P ++ A) ++ (B ++ Q) := by simp
          rw [e]
          exact getI_seg _ _ _ t ht (by simp only [List.length_append]; omega)
        obtain ⟨lo, hi, hpair, hlo1, hlohi, hhi1, hcase⟩ : ∃ lo hi : Int, (bif decide (m > mid) then some (mid + m - b, mid) else some (a, m)) = some (lo, hi) ∧ a ≤ lo ∧ lo ≤ hi ∧ hi ≤ m ∧ ((m > mid ∧ lo = mid + m - b ∧ hi = mid) ∨ (m ≤ mid ∧ lo = a ∧ hi = m)) := by
          by_cases h : m > mid
          · exact ⟨mid + m - b, mid, by rw [decide_eq_true h]; rfl, by omega, by omega, by omega, .inl ⟨h, rfl, rfl⟩⟩
          · exact ⟨a, m, by rw [decide_eq_false h]; rfl, by omega, by omega, by omega, .inr ⟨by omega, rfl, rfl⟩⟩
        rw [hpair]
        simp only [Option.bind_some]
        obtain ⟨s, k1, k2, k3, k4, k5⟩ := bin_loop (mb := g_symMergeCmpFunc_b5 (P ++ (A ++ (B ++ Q))) a m b g) (fun h => atI (P ++ (A ++ (B ++ Q))) h fun x => atI (P ++ (A ++ (B ++ Q))) (mid + m - 1 - h) fun y => !ltM g y x) lo hi (fun i j h1 h2 h3 => by
          have hg := gA ((i + j) / 2 - a).toNat (by omega) ((i + j) / 2) (by omega)
          have hg2 := gB (mid + m - 1 - (i + j) / 2 - m).toNat (by omega) (mid + m - 1 - (i + j) / 2) (by omega)
          rw [atI_of hg, atI_of hg2]
          unfold g_symMergeCmpFunc_b5
          simp only
          rw [show decide (i < j) = true from decide_eq_true h2, half_eq (x := i + j) (by omega) (by omega), half_eq (x := a + b) (by omega) (by omega), hmid, w64_of (n := (i + j) / 2 + 1) (by omega) (by omega), w64_of (n := mid + m) (by omega) (by omega), w64_of (n := mid + m - 1) (by omega) (by omega), w64_of (n := mid + m - 1 - (i + j) / 2) (by omega) (by omega)]
          simp only [cond_true]
          obtain ⟨c, hc, hcl⟩ := hs.cmp (dB _ (List.getElem_mem (show (mid + m - 1 - (i + j) / 2 - m).toNat < B.length by omega))) (dA _ (List.getElem_mem (show ((i + j) / 2 - a).toNat < A.length by omega)))
          rw [hg2, Option.bind_some, hg, Option.bind_some, hc, Option.bind_some, hcl]
          cases ltM g (B[(mid + m - 1 - (i + j) / 2 - m).toNat]'(by omega)) (A[((i + j) / 2 - a).toNat]'(by omega)) <;> rfl) (fun i h1 h2 => by
          unfold g_symMergeCmpFunc_b5
          simp only
          rw [show decide (i < i) = false from decide_eq_false (by omega)]
          rfl) (hi - lo).toNat lo hi (Nat.le_refl _) (by omega) (by omega) (by omega) (.inl rfl) (.inl rfl)
        rw [k1]
        simp only [Option.bind_some]
        rw [w64_of (n := mid + m - s) (by omega) (by omega)]
        have hs1 : a ≤ s ∧ s ≤ m ∧ m ≤ mid + m - s ∧ mid + m - s ≤ b := by omega
        obtain ⟨A1, A2, rfl, hA1⟩ : ∃ A1 A2, A = A1 ++ A2 ∧ A1.length = (s - a).toNat := ⟨A.take (s - a).toNat, A.drop (s - a).toNat, by rw [List.take_append_drop], by rw [List.length_take]; omega⟩
        obtain ⟨B1, B2, rfl, hB1⟩ : ∃ B1 B2, B = B1 ++ B2 ∧ B1.length = (mid - s).toNat := ⟨B.take (mid - s).toNat, B.drop (mid - s).toNat, by rw [List.take_append_drop], by rw [List.length_take]; omega⟩
        rw [List.length_append] at hm hb hA hB
        rw [List.length_append, List.length_append] at hsz hN
        have dA1 : AllD D A1 := fun z hz => dA z (List.mem_append_left _ hz)
        have dA2 : AllD D A2 := fun z hz => dA z (List.mem_append_right _ hz)
        have dB1 : AllD D B1 := fun z hz => dB z (List.mem_append_left _ hz)
        have dB2 : AllD D B2 := fun z hz => dB z (List.mem_append_right _ hz)
        obtain ⟨sA1, sA2, sA12⟩ := List.pairwise_append.1 sA
        obtain ⟨sB1, sB2, sB12⟩ := List.pairwise_append.1 sB
        -- what the search has found
        have lt1 : ∀ x ∈ A2, ∀ y ∈ B1, ltM g y x = true := fun x hx y hy => by
          obtain ⟨t, ht, rfl⟩ := List.mem_iff_getElem.1 hx
          obtain ⟨u, hu, rfl⟩ := List.mem_iff_getElem.1 hy
          have hbase : ltM g (B1[B1.length - 1]'(by omega)) (A2[0]'(by omega)) = true := by
            rcases k5 with k5 | k5
            · omega
            · rw [atI_of (gA A1.length (by rw [List.length_append]; omega) s (by omega)), atI_of (gB (B1.length - 1) (by rw [List.length_append]; omega) (mid + m - 1 - s) (by omega)), List.getElem_append_right (Nat.le_refl _), List.getElem_append_left (by omega)] at k5
              simpa using k5
          have h1 : ltM g (A2[t]) (A2[0]'(by omega)) = false := by
            by_cases e : t = 0
            · subst e; exact hs.irr (dA2 _ hx)
            · exact srt_get sA2 (by omega) ht (by omega)
          have h2 : ltM g (B1[B1.length - 1]'(by omega)) (B1[u]) = false := by
            by_cases e : u = B1.length - 1
            · subst e; exact hs.irr (dB1 _ hy)
            · exact srt_get sB1 hu (by omega) (by omega)
          have dl : D (B1[B1.length - 1]'(by omega)) := dB1 _ (List.getElem_mem (by omega))
          have df : D (A2[0]'(by omega)) := dA2 _ (List.getElem_mem (by omega))
          cases h3 : ltM g B1[u] A2[t]
          · have h4 := hs.ntrans _ _ _ (dB1 _ hy) (dA2 _ hx) df h3 h1
            have h5 := hs.ntrans _ _ _ dl (dB1 _ hy) df h2 h4
            rw [hbase] at h5; cases h5
          · rfl
        have lt2 : ∀ x ∈ A1, ∀ y ∈ B2, ltM g y x = false := fun x hx y hy => by
          obtain ⟨t, ht, rfl⟩ := List.mem_iff_getElem.1 hx
          obtain ⟨u, hu, rfl⟩ := List.mem_iff_getElem.1 hy
          have hbase : ltM g (B2[0]'(by omega)) (A1[A1.length - 1]'(by omega)) = false := by
            rcases k4 with k4 | k4
            · omega
            · rw [atI_of (gA (A1.length - 1) (by rw [List.length_append]; omega) (s - 1) (by omega)), atI_of (gB B1.length (by rw [List.length_append]; omega) (mid + m - 1 - (s - 1)) (by omega)), List.getElem_append_right (Nat.le_refl _), List.getElem_append_left (by omega)] at k4
              simpa using k4
          have dl : D (A1[A1.length - 1]'(by omega)) := dA1 _ (List.getElem_mem (by omega))
          have df : D (B2[0]'(by omega)) := dB2 _ (List.getElem_mem (by omega))
          have h1 : ltM g (A1[A1.length - 1]'(by omega)) (A1[t]) = false := by
            by_cases e : t = A1.length - 1
            · subst e; exact hs.irr (dA1 _ hx)
            · exact srt_get sA1 ht (by omega) (by omega)
          have h2 : ltM g (B2[u]) (B2[0]'(by omega)) = false := by
            by_cases e : u = 0
            · subst e; exact hs.irr (dB2 _ hy)
            · exact srt_get sB2 (by omega) hu (by omega)
          exact hs.ntrans _ _ _ (dB2 _ hy) dl (dA1 _ hx) (hs.ntrans _ _ _ (dB2 _ hy) df dl h2 hbase) h1
        -- the turn
        have hrot : (Option.bind (bif (decide (s < m) && decide (m < mid + m - s)) then (Option.bind (g_rotateCmpFunc (P ++ (A1 ++ A2 ++ (B1 ++ B2 ++ Q))) s m (mid + m - s) g) fun v4 => some v4) else (some (P ++ (A1 ++ A2 ++ (B1 ++ B2 ++ Q))))) : (List α → Option (List α)) → Option (List α)) = fun k => k (P ++ (A1 ++ (B1 ++ (A2 ++ (B2 ++ Q))))) := by
          funext k
          by_cases h : s < m ∧ m < mid + m - s
          · rw [decide_eq_true h.1, decide_eq_true h.2]
            have e : P ++ (A1 ++ A2 ++ (B1 ++ B2 ++ Q)) = (P ++ A1) ++ (A2 ++ (B1 ++ (B2 ++ Q))) := by simp
            rw [e, rotate_eq g (P ++ A1) A2 B1 (B2 ++ Q) (by omega) (by omega) (by simp only [List.length_append]; omega) (by simp only [List.length_append]; omega) (by omega) (by simp only [List.length_append]; omega)]
            simp
          · have e : P ++ (A1 ++ A2 ++ (B1 ++ B2 ++ Q)) = P ++ (A1 ++ (B1 ++ (A2 ++ (B2 ++ Q)))) := by
              by_cases h2 : A2 = []
              · subst h2; simp
              · have : B1 = [] := by
                  have h3 : 0 < A2.length := List.length_pos_iff.2 h2
                  exact List.length_eq_zero_iff.1 (by omega)
                subst this; simp
            rw [show (decide (s < m) && decide (m < mid + m - s)) = false by rw [Bool.and_eq_false_iff, decide_eq_false_iff_not, decide_eq_false_iff_not]; omega, e]
            rfl
        rw [hrot]
        dsimp only
        -- the left half
        obtain ⟨R1, rec1, sR1, tR1⟩ : ∃ R1, (Option.bind (bif (decide (a < s) && decide (s < mid)) then (Option.bind (g_symMergeCmpFunc fu (P ++ (A1 ++ (B1 ++ (A2 ++ (B2 ++ Q))))) a s mid g) fun v5 => some v5) else (some (P ++ (A1 ++ (B1 ++ (A2 ++ (B2 ++ Q))))))) : (List α → Option (List α)) → Option (List α)) = (fun k => k (P ++ (R1 ++ (A2 ++ (B2 ++ Q))))) ∧ Srt g R1 ∧ Sta D g (A1 ++ B1) R1 := by
          by_cases h : a < s ∧ s < mid
          · obtain ⟨R1, r1, r2, r3⟩ := ih P A1 B1 (A2 ++ (B2 ++ Q)) a s mid ha (by omega) (by omega) (by omega) (by omega) (by rw [Nat.pow_succ] at hsz; omega) dA1 dB1 sA1 sB1 (by simp only [List.length_append]; omega)
            refine ⟨R1, ?_, r2, r3⟩
            funext k
            rw [decide_eq_true h.1, decide_eq_true h.2]
            simp only [Bool.and_self, cond_true]
            rw [r1]
            rfl
          · refine ⟨A1 ++ B1, ?_, ?_, Sta.refl _⟩
            · funext k
              rw [show (decide (a < s) && decide (s < mid)) = false by rw [Bool.and_eq_false_iff, decide_eq_false_iff_not, decide_eq_false_iff_not]; omega]
              simp
            · by_cases h2 : A1 = []
              · subst h2; simpa using sB1
              · have : B1 = [] := by
                  have h3 : 0 < A1.length := List.length_pos_iff.2 h2
                  exact List.length_eq_zero_iff.1 (by omega)
                subst this; rw [List.append_nil]; exact sA1
        rw [rec1]
        dsimp only
        have lR1 : R1.length = A1.length + B1.length := by have := tR1.len; simpa using this
        -- the right half
        obtain ⟨R2, rec2, sR2, tR2⟩ : ∃ R2, (bif (decide (mid < mid + m - s) && decide (mid + m - s < b)) then (Option.bind (g_symMergeCmpFunc fu (P ++ (R1 ++ (A2 ++ (B2 ++ Q)))) mid (mid + m - s) b g) fun v6 => some v6) else (some (P ++ (R1 ++ (A2 ++ (B2 ++ Q)))))) = some (P ++ (R1 ++ R2 ++ Q)) ∧ Srt g R2 ∧ Sta D g (A2 ++ B2) R2 := by
          by_cases h : mid < mid + m - s ∧ mid + m - s < b
          · obtain ⟨R2, r1, r2, r3⟩ := ih (P ++ R1) A2 B2 Q mid (mid + m - s) b (by simp only [List.length_append]; omega) (by omega) (by omega) (by omega) (by omega) (by rw [Nat.pow_succ] at hsz; omega) dA2 dB2 sA2 sB2 (by simp only [List.length_append]; omega)
            refine ⟨R2, ?_, r2, r3⟩
            rw [decide_eq_true h.1, decide_eq_true h.2]
            simp only [Bool.and_self, cond_true]
            rw [show P ++ (R1 ++ (A2 ++ (B2 ++ Q))) = (P ++ R1) ++ (A2 ++ (B2 ++ Q)) by simp, r1]
            simp
          · refine ⟨A2 ++ B2, ?_, ?_, Sta.refl _⟩
            · rw [show (decide (mid < mid + m - s) && decide (mid + m - s < b)) = false by rw [Bool.and_eq_false_iff, decide_eq_false_iff_not, decide_eq_false_iff_not]; omega]
              simp
            · by_cases h2 : A2 = []
              · subst h2; simpa using sB2
              · have : B2 = [] := by
                  have h3 : 0 < A2.length := List.length_pos_iff.2 h2
                  exact List.length_eq_zero_iff.1 (by omega)
                subst this; rw [List.append_nil]; exact sA2
        refine ⟨R1 ++ R2, rec2, Srt.app sR1 sR2 fun p hp q hq => ?_, ?_⟩
        · have hp' := tR1.perm.mem_iff.1 hp
          have hq' := tR2.perm.mem_iff.1 hq
          rcases List.mem_append.1 hp' with hp' | hp' <;> rcases List.mem_append.1 hq' with hq' | hq'
          · exact sA12 p hp' q hq'
          · exact lt2 p hp' q hq'
          · exact hs.asym _ _ (dB1 p hp') (dA2 q hq') (lt1 q hq' p hp')
          · exact sB12 p hp' q hq'
        · have h1 : Sta D g (A2 ++ B1) (B1 ++ A2) := Sta.swap hs dA2 dB1 lt1
          have h2 := Sta.app (Sta.refl (D := D) (g := g) A1) (Sta.app h1 (Sta.refl B2))
          have h3 := Sta.app tR1 tR2
          refine Sta.trans ?_ h3
          have e1 : A1 ++ (A2 ++ B1 ++ B2) = A1 ++ A2 ++ (B1 ++ B2) := by simp
          have e2 : A1 ++ (B1 ++ A2 ++ B2) = A1 ++ B1 ++ (A2 ++ B2) := by simp
          rw [e1, e2] at h2
          exact h2
end
section
variable {α : Type} {D : α → Prop} {g : α → α → Option Int}
theorem le64 {n : Nat} (h : n ≤ 4000000000) : n ≤ 2 ^ 64 := Nat.le_trans h (by decide)
theorem le25 {n : Nat} (h : n ≤ 400000000) : n ≤ 20 * 2 ^ 25 := Nat.le_trans h (by decide)
/-! The blocks. -/
/-- What a list of sorted runs of bs each, and a shorter one, is. -/
structure Runs (D : α → Prop) (g : α → α → Option Int) (bs : Nat) (L : List α) (Bs : List (List α)) (T : List α) : Prop where
  eq : L = Bs.flatten ++ T
  blk : ∀ B ∈ Bs, B.length = bs ∧ Srt g B
  rest : T.length < bs
theorem flatten_len {bs : Nat} : ∀ {Bs : List (List α)}, (∀ B ∈ Bs, B.length = bs ∧ Srt g B) → Bs.flatten.length = Bs.length * bs
  | [], _ => by simp
  | B :: Bs, h => by
    rw [List.flatten_cons, List.length_append, flatten_len fun X hX => h X (List.mem_cons_of_mem _ hX), (h B (List.mem_cons_self ..)).1, List.length_cons, Nat.succ_mul]; omega
theorem st1_loop (hs : SW D g) (n : Int) : ∀ (k : Nat) (L P : List α), L.length ≤ k → n = (P.length : Int) + (L.length : Int) → AllD D L → P.length + L.length ≤ 1000000000 →
    ∃ (Bs : List (List α)) (T : List α) (a' b' : Int), loopM (g_stableCmpFunc_b1 n g) ((P.length : Int), (P.length : Int) + 20, P ++ L) = some (.inl (a', b', P ++ (Bs.flatten ++ T))) ∧ a' = (P.length : Int) + (Bs.flatten.length : Int) ∧ (∀ B ∈ Bs, B.length = 20 ∧ Srt g B) ∧ T.length < 20 ∧ Sta D g L (Bs.flatten ++ T)
  | 0, L, P, hk, hn, dL, hN => by
    refine ⟨[], L, (P.length : Int), (P.length : Int) + 20, loopM_out ?_, by simp, by simp, by omega, Sta.refl L⟩
    unfold g_stableCmpFunc_b1
    simp only
    rw [show decide ((P.length : Int) + 20 ≤ n) = false from decide_eq_false (by omega)]
    simp
  | k + 1, L, P, hk, hn, dL, hN => by
    by_cases h : 20 ≤ L.length
    · obtain ⟨A, L', rfl, hA⟩ : ∃ A L', L = A ++ L' ∧ A.length = 20 := ⟨L.take 20, L.drop 20, by rw [List.take_append_drop], by rw [List.length_take]; omega⟩
      rw [List.length_append] at hk hn hN
      have dA : AllD D A := fun z hz => dL z (List.mem_append_left _ hz)
      obtain ⟨R, r1, r2, r3⟩ := insertion_eq hs P A L' (a := (P.length : Int)) (b := (P.length : Int) + 20) rfl (by omega) dA (by omega)
      have hR : R.length = 20 := by rw [r3.len, hA]
      obtain ⟨Bs, T, a', b', s1, s2, s3, s4, s5⟩ := st1_loop hs n k L' (P ++ R) (by omega) (by rw [List.length_append]; omega) (fun z hz => dL z (List.mem_append_right _ hz)) (by rw [List.length_append]; omega)
      refine ⟨R :: Bs, T, a', b', ?_, ?_, ?_, s4, ?_⟩
      · have e : loopM (g_stableCmpFunc_b1 n g) ((P.length : Int), (P.length : Int) + 20, P ++ (A ++ L')) = loopM (g_stableCmpFunc_b1 n g) (((P ++ R).length : Int), ((P ++ R).length : Int) + 20, (P ++ R) ++ L') := by
          refine loopM_next ?_
          unfold g_stableCmpFunc_b1
          simp only
          rw [show decide ((P.length : Int) + 20 ≤ n) = true from decide_eq_true (by omega), w64_of (n := (P.length : Int) + 20 + 20) (by omega) (by omega)]
          simp only [cond_true]
          rw [r1, Option.bind_some, List.length_append, hR, List.append_assoc, show ((P.length + 20 : Nat) : Int) = (P.length : Int) + 20 by omega]
        rw [e, s1]
        simp
      · rw [List.flatten_cons, List.length_append, hR]
        rw [List.length_append, hR] at s2
        omega
      · intro B hB
        rcases List.mem_cons.1 hB with rfl | hB
        · exact ⟨hR, r2⟩
        · exact s3 B hB
      · have := Sta.app r3 s5
        simpa using this
    · refine ⟨[], L, (P.length : Int), (P.length : Int) + 20, loopM_out ?_, by simp, by simp, by omega, Sta.refl L⟩
      unfold g_stableCmpFunc_b1
      simp only
      rw [show decide ((P.length : Int) + 20 ≤ n) = false from decide_eq_false (by omega)]
      simp
theorem st3_loop (hs : SW D g) (n : Int) (bs : Nat) (s3 : Int × List α) (hbs : s3.1 = (bs : Int)) (h0 : 0 < bs) (hb1 : bs ≤ 1000000000) : ∀ (k : Nat) (Bs : List (List α)), Bs.length ≤ k → ∀ (P T : List α), n = (P.length : Int) + (Bs.flatten.length : Int) + (T.length : Int) → AllD D Bs.flatten → AllD D T → (∀ B ∈ Bs, B.length = bs ∧ Srt g B) → T.length < bs → P.length + Bs.flatten.length + T.length ≤ 1000000000 →
    ∃ (Bs' R : List (List α)) (a' b' : Int), loopM (g_stableCmpFunc_b3 n g s3) ((P.length : Int), (P.length : Int) + 2 * (bs : Int), P ++ (Bs.flatten ++ T)) = some (.inl (a', b', P ++ (Bs'.flatten ++ (R.flatten ++ T)))) ∧ a' = (P.length : Int) + (Bs'.flatten.length : Int) ∧ (∀ B ∈ Bs', B.length = 2 * bs ∧ Srt g B) ∧ (R = [] ∨ ∃ A, R = [A] ∧ A.length = bs ∧ Srt g A) ∧ Sta D g Bs.flatten (Bs'.flatten ++ R.flatten) := by
  intro k
  induction k with
  | zero =>
    intro Bs hk P T hn dB dT hB hT hN
    have : Bs = [] := List.length_eq_zero_iff.1 (by omega)
    subst this
    simp only [List.flatten_nil, List.length_nil, List.nil_append] at *
    refine ⟨[], [], (P.length : Int), (P.length : Int) + 2 * (bs : Int), loopM_out ?_, by simp, by simp, .inl rfl, Sta.refl _⟩
    unfold g_stableCmpFunc_b3
    simp only
    rw [show decide ((P.length : Int) + 2 * (bs : Int) ≤ n) = false from decide_eq_false (by omega)]
    simp
  | succ k ih =>
    intro Bs hk P T hn dB dT hB hT hN
    match Bs with
    | [] =>
      simp only [List.flatten_nil, List.length_nil, List.nil_append] at *
      refine ⟨[], [], (P.length : Int), (P.length : Int) + 2 * (bs : Int), loopM_out ?_, by simp, by simp, .inl rfl, Sta.refl _⟩
      unfold g_stableCmpFunc_b3
      simp only
      rw [show decide ((P.length : Int) + 2 * (bs : Int) ≤ n) = false from decide_eq_false (by omega)]
      simp
    | [A] =>
      have hA := hB A (by simp)
      simp only [List.flatten_cons, List.flatten_nil, List.append_nil] at *
      refine ⟨[], [A], (P.length : Int), (P.length : Int) + 2 * (bs : Int), loopM_out ?_, by simp, by simp, .inr ⟨A, rfl, hA⟩, by simpa using Sta.refl A⟩
      unfold g_stableCmpFunc_b3
      simp only
      rw [show decide ((P.length : Int) + 2 * (bs : Int) ≤ n) = false from decide_eq_false (by omega)]
      simp
    | A :: B :: Bs =>
      have hA := hB A (by simp)
      have hB' := hB B (by simp)
      simp only [List.flatten_cons, List.length_append, List.length_cons] at hn hN hk
      have dA : AllD D A := fun z hz => dB z (by simp [hz])
      have dB1 : AllD D B := fun z hz => dB z (by simp [hz])
      have dBs : AllD D Bs.flatten := fun z hz => dB z (by simp only [List.flatten_cons, List.mem_append]; exact .inr (.inr hz))
      obtain ⟨R, r1, r2, r3⟩ := symMerge_eq hs 64 P A B (Bs.flatten ++ T) (P.length : Int) ((P.length : Int) + (bs : Int)) ((P.length : Int) + 2 * (bs : Int)) rfl (by omega) (by omega) (by omega) (by omega) (le64 (by omega)) dA dB1 hA.2 hB'.2 (by rw [List.length_append]; omega)
      have hR : R.length = 2 * bs := by have := r3.len; rw [List.length_append] at this; omega
      obtain ⟨Bs', R', a', b', s1, s2, s4, s5, s6⟩ := ih Bs (by omega) (P ++ R) T (by rw [List.length_append]; omega) dBs dT (fun X hX => hB X (by simp [hX])) hT (by rw [List.length_append]; omega)
      refine ⟨R :: Bs', R', a', b', ?_, ?_, ?_, s5, ?_⟩
      · have e : loopM (g_stableCmpFunc_b3 n g s3) ((P.length : Int), (P.length : Int) + 2 * (bs : Int), P ++ ((A :: B :: Bs).flatten ++ T)) = loopM (g_stableCmpFunc_b3 n g s3) (((P ++ R).length : Int), ((P ++ R).length : Int) + 2 * (bs : Int), (P ++ R) ++ (Bs.flatten ++ T)) := by
          refine loopM_next ?_
          unfold g_stableCmpFunc_b3
          simp only
          rw [hbs, show decide ((P.length : Int) + 2 * (bs : Int) ≤ n) = true from decide_eq_true (by omega), w64_of (n := (P.length : Int) + (bs : Int)) (by omega) (by omega), w64_of (n := 2 * (bs : Int)) (by omega) (by omega), w64_of (n := (P.length : Int) + 2 * (bs : Int) + 2 * (bs : Int)) (by omega) (by omega)]
          simp only [cond_true]
          rw [show P ++ ((A :: B :: Bs).flatten ++ T) = P ++ (A ++ (B ++ (Bs.flatten ++ T))) by simp, r1, Option.bind_some, List.length_append, hR, List.append_assoc, show ((P.length + 2 * bs : Nat) : Int) = (P.length : Int) + 2 * (bs : Int) by omega]
        rw [e, s1]
        simp
      · rw [List.flatten_cons, List.length_append, hR]
        rw [List.length_append, hR] at s2
        omega
      · intro X hX
        rcases List.mem_cons.1 hX with rfl | hX
        · exact ⟨hR, r2⟩
        · exact s4 X hX
      · have := Sta.app r3 s6
        simpa using this
theorem st2_loop (hs : SW D g) (n : Int) : ∀ (k bs : Nat) (L : List α) (Bs : List (List α)) (T : List α), n = (L.length : Int) → L.length ≤ bs * 2 ^ k → 0 < bs → bs ≤ 1000000000 → L.length ≤ 400000000 → AllD D L → Runs D g bs L Bs T → Srt g T →
    ∃ c R, loopM (g_stableCmpFunc_b2 n g) ((bs : Int), L) = some (.inl (c, R)) ∧ Srt g R ∧ Sta D g L R := by
  have stop : ∀ (bs : Nat) (L : List α) (Bs : List (List α)) (T : List α), n = (L.length : Int) → L.length ≤ bs → Runs D g bs L Bs T → Srt g T → ∃ c R, loopM (g_stableCmpFunc_b2 n g) ((bs : Int), L) = some (.inl (c, R)) ∧ Srt g R ∧ Sta D g L R := by
    intro bs L Bs T hn hl hr hT
    refine ⟨(bs : Int), L, loopM_out ?_, ?_, Sta.refl _⟩
    · unfold g_stableCmpFunc_b2
      simp only
      rw [show decide ((bs : Int) < n) = false from decide_eq_false (by omega)]
      rfl
    · have he := hr.eq
      have hfl := flatten_len (g := g) hr.blk
      match Bs, hr, he, hfl with
      | [], _, he, _ => rw [he]; simpa using hT
      | [A], hr, he, _ =>
        have hA := hr.blk A (by simp)
        have hlen : L.length = A.length + T.length := by rw [he]; simp
        have : T = [] := List.length_eq_zero_iff.1 (by omega)
        subst this
        rw [he]; simpa using hA.2
      | A :: B :: Bs, hr, he, hfl =>
        exfalso
        have hA := hr.blk A (by simp)
        have hB := hr.blk B (by simp)
        have hlen : L.length = A.length + (B.length + Bs.flatten.length) + T.length := by rw [he]; simp; omega
        have := hr.rest
        omega
  intro k
  induction k with
  | zero =>
    intro bs L Bs T hn hl _ _ _ _ hr hT
    exact stop bs L Bs T hn (by simpa using hl) hr hT
  | succ k ih =>
    intro bs L Bs T hn hl h0 hb1 hL1 dL hr hT
    by_cases hlt : L.length ≤ bs
    · exact stop bs L Bs T hn hlt hr hT
    · have he := hr.eq
      have hlen : L.length = Bs.flatten.length + T.length := by rw [he, List.length_append]
      have dB : AllD D Bs.flatten := fun z hz => dL z (by rw [he]; exact List.mem_append_left _ hz)
      have dT : AllD D T := fun z hz => dL z (by rw [he]; exact List.mem_append_right _ hz)
      obtain ⟨Bs', R, a', b', s1, s2, s3, s4, s5⟩ := st3_loop hs n bs ((bs : Int), L) rfl h0 hb1 Bs.length Bs (Nat.le_refl _) [] T (by simp only [List.length_nil]; omega) dB dT hr.blk hr.rest (by simp only [List.length_nil]; omega)
      simp only [List.length_nil, List.nil_append] at s1 s2
      rw [← he, show ((0 : Nat) : Int) + 2 * (bs : Int) = 2 * (bs : Int) by omega, show ((0 : Nat) : Int) = 0 from rfl] at s1
      have l5 := s5.len
      rw [List.length_append] at l5
      have hfin : ∃ T', g_stableCmpFunc_b2 n g ((bs : Int), L) = some (.inl (((2 * bs : Nat) : Int), Bs'.flatten ++ T')) ∧ Srt g T' ∧ T'.length < 2 * bs ∧ Sta D g (R.flatten ++ T) T' := by
        have body : ∀ X : List α, (bif decide (w64 (a' + (bs : Int)) < n) then (Option.bind (g_symMergeCmpFunc 64 (Bs'.flatten ++ (R.flatten ++ T)) a' (w64 (a' + (bs : Int))) n g) fun v4 => (some (.inl (w64 ((bs : Int) * 2), v4)) : Option ((Int × List α) ⊕ ((Int × List α) ⊕ Empty)))) else (some (.inl (w64 ((bs : Int) * 2), Bs'.flatten ++ (R.flatten ++ T))))) = some (.inl (((2 * bs : Nat) : Int), X)) → g_stableCmpFunc_b2 n g ((bs : Int), L) = some (.inl (((2 * bs : Nat) : Int), X)) := fun X hX => by
          unfold g_stableCmpFunc_b2
          simp only
          rw [show decide ((bs : Int) < n) = true from decide_eq_true (by omega), w64_of (n := 2 * (bs : Int)) (by omega) (by omega)]
          simp only [cond_true]
          rw [s1]
          exact hX
        rcases s4 with rfl | ⟨A, rfl, hA, hsA⟩
        · simp only [List.flatten_nil, List.nil_append, List.length_nil] at *
          refine ⟨T, body _ ?_, hT, by have := hr.rest; omega, Sta.refl _⟩
          rw [w64_of (n := a' + (bs : Int)) (by omega) (by omega), w64_of (n := (bs : Int) * 2) (by omega) (by omega), show decide (a' + (bs : Int) < n) = false from decide_eq_false (by have := hr.rest; omega)]
          rw [show (bs : Int) * 2 = ((2 * bs : Nat) : Int) by omega]
          rfl
        · simp only [List.flatten_cons, List.flatten_nil, List.append_nil] at *
          by_cases hT0 : T = []
          · subst hT0
            simp only [List.append_nil, List.length_nil] at *
            refine ⟨A, body _ ?_, hsA, by omega, Sta.refl _⟩
            rw [w64_of (n := a' + (bs : Int)) (by omega) (by omega), w64_of (n := (bs : Int) * 2) (by omega) (by omega), show decide (a' + (bs : Int) < n) = false from decide_eq_false (by omega)]
            rw [show (bs : Int) * 2 = ((2 * bs : Nat) : Int) by omega]
            rfl
          · have hTp : 0 < T.length := List.length_pos_iff.2 hT0
            have hrr := hr.rest
            have dA : AllD D A := s5.all dB |> fun h z hz => h z (List.mem_append_right _ hz)
            obtain ⟨R', r1, r2, r3⟩ := symMerge_eq hs 64 Bs'.flatten A T [] a' (a' + (bs : Int)) n (by omega) (by omega) (by omega) (by omega) hTp (le64 (by omega)) dA dT hsA hT (by simp only [List.length_nil]; omega)
            simp only [List.append_nil] at r1
            refine ⟨R', body _ ?_, r2, by have := r3.len; rw [List.length_append] at this; omega, r3⟩
            rw [w64_of (n := a' + (bs : Int)) (by omega) (by omega), w64_of (n := (bs : Int) * 2) (by omega) (by omega), show decide (a' + (bs : Int) < n) = true from decide_eq_true (by omega)]
            simp only [cond_true]
            rw [r1, show (bs : Int) * 2 = ((2 * bs : Nat) : Int) by omega]
            rfl
      obtain ⟨T', f1, f2, f3, f4⟩ := hfin
      have hst : Sta D g L (Bs'.flatten ++ T') := by
        have h1 := Sta.app s5 (Sta.refl (D := D) (g := g) T)
        rw [← he] at h1
        refine Sta.trans h1 ?_
        rw [List.append_assoc]
        exact Sta.app (Sta.refl _) f4
      have hl2 := hst.len
      obtain ⟨c, R2, g1, g2, g3⟩ := ih (2 * bs) (Bs'.flatten ++ T') Bs' T' (by omega) (by rw [hl2]; rw [Nat.pow_succ] at hl; rw [Nat.mul_comm 2 bs, Nat.mul_assoc, Nat.mul_comm 2]; exact hl) (by omega) (by omega) (by omega) (hst.all dL) ⟨rfl, s3, f3⟩ f2
      exact ⟨c, R2, by rw [loopM_next f1, g1], g2, hst.trans g3⟩
/-- slices.SortStableFunc: the list that comes is sorted, and what is alike stands in its order. -/
theorem stable_eq (hs : SW D g) (l : List α) (dl : AllD D l) (hN : l.length ≤ 400000000) : ∃ r, g_SortStableFunc l g = some r ∧ Srt g r ∧ Sta D g l r := by
  unfold g_SortStableFunc g_stableCmpFunc
  obtain ⟨Bs, T, a', b', s1, s2, s3, s4, s5⟩ := st1_loop hs (l.length : Int) l.length l [] (Nat.le_refl _) (by simp) dl (by simp only [List.length_nil]; omega)
  simp only [List.length_nil, List.nil_append] at s1 s2
  rw [show ((0 : Nat) : Int) + 20 = 20 from rfl, show ((0 : Nat) : Int) = 0 from rfl] at s1
  rw [s1]
  simp only [Option.bind_some]
  have hl5 := s5.len
  rw [List.length_append] at hl5
  have dall := s5.all dl
  obtain ⟨R, r1, r2, r3⟩ := insertion_eq hs Bs.flatten T [] (a := a') (b := (l.length : Int)) (by omega) (by omega) (fun z hz => dall z (List.mem_append_right _ hz)) (by omega)
  simp only [List.append_nil] at r1
  rw [r1]
  simp only [Option.bind_some]
  have hst : Sta D g l (Bs.flatten ++ R) := s5.trans (Sta.app (Sta.refl _) r3)
  have hRl := r3.len
  have hll := hst.len
  obtain ⟨c, R2, g1, g2, g3⟩ := st2_loop hs (l.length : Int) 25 20 (Bs.flatten ++ R) Bs R (by omega) (le25 (by omega)) (by omega) (by omega) (by omega) (hst.all dl) ⟨rfl, s3, by omega⟩ r2
  rw [show (20 : Int) = ((20 : Nat) : Int) from rfl, g1]
  exact ⟨R2, rfl, g2, hst.trans g3⟩
/-- Two sorted lists with what is alike in one order are one. -/
theorem srt_uniq (hs : SW D g) : ∀ {r s : List α}, AllD D r → AllD D s → Srt g r → Srt g s → (∀ x, D x → r.filter (eqv g x) = s.filter (eqv g x)) → r = s
  | [], [], _, _, _, _, _ => rfl
  | [], y :: s, _, ds, _, _, h => by
    have dy := ds y (by simp)
    have := h y dy
    rw [List.filter_nil, List.filter_cons_of_pos (by unfold eqv; rw [hs.irr dy]; rfl)] at this
    cases this
  | x :: r, [], dr, _, _, _, h => by
    have dx := dr x (by simp)
    have := h x dx
    rw [List.filter_nil, List.filter_cons_of_pos (by unfold eqv; rw [hs.irr dx]; rfl)] at this
    cases this
  | x :: r, y :: s, dr, ds, sr, ss, h => by
    have dx := dr x (by simp)
    have dy := ds y (by simp)
    have exx : eqv g x x = true := by unfold eqv; rw [hs.irr dx]; rfl
    have eyy : eqv g y y = true := by unfold eqv; rw [hs.irr dy]; rfl
    rw [Srt, List.pairwise_cons] at sr ss
    have hx := h x dx
    have hy := h y dy
    have mx : x ∈ (y :: s).filter (eqv g x) := by rw [← hx, List.filter_cons_of_pos exx]; exact List.mem_cons_self ..
    have my : y ∈ (x :: r).filter (eqv g y) := by rw [hy, List.filter_cons_of_pos eyy]; exact List.mem_cons_self ..
    have m1 := (List.mem_filter.1 mx).1
    have m2 := (List.mem_filter.1 my).1
    have exy : eqv g x y = true := by
      have a1 : ltM g x y = false := by
        rcases List.mem_cons.1 m1 with e | m1
        · rw [e]; exact hs.irr dy
        · exact ss.1 x m1
      have a2 : ltM g y x = false := by
        rcases List.mem_cons.1 m2 with e | m2
        · rw [e]; exact hs.irr dx
        · exact sr.1 y m2
      unfold eqv; rw [a1, a2]; rfl
    have hxy : x = y := by
      rw [List.filter_cons_of_pos exx, List.filter_cons_of_pos exy] at hx
      exact (List.cons.inj hx).1
    subst hxy
    rw [srt_uniq hs (fun z hz => dr z (by simp [hz])) (fun z hz => ds z (by simp [hz])) sr.2 ss.2 fun z dz => by
      have := h z dz
      rw [List.filter_cons, List.filter_cons] at this
      split at this
      · exact (List.cons.inj this).2
      · exact this]
end
end Go.Pv
set_option linter.unusedSimpArgs false
namespace Go.Pv
open Go
theorem md_pos (v : Bool) (q q' : Int) (f : Int → Option (Int × Int)) (h : (bif v then some (IntKind.u64.wrap (q + 1)) else some q) = some q') (h0 : 0 ≤ q') (h1 : q' < 9223372036854775808) :
    (Option.bind (some v) fun v4 => Option.bind (bif v4 then (some (IntKind.u64.wrap (q + 1))) else (some q)) fun (q : Int) => bif (false && (decide (q ≤ 9223372036854775808))) then f q else (bif ((!false) && (decide (q < 9223372036854775808))) then (some (w64 q, 0)) else (some (0, 9)))) = some (q', 0) := by
  have e : decide (q' < 9223372036854775808) = true := decide_eq_true h1
  rw [Option.bind_some, h, Option.bind_some, Bool.false_and, cond_false, Bool.not_false, Bool.true_and, e, cond_true, w64_of (by omega) (by omega)]
theorem u64_of {n : Int} (h0 : 0 ≤ n) (h1 : n < 18446744073709551616) : IntKind.u64.wrap n = n := by
  unfold IntKind.wrap
  simp only [IntKind.bits, IntKind.signed]
  simp only [show (2 : Int) ^ 64 = 18446744073709551616 from rfl, Bool.false_and, Bool.false_eq_true, if_false]
  omega
theorem clamp_eq (x lo hi : Int) : arith_Clamp x lo hi = some (minI (maxI x lo) hi) := rfl
theorem magnitude_eq (n : Int) (h0 : -9223372036854775808 ≤ n) (h1 : n ≤ 9223372036854775807) : arith_magnitude n = some (n.natAbs : Int) := by
  unfold arith_magnitude
  by_cases h : n < 0
  · simp only [h, decide_true, cond_true, Option.some.injEq]
    rw [w64_of (n := n + 1) (by omega) (by omega), w64_of (n := 0 - (n + 1)) (by omega) (by omega), u64_of (n := 0 - (n + 1)) (by omega) (by omega), u64_of (by omega) (by omega)]
    omega
  · simp only [h, decide_false, cond_false, Option.some.injEq]
    rw [u64_of (by omega) (by omega)]
    omega
theorem div64_lo (lo y : Nat) (h0 : lo < 18446744073709551616) (h1 : 0 < y) : math_bits_Div64 0 lo y = some (((lo / y : Nat) : Int), ((lo % y : Nat) : Int)) := by
  unfold math_bits_Div64
  have e1 : ((y : Int) == 0) = false := by
    have : ¬ (y : Int) = 0 := by omega
    simpa using this
  have e2 : decide ((y : Int) ≤ 0) = false := by simp; omega
  have e3 : ¬ (y : Int) = 0 := by omega
  simp only [e1, e2, cond_false, Option.bind_some, quoM, remM, if_neg e3]
  have q1 : (lo : Int).tdiv y = ((lo / y : Nat) : Int) := rfl
  have q2 : (lo : Int).tmod y = ((lo % y : Nat) : Int) := rfl
  have q3 : lo / y ≤ lo := Nat.div_le_self _ _
  rw [q1, q2]
  generalize lo / y = q at q3 ⊢
  rw [u64_of (by omega) (by omega), show ((0 : Int) == 0) = true from rfl, cond_true]
/-- The quotient that is rounded toward nothing, by the mode. -/
theorem mulDiv_eq (a c mode : Int) (ha0 : -9223372036854775808 ≤ a) (ha1 : a ≤ 9223372036854775807) (hc0 : 0 < c) (hc1 : c ≤ 9223372036854775807) (hm : mode = 1 ∨ mode = 2) :
    arith_MulDiv a 1 c mode = some (if mode = 1 then a / c else -((-a) / c), 0) := by
  unfold arith_MulDiv
  have m1 : ((decide (mode < 1)) || (decide (mode > 3))) = false := by
    rcases hm with rfl | rfl <;> rfl
  have c0 : (c == 0) = false := by
    have : ¬ c = 0 := by omega
    simpa using this
  rw [m1, c0, magnitude_eq a ha0 ha1, magnitude_eq 1 (by omega) (by omega), magnitude_eq c (by omega) hc1]
  obtain ⟨m, hm'⟩ : ∃ m : Nat, a.natAbs = m := ⟨_, rfl⟩
  obtain ⟨k, rfl⟩ : ∃ k : Nat, c = k := ⟨c.toNat, by omega⟩
  have hk : 0 < k := by omega
  have hml : m ≤ 9223372036854775808 := by omega
  rw [hm']
  simp only [cond_false, Option.bind_some, math_bits_Mul64, mul64M]
  rw [if_pos (by omega)]
  simp only [Option.bind_some]
  have e1 : (m : Int) * ((Int.natAbs 1 : Nat) : Int) / 18446744073709551616 = 0 := by
    have : ((Int.natAbs 1 : Nat) : Int) = 1 := rfl
    rw [this]; omega
  have e2 : (m : Int) * ((Int.natAbs 1 : Nat) : Int) % 18446744073709551616 = (m : Int) := by
    have : ((Int.natAbs 1 : Nat) : Int) = 1 := rfl
    rw [this]; omega
  have e3 : (((Int.natAbs (k : Int)) : Nat) : Int) = (k : Int) := by omega
  have e4 : decide ((0 : Int) ≥ (k : Int)) = false := decide_eq_false (by omega)
  rw [e1, e2, e3, e4, show (0 : Int) = 0 from rfl, div64_lo m k (by omega) hk]
  have q1 : m / k ≤ m := Nat.div_le_self _ _
  have q2 : m % k < k := Nat.mod_lt _ hk
  have q3 : k * (m / k) + m % k = m := Nat.div_add_mod m k
  generalize m / k = q at q1 q3 ⊢
  generalize m % k = r at q2 q3 ⊢
  have q4 : (m : Int) = (q : Int) * (k : Int) + (r : Int) := by rw [← q3, Int.natCast_add, Int.natCast_mul, Int.mul_comm]
  have hqk : r = 0 → 0 < m → 0 < q := fun h0 h1 => by
    rcases Nat.eq_zero_or_pos q with h | h
    · rw [h, h0] at q3; omega
    · exact h
  have hql : 0 < r → q < 9223372036854775808 := fun h0 => by
    rcases Nat.lt_or_ge q 9223372036854775808 with h | h
    · exact h
    · have : k * q ≥ 1 * 9223372036854775808 := Nat.mul_le_mul (by omega) h
      omega
  have hql2 : 0 < r → m ≤ 9223372036854775807 → q < 9223372036854775807 := fun h0 h1 => by
    rcases Nat.lt_or_ge q 9223372036854775807 with h | h
    · exact h
    · have : k * q ≥ 1 * 9223372036854775807 := Nat.mul_le_mul (by omega) h
      omega
  have e5 : decide ((q : Int) > 9223372036854775808) = false := decide_eq_false (by omega)
  simp only [cond_false, Option.bind_some, e5]
  have d1 : decide ((1 : Int) < 0) = false := rfl
  have d2 : decide ((k : Int) < 0) = false := decide_eq_false (by omega)
  rw [d1, d2]
  have fl0 : (m : Int) / (k : Int) = (q : Int) := by
    rw [q4, Int.add_comm, Int.add_mul_ediv_right _ _ (by omega), Int.ediv_eq_zero_of_lt (by omega) (by omega)]; omega
  have fl1 : (-(m : Int)) / (k : Int) = if r = 0 then -(q : Int) else -(q : Int) - 1 := by
    split
    · rename_i h
      have : -(m : Int) = (-(q : Int)) * (k : Int) := by rw [q4, Int.neg_mul, h]; omega
      rw [this, Int.mul_ediv_cancel _ (by omega)]
    · rename_i h
      have e : -(m : Int) = ((k : Int) - (r : Int)) + (-(q : Int) - 1) * (k : Int) := by
        rw [q4, Int.sub_mul, Int.neg_mul]; omega
      rw [e, Int.add_mul_ediv_right _ _ (by omega), Int.ediv_eq_zero_of_lt (by omega) (by omega)]; omega
  clear q3 q4
  by_cases hn : a < 0
  · have ha : a = -(m : Int) := by omega
    have e6 : decide (a < 0) = true := decide_eq_true hn
    have n1 : (!(!true == false) == false) = true := by decide
    rw [e6, n1]
    rcases hm with rfl | rfl
    · -- down, of a negative number
      have r1 : arith_rounded (r : Int) (k : Int) true 1 = some (decide ((r : Int) > 0)) := rfl
      rw [if_pos rfl, ha, fl1, r1]
      by_cases hr : r = 0
      · have r2 : decide ((r : Int) > 0) = false := decide_eq_false (by omega)
        have hpos := hqk hr (by omega)
        have r3 : decide ((q : Int) ≤ 9223372036854775808) = true := decide_eq_true (by omega)
        rw [if_pos hr, r2]
        simp only [Option.bind_some, cond_false, r3]
        rw [u64_of (n := (q : Int) - 1) (by omega) (by omega), w64_of (n := (q : Int) - 1) (by omega) (by omega), w64_of (n := 0 - ((q : Int) - 1)) (by omega) (by omega), w64_of (n := 0 - ((q : Int) - 1) - 1) (by omega) (by omega)]
        simp only [Bool.true_and, Bool.not_false, cond_true, Bool.not_true, Bool.false_and, cond_false]
        rw [show 0 - ((q : Int) - 1) - 1 = -(q : Int) by omega]
      · have r2 : decide ((r : Int) > 0) = true := decide_eq_true (by omega)
        have hlt := hql (by omega)
        have r3 : decide ((q : Int) + 1 ≤ 9223372036854775808) = true := decide_eq_true (by omega)
        rw [if_neg hr, r2]
        simp only [Option.bind_some, cond_true]
        rw [u64_of (n := (q : Int) + 1) (by omega) (by omega), r3, show (q : Int) + 1 - 1 = q by omega]
        rw [u64_of (n := (q : Int)) (by omega) (by omega), w64_of (n := (q : Int)) (by omega) (by omega), w64_of (n := 0 - (q : Int)) (by omega) (by omega), w64_of (n := 0 - (q : Int) - 1) (by omega) (by omega)]
        simp only [Bool.true_and, Bool.not_false, cond_true, Bool.not_true, Bool.false_and, cond_false]
        rw [show 0 - (q : Int) - 1 = -(q : Int) - 1 by omega]
    · -- up, of a negative number
      have r1 : arith_rounded (r : Int) (k : Int) true 2 = some false := rfl
      rw [if_neg (by decide), ha, Int.neg_neg, fl0, r1]
      have r3 : decide ((q : Int) ≤ 9223372036854775808) = true := decide_eq_true (by omega)
      simp only [Option.bind_some, cond_false, r3]
      rcases Nat.eq_zero_or_pos q with hz | hz
      · have w1 : IntKind.u64.wrap (((0 : Nat) : Int) - 1) = 18446744073709551615 := by decide
        have w2 : w64 18446744073709551615 = -1 := by decide
        have w3 : w64 (0 - -1) = 1 := by decide
        have w4 : w64 (1 - 1) = 0 := by decide
        rw [hz, w1, w2, w3, w4]
        rfl
      · rw [u64_of (n := (q : Int) - 1) (by omega) (by omega), w64_of (n := (q : Int) - 1) (by omega) (by omega), w64_of (n := 0 - ((q : Int) - 1)) (by omega) (by omega), w64_of (n := 0 - ((q : Int) - 1) - 1) (by omega) (by omega)]
        simp only [Bool.true_and, Bool.not_false, cond_true, Bool.not_true, Bool.false_and, cond_false]
        rw [show 0 - ((q : Int) - 1) - 1 = -(q : Int) by omega]
  · have ha : a = (m : Int) := by omega
    have e6 : decide (a < 0) = false := decide_eq_false hn
    have n1 : (!(!false == false) == false) = false := by decide
    rw [e6, n1]
    rcases hm with rfl | rfl
    · have r1 : arith_rounded (r : Int) (k : Int) false 1 = some false := rfl
      rw [if_pos rfl, ha, fl0, r1]
      exact md_pos false q q _ rfl (by omega) (by omega)
    · have r1 : arith_rounded (r : Int) (k : Int) false 2 = some (decide ((r : Int) > 0)) := rfl
      rw [if_neg (by decide), ha, fl1, r1]
      by_cases hr : r = 0
      · have r2 : decide ((r : Int) > 0) = false := decide_eq_false (by omega)
        rw [if_pos hr, r2, Int.neg_neg]
        exact md_pos false q q _ rfl (by omega) (by omega)
      · have r2 : decide ((r : Int) > 0) = true := decide_eq_true (by omega)
        have hlt := hql2 (by omega) (by omega)
        rw [if_neg hr, r2, show -(-(q : Int) - 1) = (q : Int) + 1 by omega]
        exact md_pos true q (q + 1) _ (by rw [cond_true, u64_of (by omega) (by omega)]) (by omega) (by omega)
/-- The quotient that is rounded down. -/
theorem floor_eq (a c : Int) (ha0 : -9223372036854775808 ≤ a) (ha1 : a ≤ 9223372036854775807) (hc0 : 0 < c) (hc1 : c ≤ 9223372036854775807) : arith_Floor a c = some (a / c) := by
  unfold arith_Floor arith_Div
  rw [mulDiv_eq a c 1 ha0 ha1 hc0 hc1 (.inl rfl)]
  rfl
end Go.Pv
set_option linter.unusedSimpArgs false
namespace Go.Pv
open Go
/-- The number that sort.Search finds stands behind a number that is not p, and is p itself. -/
theorem search_spec (n : Nat) (hn : n ≤ 2305843009213693951) (f : Int → Option Bool) (p : Nat → Bool) (hf : ∀ i, i < n → f (i : Int) = some (p i)) :
    ∃ k : Nat, k ≤ n ∧ sort_Search (n : Int) f = some (k : Int) ∧ (0 < k → p (k - 1) = false) ∧ (k < n → p k = true) := by
  have key : ∀ (m i j : Nat), j - i ≤ m → i ≤ j → j ≤ n → (0 < i → p (i - 1) = false) → (j < n → p j = true) →
      ∃ k : Nat, k ≤ n ∧ loopM (sort_Search_b1 f) ((i : Int), (j : Int)) = some (.inl ((k : Int), (k : Int))) ∧ (0 < k → p (k - 1) = false) ∧ (k < n → p k = true) := by
    intro m
    induction m with
    | zero =>
      intro i j hm hij hjn h1 h2
      have : i = j := by omega
      subst this
      refine ⟨i, hjn, loopM_out ?_, h1, h2⟩
      unfold sort_Search_b1
      rw [show decide (((i : Int), (i : Int)).1 < ((i : Int), (i : Int)).2) = false from decide_eq_false (by simp)]
      rfl
    | succ m ih =>
      intro i j hm hij hjn h1 h2
      rcases Nat.lt_or_ge i j with hlt | hge
      · have hh : w64 (bitShr .u64 (IntKind.u64.wrap (w64 ((i : Int) + (j : Int)))) 1) = (((i + j) / 2 : Nat) : Int) := by
          rw [half_eq (by omega) (by omega)]; omega
        have hi : (i + j) / 2 < n := by omega
        have hb : sort_Search_b1 f ((i : Int), (j : Int)) = some (bif p ((i + j) / 2) then .inl ((i : Int), (((i + j) / 2 : Nat) : Int)) else .inl ((((i + j) / 2 + 1 : Nat) : Int), (j : Int))) := by
          unfold sort_Search_b1
          rw [show decide (((i : Int), (j : Int)).1 < ((i : Int), (j : Int)).2) = true from decide_eq_true (by show (i : Int) < (j : Int); omega)]
          simp only [cond_true, hh, hf _ hi, Option.bind_some]
          cases p ((i + j) / 2)
          · simp only [Bool.not_false, cond_true, cond_false]
            rw [w64_of (by omega) (by omega)]; rfl
          · rfl
        cases hp : p ((i + j) / 2)
        · rw [hp] at hb
          rw [loopM_next hb]
          exact ih ((i + j) / 2 + 1) j (by omega) (by omega) hjn (fun _ => by simpa using hp) h2
        · rw [hp] at hb
          rw [loopM_next hb]
          exact ih i ((i + j) / 2) (by omega) (by omega) (by omega) h1 (fun _ => hp)
      · have : i = j := by omega
        subst this
        exact ih i i (by omega) (Nat.le_refl _) hjn h1 h2
  obtain ⟨k, a, b, c, d⟩ := key n 0 n (by omega) (Nat.zero_le _) (Nat.le_refl _) (fun h => absurd h (by omega)) (fun h => absurd h (by omega))
  refine ⟨k, a, ?_, c, d⟩
  unfold sort_Search
  rw [show ((0 : Nat) : Int) = 0 from rfl] at b
  rw [b]
  rfl
end Go.Pv
set_option linter.unusedSimpArgs false
namespace Go.Pv
open Go
def elB (n : Int) : Bool := decide (n ≥ -1073741824) && decide (n ≤ 1073741824)
theorem element_eq (n : Int) : surface_element n = some (elB n) := rfl
def axP (l : List Int) (i : Nat) : Bool := match l[i]? with
  | none => false
  | some x => elB x && (i == 0 || (match l[i - 1]? with | none => false | some y => decide (y < x)))
def axB (l : List Int) : Bool := !(decide ((l.length : Int) < 2) || decide ((l.length : Int) > 32)) && (List.range' 0 l.length).all (axP l)
theorem w64_pred (k : Nat) (h : k < 1000000) : w64 (((k + 1 : Nat) : Int) - 1) = (k : Int) := by rw [w64_of (by omega) (by omega)]; omega
theorem obs {α : Type} (o : Option α) : (o.bind fun b => some b) = o := by cases o <;> rfl
theorem axis_step (l : List Int) (j : Nat) (hj : j < l.length) (hl : l.length ≤ 32) :
    (Option.bind (getI l j) fun x => Option.bind (surface_element x) fun v => Option.bind (bif (!v) then (some true) else (Option.bind (bif (decide ((j : Int) > 0)) then (Option.bind (getI l (w64 (j - 1))) fun x2 => some (decide (x ≤ x2))) else (some false)) fun b2 => some b2)) fun b3 => some b3) = some (!axP l j) := by
  rw [getI_nat, List.getElem?_eq_getElem hj]
  simp only [Option.bind_some, element_eq]
  unfold axP
  rw [List.getElem?_eq_getElem hj]
  simp only
  cases elB l[j]
  · rfl
  · simp only [Bool.not_true, cond_false, Bool.true_and]
    cases j with
    | zero => rfl
    | succ k =>
      have e : decide (((k + 1 : Nat) : Int) > 0) = true := by rw [decide_eq_true_eq]; omega
      have hk : k < l.length := by omega
      rw [e, w64_pred k (by omega), getI_nat, List.getElem?_eq_getElem hk]
      simp only [cond_true, Option.bind_some, Nat.add_sub_cancel, List.getElem?_eq_getElem hk, Option.some.injEq]
      rw [Bool.eq_iff_iff]
      simp
theorem axis_eq (l : List Int) : surface_axis l = some (axB l) := by
  unfold surface_axis axB
  cases h : (decide ((l.length : Int) < 2) || decide ((l.length : Int) > 32))
  · have hl : l.length ≤ 32 := by simp at h; omega
    have k := stepsN_all (f := surface_axis_b1 l) (p := axP l) (r := false) l.length 0 (fun j _ hj => by
      have s := axis_step l j (by omega) hl
      unfold surface_axis_b1
      rw [getI_nat, List.getElem?_eq_getElem (by omega)] at s ⊢
      simp only [Option.bind_some, element_eq] at s ⊢
      simp only [obs] at s ⊢
      rw [s]
      cases axP l j <;> rfl)
    rw [rangeN_steps _ (by omega)]
    rw [show ((0 : Nat) : Int) = 0 from rfl] at k
    rw [k]
    cases (List.range' 0 l.length).all (axP l) <;> rfl
  · rfl
theorem valid1_eq (z : Int) : surface_Valid_1 z = some (!elB z) := rfl
theorem contains_eq (l : List Int) (hn : l.length ≤ 9223372036854775807) : slices_ContainsFunc_sint l surface_Valid_1 = some (l.any fun z => !elB z) :=
  index_any l hn surface_Valid_1 _ (fun y _ => valid1_eq y)
def rowB (m : SMap) (x : List Int) : Bool := !((x.length : Int) != (m.Y.length : Int)) && !(x.any fun z => !elB z)
def mapB (m : SMap) : Bool := axB m.X && axB m.Y && !((m.Z.length : Int) != (m.X.length : Int)) && m.Z.all (rowB m)
theorem axB_len {l : List Int} (h : axB l = true) : 2 ≤ l.length ∧ l.length ≤ 32 := by
  unfold axB at h
  simp at h
  omega
theorem valid_eq (m : SMap) : surface_Valid m = some (mapB m) := by
  unfold surface_Valid mapB
  rw [axis_eq, axis_eq]
  simp only [Option.bind_some]
  cases h1 : axB m.X
  · rfl
  · cases h2 : axB m.Y
    · rfl
    · have l1 := axB_len h1
      have l2 := axB_len h2
      simp only [Bool.not_true, cond_false, Option.bind_some, Bool.false_or, Bool.and_true, Bool.true_and]
      cases h3 : ((m.Z.length : Int) != (m.X.length : Int))
      · have l3 : m.Z.length = m.X.length := by simp at h3; omega
        rw [rangeM_steps _ (by omega), stepsL_all (p := rowB m) (r := false)]
        · simp only [cond_false, Bool.not_false, Bool.true_and, Option.bind_some]
          cases m.Z.all (rowB m) <;> rfl
        · intro i y hy
          unfold surface_Valid_b1 rowB
          cases h4 : ((y.length : Int) != (m.Y.length : Int))
          · have l4 : y.length = m.Y.length := by simp at h4; omega
            rw [contains_eq y (by omega)]
            simp only [cond_false, Option.bind_some, Bool.not_false, Bool.true_and]
            cases (y.any fun z => !elB z) <;> rfl
          · rfl
      · rfl
end Go.Pv
set_option linter.unusedSimpArgs false
namespace Go.Pv
open Go
/-- What an axis is. -/
structure Axis (l : List Int) : Prop where
  two : 2 ≤ l.length
  most : l.length ≤ 32
  el : ∀ i (h : i < l.length), -1073741824 ≤ l[i] ∧ l[i] ≤ 1073741824
  asc : ∀ i (h : i + 1 < l.length), l[i] < l[i + 1]
theorem axis_of {l : List Int} (h : axB l = true) : Axis l := by
  obtain ⟨h2, h3⟩ := axB_len h
  unfold axB at h
  rw [Bool.and_eq_true, List.all_eq_true] at h
  have hp : ∀ i (hi : i < l.length), axP l i = true := fun i hi => h.2 i (by rw [List.mem_range']; exact ⟨i, hi, by omega⟩)
  refine ⟨h2, h3, fun i hi => ?_, fun i hi => ?_⟩
  · have := hp i hi
    unfold axP at this
    rw [List.getElem?_eq_getElem hi] at this
    simp [elB] at this
    omega
  · have := hp (i + 1) hi
    unfold axP at this
    rw [List.getElem?_eq_getElem hi, Nat.add_sub_cancel, List.getElem?_eq_getElem (by omega : i < l.length)] at this
    simp at this
    exact this.2
theorem Axis.lt {l : List Int} (h : Axis l) : ∀ (j i : Nat) (hj : j < l.length) (hi : i < j), l[i] < l[j]
  | 0, _, _, hi => absurd hi (by omega)
  | j + 1, i, hj, hi => by
    rcases Nat.lt_or_ge i j with h1 | h1
    · exact Int.lt_trans (h.lt j i (by omega) h1) (h.asc j hj)
    · have : i = j := by omega
      subst this
      exact h.asc i hj
theorem Axis.le {l : List Int} (h : Axis l) (j i : Nat) (hj : j < l.length) (hi : i ≤ j) : l[i] ≤ l[j] := by
  rcases Nat.lt_or_ge i j with h1 | h1
  · exact Int.le_of_lt (h.lt j i hj h1)
  · have : i = j := by omega
    subst this
    exact Int.le_refl _
/-- The argument limited to an axis. -/
def lim (l : List Int) (x : Int) : Int := min (max x (l.headD 0)) (l.getLastD 0)
theorem headD_get (l : List Int) (h : 0 < l.length) : l.headD 0 = l[0] := by cases l with
  | nil => simp at h
  | cons a l => rfl
theorem getLastD_get (l : List Int) (h : 0 < l.length) : l.getLastD 0 = l[l.length - 1] := by
  cases l with
  | nil => simp at h
  | cons a l => rw [List.getLastD_cons, ← List.getLast_eq_getElem (List.cons_ne_nil a l), List.getLast_eq_getLastD]
theorem lim_bounds {l : List Int} (h : Axis l) (x : Int) : l.headD 0 ≤ lim l x ∧ lim l x ≤ l.getLastD 0 := by
  have h2 := h.two
  have := h.le (l.length - 1) 0 (by omega) (by omega)
  unfold lim
  rw [headD_get l (by omega), getLastD_get l (by omega)]
  omega
/-- Where the segment of an argument begins. -/
def SegAt (l : List Int) (v : Int) (i : Nat) : Prop := ∃ h : i + 1 < l.length, l[i] ≤ v ∧ v ≤ l[i + 1] ∧ (i + 2 = l.length ∨ v < l[i + 1])
def nd (l : List Int) (i : Nat) : Int := l.getD i 0
def zz (m : SMap) (i j : Nat) : Int := (m.Z.getD i []).getD j 0
theorem nd_get {l : List Int} {i : Nat} (h : i < l.length) : nd l i = l[i] := by unfold nd; rw [List.getD_eq_getElem?_getD, List.getElem?_eq_getElem h]; rfl
theorem zz_get {m : SMap} {i j : Nat} (h : i < m.Z.length) (h2 : j < m.Z[i].length) : zz m i j = m.Z[i][j] := by
  unfold zz
  have e : m.Z.getD i [] = m.Z[i] := by rw [List.getD_eq_getElem?_getD, List.getElem?_eq_getElem h]; rfl
  rw [e, List.getD_eq_getElem?_getD, List.getElem?_eq_getElem h2]; rfl
structure MapOk (m : SMap) : Prop where
  x : Axis m.X
  y : Axis m.Y
  zl : m.Z.length = m.X.length
  rl : ∀ i (h : i < m.Z.length), m.Z[i].length = m.Y.length
  el : ∀ i j, i < m.X.length → j < m.Y.length → -1073741824 ≤ zz m i j ∧ zz m i j ≤ 1073741824
theorem mapOk {m : SMap} (h : mapB m = true) : MapOk m := by
  unfold mapB at h
  simp only [Bool.and_eq_true, Bool.not_eq_true', List.all_eq_true] at h
  obtain ⟨⟨⟨hx, hy⟩, hz⟩, hr⟩ := h
  have lz : m.Z.length = m.X.length := by simp at hz; omega
  have len : ∀ r ∈ m.Z, r.length = m.Y.length ∧ ∀ z ∈ r, -1073741824 ≤ z ∧ z ≤ 1073741824 := by
    intro r hrm
    have := hr r hrm
    unfold rowB at this
    simp [elB] at this
    refine ⟨by omega, fun z hz => ?_⟩
    have := this.2 z hz
    omega
  refine ⟨axis_of hx, axis_of hy, lz, fun i hi => (len _ (List.getElem_mem hi)).1, fun i j hi hj => ?_⟩
  have hiz : i < m.Z.length := by omega
  have := len _ (List.getElem_mem hiz)
  have hj' : j < m.Z[i].length := by omega
  rw [zz_get hiz hj']
  exact this.2 _ (List.getElem_mem hj')
theorem axB_iff {l : List Int} : axB l = true ↔ Axis l := by
  refine ⟨axis_of, fun h => ?_⟩
  have h2 := h.two
  have h3 := h.most
  unfold axB
  rw [Bool.and_eq_true, List.all_eq_true]
  refine ⟨by simp; omega, fun i hi => ?_⟩
  rw [List.mem_range'] at hi
  obtain ⟨j, hj, rfl⟩ := hi
  have hj' : 0 + 1 * j = j := by omega
  rw [hj']
  unfold axP
  rw [List.getElem?_eq_getElem hj]
  have e := h.el j hj
  cases j with
  | zero => simp [elB]; omega
  | succ k =>
    have a := h.asc k hj
    rw [Nat.add_sub_cancel, List.getElem?_eq_getElem (by omega : k < l.length)]
    simp [elB]; omega
theorem bool_of_iff {a b : Bool} (h : a = true ↔ b = true) : a = b := Bool.eq_iff_iff.2 h
end Go.Pv

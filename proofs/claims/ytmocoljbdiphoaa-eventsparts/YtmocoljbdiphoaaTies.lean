/- Ties, printed by gen.py: each function of the loaded program computes its model. -/
import Derived.Test.YtmocoljbdiphoaaTiesB
import Derived.Test.YtmocoljbdiphoaaPvXl
import Derived.Test.YtmocoljbdiphoaaProg
import Derived.KernelRfl
namespace Go.Proofs.Ytmocoljbdiphoaa
open Go Go.Pv Go.Proofs
-- slices.symMergeCmpFunc[int]
set_option maxRecDepth 100000 in
set_option maxHeartbeats 4000000 in
theorem tie_slices_symMergeCmpFunc_int (fu : Nat) : ∀ (data : List Int) (a : Int) (m2 : Int) (b2 : Int) (n2 : Nat) (cs : List (List Tree)) (cmp : Int → Int → Option Int) (h2 : ∀ x0 x1, TieF Try.prog n2 ([.t (tI x0), .t (tI x1)] ++ cs.map T.el) (cmp x0 x1) (fun r => .t (tI r))), TieG Try.prog 92 [.own 1000000, .t (tI a), .t (tI m2), .t (tI b2), .fz n2 cs] [(1000000, .rows 3 1 data.length (data.map Pv.encI))] (slices_symMergeCmpFunc_int fu data a m2 b2 cmp) (fun _ => .tup []) (fun r => [(1000000, .rows 3 1 r.length (r.map Pv.encI))]) := by
  induction fu with
  | zero => exact fun _ _ _ _ _ _ _ _ => ⟨Try.call92, fun _ hr => by have hr2 : (none : Option (List Int)) = some _ := hr; cases hr2⟩
  | succ fu ih =>
    rw [show slices_symMergeCmpFunc_int (fu + 1) = slices_symMergeCmpFunc_int_s (slices_symMergeCmpFunc_int fu) from rfl]
    generalize slices_symMergeCmpFunc_int fu = rc at ih ⊢
    intro data a m2 b2 n2 cs cmp h2
    refine TieG.intro htab 220 [] Try.call92 Try.func92 rfl rfl rfl (Nat.le_of_ble_eq_true rfl) fun w0 L => ?_
    refine TieS.seq ?_
    refine TieS.seq ?_
    refine TieS.region ?_
    refine TieO.run 4 rfl ?_
    refine TieO.nil ?_
    refine TieS.cond rfl ?_ ?_
    · refine TieS.seq ?_
      refine TieS.region ?_
      refine TieO.run 2 rfl ?_
      refine TieO.nil ?_
      refine TieS.seq ?_
      refine TieS.region ?_
      refine TieO.run 2 rfl ?_
      refine TieO.nil ?_
      refine TieS.seq ?_
      refine TieS.block ?_
      refine TieS.loop (fun t => ⟨[(0, .own 1000000), (1, .t (tI a)), (4, .fz n2 cs), (10, .t (tI t.1)), (11, .t (tI t.2))], [(1000000, .rows 3 1 data.length (data.map Pv.encI))]⟩) (fun b e σ' => match b with | .inl t => e = .exit 0 ∧ Sub ⟨[(0, .own 1000000), (1, .t (tI a)), (10, .t (tI t.1))], [(1000000, .rows 3 1 data.length (data.map Pv.encI))]⟩ σ' | .inr t => False) (.of rfl rfl) ?_ ?_
      · intro s
        refine TieS.seq ?_
        refine TieS.seq ?_
        refine TieS.region ?_
        refine TieO.run 3 rfl ?_
        refine TieO.nil ?_
        refine TieS.cond rfl ?_ ?_
        · refine TieS.skip ?_
          refine TieS.block ?_
          refine TieS.seq ?_
          refine TieS.region ?_
          refine TieO.run 7 rfl ?_
          refine TieO.nil ?_
          refine TieS.seq ?_
          refine TieX.pre fun x hx => ?_
          refine TieX.pre fun x2 hx2 => ?_
          refine TieX.pre fun v hv => ?_
          refine TieS.draw 11 [.fz n2 cs, .own 1000000, .t (tI (w64 (bitShr .u64 (IntKind.u64.wrap (w64 (s.1 + s.2))) 1))), .pe 1000000 (Int.toNat (w64 (bitShr .u64 (IntKind.u64.wrap (w64 (s.1 + s.2))) 1))) 1 0, .t (tI x), .own 1000000, .t (tI a), .pe 1000000 (Int.toNat a) 1 0, .t (tI x2), .t (tI v), .t (tB (decide (v < 0)))] [(0, .own 1000000), (1, .t (tI a)), (4, .fz n2 cs), (10, .t (tI s.1)), (11, .t (tI s.2)), (12, .t (tI (w64 (bitShr .u64 (IntKind.u64.wrap (w64 (s.1 + s.2))) 1))))] [(1000000, .rows 3 1 data.length (data.map Pv.encI))] mixed (.of rfl rfl) rfl rfl rfl rfl (.cons (.quiet rfl rfl rfl) (.cons (.quiet rfl rfl rfl) (.cons (.quiet rfl rfl rfl) (.cons (.indexO (sz := 1) hx rfl rfl rfl rfl rfl rfl rfl rfl) (.cons (.loadY hx rfl rfl rfl rfl rfl rfl) (.cons (.quiet rfl rfl rfl) (.cons (.quiet rfl rfl rfl) (.cons (.indexO (sz := 1) hx2 rfl rfl rfl rfl rfl rfl rfl rfl) (.cons (.loadY hx2 rfl rfl rfl rfl rfl rfl) (.cons (.callV (h2 x x2) hv rfl rfl rfl rfl) (.cons (.quiet rfl rfl rfl) (.nil)))))))))))) ?_
          refine TieO.nil ?_
          refine TieS.cond rfl ?_ ?_
          · refine TieS.region ?_
            refine TieO.run 3 rfl ?_
            refine TieO.nil ?_
            refine TieS.endb ?_
            exact TieS.leaf ⟨rfl, .of rfl rfl⟩
          · refine TieS.region ?_
            refine TieO.run 2 rfl ?_
            refine TieO.nil ?_
            refine TieS.endb ?_
            exact TieS.leaf ⟨rfl, .of rfl rfl⟩
        · exact TieS.exitOut rfl ⟨(fun h => by cases h), rfl, .of rfl rfl⟩
      rintro (s2 | r) e σ' _ hq
      · obtain ⟨rfl, hs⟩ := hq
        refine TieX.exit rfl (TieX.sub hs ?_)
        refine TieS.seq ?_
        refine TieS.seq ?_
        refine TieS.region ?_
        refine TieO.run 2 rfl ?_
        refine TieO.nil ?_
        refine TieS.block ?_
        refine TieS.loop (fun t => ⟨[(0, .own 1000000), (10, .t (tI s2.1)), (13, .t (tI t.1))], [(1000000, .rows 3 1 t.2.length (t.2.map Pv.encI))]⟩) (fun b e σ' => match b with | .inl t => e = .exit 2 ∧ Sub ⟨[], [(1000000, .rows 3 1 t.2.length (t.2.map Pv.encI))]⟩ σ' | .inr t => False) (.of rfl rfl) ?_ ?_
        · intro s3
          refine TieS.seq ?_
          refine TieS.seq ?_
          refine TieS.region ?_
          refine TieO.run 4 rfl ?_
          refine TieO.nil ?_
          refine TieS.cond rfl ?_ ?_
          · refine TieS.skip ?_
            refine TieS.seq ?_
            refine TieS.block ?_
            refine TieS.bind (Q₁ := fun t e σ' => e = .normal ∧ Sub ⟨[(0, .own 1000000), (10, .t (tI s2.1)), (13, .t (tI s3.1))], [(1000000, .rows 3 1 t.length (t.map Pv.encI))]⟩ σ') ?_ ?_
            · refine TieX.pre fun x3 hx3 => ?_
              refine TieX.pre fun x4 hx4 => ?_
              refine TieX.pre fun l hl => ?_
              refine TieS.draws 16 [false, false, false, false, false, false, false, false, false, false, false, false, false, false, false, false, false, false] [true, true, true, true, true, true, true, true, true, true, true, true, true, true, true, true, false, false] ⟨[(0, .own 1000000), (10, .t (tI s2.1)), (13, .t (tI s3.1)), (61, .own 1000000), (62, .t (tI s3.1)), (63, .own 1000000), (64, .t (tI s3.1)), (65, .t (tI (w64 (s3.1 + 1)))), (66, .own 1000000), (67, .t (tI s3.1)), (68, .t (tI (w64 (s3.1 + 1)))), (69, .pe 1000000 (Int.toNat (w64 (s3.1 + 1))) 1 0), (70, .t (tI x3)), (71, .own 1000000), (72, .t (tI s3.1)), (73, .pe 1000000 (Int.toNat s3.1) 1 0), (74, .t (tI x4)), (75, .pe 1000000 (Int.toNat s3.1) 1 0)], [(1000000, .rows 3 1 l.length (l.map Pv.encI))]⟩ mixed (fun _ _ _ h => by cases h.1) rfl rfl rfl rfl ?_ ?_
              · refine TieA.have_ (fuel₁ := 2) (l₁ := [true, true, true, true, true, true, true, true, true, true, true, true, true, true, true, true, false, false]) (σ₁ := ⟨[(0, .own 1000000), (10, .t (tI s2.1)), (13, .t (tI s3.1)), (61, .own 1000000), (62, .t (tI s3.1)), (63, .own 1000000), (64, .t (tI s3.1)), (65, .t (tI (w64 (s3.1 + 1)))), (66, .own 1000000), (67, .t (tI s3.1)), (68, .t (tI (w64 (s3.1 + 1)))), (69, .pe 1000000 (Int.toNat (w64 (s3.1 + 1))) 1 0), (70, .t (tI x3)), (71, .own 1000000), (72, .t (tI s3.1)), (73, .pe 1000000 (Int.toNat s3.1) 1 0), (74, .t (tI x4)), (75, .pe 1000000 (Int.toNat s3.1) 1 0)], [(1000000, .rows 3 1 l.length (l.map Pv.encI))]⟩) ?_ fun A_3 => ?_
                · exact TieA.done (.of rfl rfl)
                refine TieA.have_ (fuel₁ := 4) (l₁ := [true, true, true, true, true, true, true, true, true, true, true, true, true, true, false, false, false, false]) (σ₁ := ⟨[(0, .own 1000000), (10, .t (tI s2.1)), (13, .t (tI s3.1)), (61, .own 1000000), (62, .t (tI s3.1)), (63, .own 1000000), (64, .t (tI s3.1)), (65, .t (tI (w64 (s3.1 + 1)))), (66, .own 1000000), (67, .t (tI s3.1)), (68, .t (tI (w64 (s3.1 + 1)))), (69, .pe 1000000 (Int.toNat (w64 (s3.1 + 1))) 1 0), (70, .t (tI x3)), (71, .own 1000000), (72, .t (tI s3.1)), (73, .pe 1000000 (Int.toNat s3.1) 1 0), (74, .t (tI x4))], [(1000000, .rows 3 1 s3.2.length (s3.2.map Pv.encI))]⟩) ?_ fun A_2 => ?_
                · refine TieA.idx 14 [true, true, true, true, true, true, true, true, true, true, true, true, true, true, true, false, false, false] hx4 rfl rfl rfl rfl rfl rfl (by kernel_rfl) (by kernel_rfl) (by kernel_rfl) rfl rfl rfl rfl rfl rfl ?_
                  refine TieA.all [15] (by kernel_rfl) rfl ?_
                  refine AllA.cons (σ₁ := ⟨[(0, .own 1000000), (10, .t (tI s2.1)), (13, .t (tI s3.1)), (61, .own 1000000), (62, .t (tI s3.1)), (63, .own 1000000), (64, .t (tI s3.1)), (65, .t (tI (w64 (s3.1 + 1)))), (66, .own 1000000), (67, .t (tI s3.1)), (68, .t (tI (w64 (s3.1 + 1)))), (69, .pe 1000000 (Int.toNat (w64 (s3.1 + 1))) 1 0), (70, .t (tI x3)), (71, .own 1000000), (72, .t (tI s3.1)), (73, .pe 1000000 (Int.toNat s3.1) 1 0), (74, .t (tI x4)), (75, .pe 1000000 (Int.toNat s3.1) 1 0)], [(1000000, .rows 3 1 l.length (l.map Pv.encI))]⟩) [true, true, true, true, true, true, true, true, true, true, true, true, true, true, true, true, false, false] rfl rfl ?_ A_3 ?_
                  · refine TieO.withH hl (TieO.storeY x3 [tI x3] hx4 rfl rfl rfl rfl rfl rfl rfl rfl rfl rfl rfl rfl (TieO.ifG ?_))
                    exact TieO.nil (TieS.leaf ⟨rfl, .of rfl rfl⟩)
                  exact AllA.nil
                refine TieA.have_ (fuel₁ := 5) (l₁ := [true, true, true, true, true, true, true, true, true, true, true, true, true, false, false, false, false, false]) (σ₁ := ⟨[(0, .own 1000000), (10, .t (tI s2.1)), (13, .t (tI s3.1)), (61, .own 1000000), (62, .t (tI s3.1)), (63, .own 1000000), (64, .t (tI s3.1)), (65, .t (tI (w64 (s3.1 + 1)))), (66, .own 1000000), (67, .t (tI s3.1)), (68, .t (tI (w64 (s3.1 + 1)))), (69, .pe 1000000 (Int.toNat (w64 (s3.1 + 1))) 1 0), (70, .t (tI x3)), (71, .own 1000000), (72, .t (tI s3.1)), (73, .pe 1000000 (Int.toNat s3.1) 1 0)], [(1000000, .rows 3 1 s3.2.length (s3.2.map Pv.encI))]⟩) ?_ fun A_1 => ?_
                · refine TieA.all [13] (by kernel_rfl) rfl ?_
                  refine AllA.cons (σ₁ := ⟨[(0, .own 1000000), (10, .t (tI s2.1)), (13, .t (tI s3.1)), (61, .own 1000000), (62, .t (tI s3.1)), (63, .own 1000000), (64, .t (tI s3.1)), (65, .t (tI (w64 (s3.1 + 1)))), (66, .own 1000000), (67, .t (tI s3.1)), (68, .t (tI (w64 (s3.1 + 1)))), (69, .pe 1000000 (Int.toNat (w64 (s3.1 + 1))) 1 0), (70, .t (tI x3)), (71, .own 1000000), (72, .t (tI s3.1)), (73, .pe 1000000 (Int.toNat s3.1) 1 0), (74, .t (tI x4))], [(1000000, .rows 3 1 s3.2.length (s3.2.map Pv.encI))]⟩) [true, true, true, true, true, true, true, true, true, true, true, true, true, true, false, false, false, false] rfl rfl ?_ A_2 ?_
                  · refine TieO.loadY hx4 rfl rfl rfl rfl rfl rfl rfl rfl ?_
                    exact TieO.nil (TieS.leaf ⟨rfl, .of rfl rfl⟩)
                  exact AllA.nil
                refine TieA.have_ (fuel₁ := 5) (l₁ := [true, true, true, true, true, true, true, true, true, false, true, true, true, true, false, false, false, false]) (σ₁ := ⟨[(0, .own 1000000), (10, .t (tI s2.1)), (13, .t (tI s3.1)), (61, .own 1000000), (62, .t (tI s3.1)), (63, .own 1000000), (64, .t (tI s3.1)), (65, .t (tI (w64 (s3.1 + 1)))), (66, .own 1000000), (67, .t (tI s3.1)), (68, .t (tI (w64 (s3.1 + 1)))), (69, .pe 1000000 (Int.toNat (w64 (s3.1 + 1))) 1 0), (71, .own 1000000), (72, .t (tI s3.1)), (73, .pe 1000000 (Int.toNat s3.1) 1 0), (74, .t (tI x4))], [(1000000, .rows 3 1 s3.2.length (s3.2.map Pv.encI))]⟩) ?_ fun A_4 => ?_
                · refine TieA.all [9] (by kernel_rfl) rfl ?_
                  refine AllA.cons (σ₁ := ⟨[(0, .own 1000000), (10, .t (tI s2.1)), (13, .t (tI s3.1)), (61, .own 1000000), (62, .t (tI s3.1)), (63, .own 1000000), (64, .t (tI s3.1)), (65, .t (tI (w64 (s3.1 + 1)))), (66, .own 1000000), (67, .t (tI s3.1)), (68, .t (tI (w64 (s3.1 + 1)))), (69, .pe 1000000 (Int.toNat (w64 (s3.1 + 1))) 1 0), (70, .t (tI x3)), (71, .own 1000000), (72, .t (tI s3.1)), (73, .pe 1000000 (Int.toNat s3.1) 1 0), (74, .t (tI x4))], [(1000000, .rows 3 1 s3.2.length (s3.2.map Pv.encI))]⟩) [true, true, true, true, true, true, true, true, true, true, true, true, true, true, false, false, false, false] rfl rfl ?_ A_2 ?_
                  · refine TieO.loadY hx3 rfl rfl rfl rfl rfl rfl rfl rfl ?_
                    exact TieO.nil (TieS.leaf ⟨rfl, .of rfl rfl⟩)
                  exact AllA.nil
                refine TieA.move 0 [true, false, false, false, false, false, false, false, false, false, false, false, false, false, false, false, false, false] rfl rfl (by first | exact .inl rfl | exact .inr rfl) rfl rfl rfl (by kernel_rfl) (by kernel_rfl) (by kernel_rfl) rfl ?_
                refine TieA.move 1 [true, true, false, false, false, false, false, false, false, false, false, false, false, false, false, false, false, false] rfl rfl (by first | exact .inl rfl | exact .inr rfl) rfl rfl rfl (by kernel_rfl) (by kernel_rfl) (by kernel_rfl) rfl ?_
                refine TieA.move 2 [true, true, true, false, false, false, false, false, false, false, false, false, false, false, false, false, false, false] rfl rfl (by first | exact .inl rfl | exact .inr rfl) rfl rfl rfl (by kernel_rfl) (by kernel_rfl) (by kernel_rfl) rfl ?_
                refine TieA.move 3 [true, true, true, true, false, false, false, false, false, false, false, false, false, false, false, false, false, false] rfl rfl (by first | exact .inl rfl | exact .inr rfl) rfl rfl rfl (by kernel_rfl) (by kernel_rfl) (by kernel_rfl) rfl ?_
                refine TieA.bin (V := .t (tI (w64 (s3.1 + 1)))) 4 [true, true, true, true, true, false, false, false, false, false, false, false, false, false, false, false, false, false] rfl rfl rfl rfl rfl rfl (by kernel_rfl) (by kernel_rfl) (by kernel_rfl) rfl rfl rfl rfl ?_
                refine TieA.move 5 [true, true, true, true, true, true, false, false, false, false, false, false, false, false, false, false, false, false] rfl rfl (by first | exact .inl rfl | exact .inr rfl) rfl rfl rfl (by kernel_rfl) (by kernel_rfl) (by kernel_rfl) rfl ?_
                refine TieA.move 6 [true, true, true, true, true, true, true, false, false, false, false, false, false, false, false, false, false, false] rfl rfl (by first | exact .inl rfl | exact .inr rfl) rfl rfl rfl (by kernel_rfl) (by kernel_rfl) (by kernel_rfl) rfl ?_
                refine TieA.bin (V := .t (tI (w64 (s3.1 + 1)))) 7 [true, true, true, true, true, true, true, true, false, false, false, false, false, false, false, false, false, false] rfl rfl rfl rfl rfl rfl (by kernel_rfl) (by kernel_rfl) (by kernel_rfl) rfl rfl rfl rfl ?_
                refine TieA.idx 8 [true, true, true, true, true, true, true, true, true, false, false, false, false, false, false, false, false, false] hx3 rfl rfl rfl rfl rfl rfl (by kernel_rfl) (by kernel_rfl) (by kernel_rfl) rfl rfl rfl rfl rfl rfl ?_
                refine TieA.move 10 [true, true, true, true, true, true, true, true, true, false, true, false, false, false, false, false, false, false] rfl rfl (by first | exact .inl rfl | exact .inr rfl) rfl rfl rfl (by kernel_rfl) (by kernel_rfl) (by kernel_rfl) rfl ?_
                refine TieA.move 11 [true, true, true, true, true, true, true, true, true, false, true, true, false, false, false, false, false, false] rfl rfl (by first | exact .inl rfl | exact .inr rfl) rfl rfl rfl (by kernel_rfl) (by kernel_rfl) (by kernel_rfl) rfl ?_
                refine TieA.idx 12 [true, true, true, true, true, true, true, true, true, false, true, true, true, false, false, false, false, false] hx4 rfl rfl rfl rfl rfl rfl (by kernel_rfl) (by kernel_rfl) (by kernel_rfl) rfl rfl rfl rfl rfl rfl ?_
                refine TieA.all [9, 13] (by kernel_rfl) rfl ?_
                refine AllA.cons (σ₁ := ⟨[(0, .own 1000000), (10, .t (tI s2.1)), (13, .t (tI s3.1)), (61, .own 1000000), (62, .t (tI s3.1)), (63, .own 1000000), (64, .t (tI s3.1)), (65, .t (tI (w64 (s3.1 + 1)))), (66, .own 1000000), (67, .t (tI s3.1)), (68, .t (tI (w64 (s3.1 + 1)))), (69, .pe 1000000 (Int.toNat (w64 (s3.1 + 1))) 1 0), (70, .t (tI x3)), (71, .own 1000000), (72, .t (tI s3.1)), (73, .pe 1000000 (Int.toNat s3.1) 1 0)], [(1000000, .rows 3 1 s3.2.length (s3.2.map Pv.encI))]⟩) [true, true, true, true, true, true, true, true, true, true, true, true, true, false, false, false, false, false] rfl rfl ?_ A_1 ?_
                · refine TieO.loadY hx3 rfl rfl rfl rfl rfl rfl rfl rfl ?_
                  exact TieO.nil (TieS.leaf ⟨rfl, .of rfl rfl⟩)
                refine AllA.cons (σ₁ := ⟨[(0, .own 1000000), (10, .t (tI s2.1)), (13, .t (tI s3.1)), (61, .own 1000000), (62, .t (tI s3.1)), (63, .own 1000000), (64, .t (tI s3.1)), (65, .t (tI (w64 (s3.1 + 1)))), (66, .own 1000000), (67, .t (tI s3.1)), (68, .t (tI (w64 (s3.1 + 1)))), (69, .pe 1000000 (Int.toNat (w64 (s3.1 + 1))) 1 0), (71, .own 1000000), (72, .t (tI s3.1)), (73, .pe 1000000 (Int.toNat s3.1) 1 0), (74, .t (tI x4))], [(1000000, .rows 3 1 s3.2.length (s3.2.map Pv.encI))]⟩) [true, true, true, true, true, true, true, true, true, false, true, true, true, true, false, false, false, false] rfl rfl ?_ A_4 ?_
                · refine TieO.loadY hx4 rfl rfl rfl rfl rfl rfl rfl rfl ?_
                  exact TieO.nil (TieS.leaf ⟨rfl, .of rfl rfl⟩)
                exact AllA.nil
              refine TieO.indexO rfl rfl rfl rfl rfl rfl rfl rfl rfl rfl fun x5 hx5 => ?_
              refine TieO.storeY x4 [tI x4] hx5 rfl rfl rfl rfl rfl rfl rfl rfl rfl rfl rfl rfl fun l2 hl2 => ?_
              refine TieO.nil ?_
              exact TieS.leaf ⟨rfl, .of rfl rfl⟩
            rintro f2 e σ' _ ⟨rfl, hs⟩
            refine TieX.sub hs ?_
            refine TieS.endb ?_
            refine TieS.region ?_
            refine TieO.run 3 rfl ?_
            refine TieO.nil ?_
            exact TieS.leaf ⟨rfl, .of rfl rfl⟩
          · exact TieS.exitOut rfl ⟨(fun h => by cases h), rfl, .of rfl rfl⟩
        rintro (s4 | r) e σ' _ hq
        · obtain ⟨rfl, hs⟩ := hq
          refine TieX.exit rfl (TieX.sub hs ?_)
          exact TieS.ret ⟨.inl rfl, ⟨[(1000000, 1000000)], _, _, rfl, rfl, rfl, rfl, rfl⟩⟩
        · exact hq.elim
      · exact hq.elim
    · refine TieS.skip ?_
      refine TieS.seq ?_
      refine TieS.seq ?_
      refine TieS.region ?_
      refine TieO.run 4 rfl ?_
      refine TieO.nil ?_
      refine TieS.cond rfl ?_ ?_
      · refine TieS.seq ?_
        refine TieS.region ?_
        refine TieO.run 2 rfl ?_
        refine TieO.nil ?_
        refine TieS.seq ?_
        refine TieS.region ?_
        refine TieO.run 2 rfl ?_
        refine TieO.nil ?_
        refine TieS.seq ?_
        refine TieS.block ?_
        refine TieS.loop (fun t => ⟨[(0, .own 1000000), (2, .t (tI m2)), (4, .fz n2 cs), (14, .t (tI t.1)), (15, .t (tI t.2))], [(1000000, .rows 3 1 data.length (data.map Pv.encI))]⟩) (fun b e σ' => match b with | .inl t => e = .exit 4 ∧ Sub ⟨[(0, .own 1000000), (2, .t (tI m2)), (14, .t (tI t.1))], [(1000000, .rows 3 1 data.length (data.map Pv.encI))]⟩ σ' | .inr t => False) (.of rfl rfl) ?_ ?_
        · intro s5
          refine TieS.seq ?_
          refine TieS.seq ?_
          refine TieS.region ?_
          refine TieO.run 3 rfl ?_
          refine TieO.nil ?_
          refine TieS.cond rfl ?_ ?_
          · refine TieS.skip ?_
            refine TieS.block ?_
            refine TieS.seq ?_
            refine TieS.region ?_
            refine TieO.run 7 rfl ?_
            refine TieO.nil ?_
            refine TieS.seq ?_
            refine TieX.pre fun x6 hx6 => ?_
            refine TieX.pre fun x7 hx7 => ?_
            refine TieX.pre fun v2 hv2 => ?_
            refine TieS.draw 12 [.fz n2 cs, .own 1000000, .t (tI m2), .pe 1000000 (Int.toNat m2) 1 0, .t (tI x6), .own 1000000, .t (tI (w64 (bitShr .u64 (IntKind.u64.wrap (w64 (s5.1 + s5.2))) 1))), .pe 1000000 (Int.toNat (w64 (bitShr .u64 (IntKind.u64.wrap (w64 (s5.1 + s5.2))) 1))) 1 0, .t (tI x7), .t (tI v2), .t (tB (decide (v2 < 0))), .t (tB (!(decide (v2 < 0))))] [(0, .own 1000000), (2, .t (tI m2)), (4, .fz n2 cs), (14, .t (tI s5.1)), (15, .t (tI s5.2)), (16, .t (tI (w64 (bitShr .u64 (IntKind.u64.wrap (w64 (s5.1 + s5.2))) 1))))] [(1000000, .rows 3 1 data.length (data.map Pv.encI))] mixed (.of rfl rfl) rfl rfl rfl rfl (.cons (.quiet rfl rfl rfl) (.cons (.quiet rfl rfl rfl) (.cons (.quiet rfl rfl rfl) (.cons (.indexO (sz := 1) hx6 rfl rfl rfl rfl rfl rfl rfl rfl) (.cons (.loadY hx6 rfl rfl rfl rfl rfl rfl) (.cons (.quiet rfl rfl rfl) (.cons (.quiet rfl rfl rfl) (.cons (.indexO (sz := 1) hx7 rfl rfl rfl rfl rfl rfl rfl rfl) (.cons (.loadY hx7 rfl rfl rfl rfl rfl rfl) (.cons (.callV (h2 x6 x7) hv2 rfl rfl rfl rfl) (.cons (.quiet rfl rfl rfl) (.cons (.quiet rfl rfl rfl) (.nil))))))))))))) ?_
            refine TieO.nil ?_
            refine TieS.cond rfl ?_ ?_
            · refine TieS.region ?_
              refine TieO.run 3 rfl ?_
              refine TieO.nil ?_
              refine TieS.endb ?_
              exact TieS.leaf ⟨rfl, .of rfl rfl⟩
            · refine TieS.region ?_
              refine TieO.run 2 rfl ?_
              refine TieO.nil ?_
              refine TieS.endb ?_
              exact TieS.leaf ⟨rfl, .of rfl rfl⟩
          · exact TieS.exitOut rfl ⟨(fun h => by cases h), rfl, .of rfl rfl⟩
        rintro (s6 | r) e σ' _ hq
        · obtain ⟨rfl, hs⟩ := hq
          refine TieX.exit rfl (TieX.sub hs ?_)
          refine TieS.seq ?_
          refine TieS.seq ?_
          refine TieS.region ?_
          refine TieO.run 2 rfl ?_
          refine TieO.nil ?_
          refine TieS.block ?_
          refine TieS.loop (fun t => ⟨[(0, .own 1000000), (14, .t (tI s6.1)), (17, .t (tI t.1))], [(1000000, .rows 3 1 t.2.length (t.2.map Pv.encI))]⟩) (fun b e σ' => match b with | .inl t => e = .exit 6 ∧ Sub ⟨[], [(1000000, .rows 3 1 t.2.length (t.2.map Pv.encI))]⟩ σ' | .inr t => False) (.of rfl rfl) ?_ ?_
          · intro s7
            refine TieS.seq ?_
            refine TieS.seq ?_
            refine TieS.region ?_
            refine TieO.run 3 rfl ?_
            refine TieO.nil ?_
            refine TieS.cond rfl ?_ ?_
            · refine TieS.skip ?_
              refine TieS.seq ?_
              refine TieS.block ?_
              refine TieS.bind (Q₁ := fun t e σ' => e = .normal ∧ Sub ⟨[(0, .own 1000000), (14, .t (tI s6.1)), (17, .t (tI s7.1))], [(1000000, .rows 3 1 t.length (t.map Pv.encI))]⟩ σ') ?_ ?_
              · refine TieX.pre fun x8 hx8 => ?_
                refine TieX.pre fun x9 hx9 => ?_
                refine TieX.pre fun l3 hl3 => ?_
                refine TieS.draws 16 [false, false, false, false, false, false, false, false, false, false, false, false, false, false, false, false, false, false] [true, true, true, true, true, true, true, true, true, true, true, true, true, true, true, true, false, false] ⟨[(0, .own 1000000), (14, .t (tI s6.1)), (17, .t (tI s7.1)), (113, .own 1000000), (114, .t (tI s7.1)), (115, .own 1000000), (116, .t (tI s7.1)), (117, .t (tI (w64 (s7.1 - 1)))), (118, .own 1000000), (119, .t (tI s7.1)), (120, .t (tI (w64 (s7.1 - 1)))), (121, .pe 1000000 (Int.toNat (w64 (s7.1 - 1))) 1 0), (122, .t (tI x8)), (123, .own 1000000), (124, .t (tI s7.1)), (125, .pe 1000000 (Int.toNat s7.1) 1 0), (126, .t (tI x9)), (127, .pe 1000000 (Int.toNat s7.1) 1 0)], [(1000000, .rows 3 1 l3.length (l3.map Pv.encI))]⟩ mixed (fun _ _ _ h => by cases h.1) rfl rfl rfl rfl ?_ ?_
                · refine TieA.have_ (fuel₁ := 2) (l₁ := [true, true, true, true, true, true, true, true, true, true, true, true, true, true, true, true, false, false]) (σ₁ := ⟨[(0, .own 1000000), (14, .t (tI s6.1)), (17, .t (tI s7.1)), (113, .own 1000000), (114, .t (tI s7.1)), (115, .own 1000000), (116, .t (tI s7.1)), (117, .t (tI (w64 (s7.1 - 1)))), (118, .own 1000000), (119, .t (tI s7.1)), (120, .t (tI (w64 (s7.1 - 1)))), (121, .pe 1000000 (Int.toNat (w64 (s7.1 - 1))) 1 0), (122, .t (tI x8)), (123, .own 1000000), (124, .t (tI s7.1)), (125, .pe 1000000 (Int.toNat s7.1) 1 0), (126, .t (tI x9)), (127, .pe 1000000 (Int.toNat s7.1) 1 0)], [(1000000, .rows 3 1 l3.length (l3.map Pv.encI))]⟩) ?_ fun A_3 => ?_
                  · exact TieA.done (.of rfl rfl)
                  refine TieA.have_ (fuel₁ := 4) (l₁ := [true, true, true, true, true, true, true, true, true, true, true, true, true, true, false, false, false, false]) (σ₁ := ⟨[(0, .own 1000000), (14, .t (tI s6.1)), (17, .t (tI s7.1)), (113, .own 1000000), (114, .t (tI s7.1)), (115, .own 1000000), (116, .t (tI s7.1)), (117, .t (tI (w64 (s7.1 - 1)))), (118, .own 1000000), (119, .t (tI s7.1)), (120, .t (tI (w64 (s7.1 - 1)))), (121, .pe 1000000 (Int.toNat (w64 (s7.1 - 1))) 1 0), (122, .t (tI x8)), (123, .own 1000000), (124, .t (tI s7.1)), (125, .pe 1000000 (Int.toNat s7.1) 1 0), (126, .t (tI x9))], [(1000000, .rows 3 1 s7.2.length (s7.2.map Pv.encI))]⟩) ?_ fun A_2 => ?_
                  · refine TieA.idx 14 [true, true, true, true, true, true, true, true, true, true, true, true, true, true, true, false, false, false] hx9 rfl rfl rfl rfl rfl rfl (by kernel_rfl) (by kernel_rfl) (by kernel_rfl) rfl rfl rfl rfl rfl rfl ?_
                    refine TieA.all [15] (by kernel_rfl) rfl ?_
                    refine AllA.cons (σ₁ := ⟨[(0, .own 1000000), (14, .t (tI s6.1)), (17, .t (tI s7.1)), (113, .own 1000000), (114, .t (tI s7.1)), (115, .own 1000000), (116, .t (tI s7.1)), (117, .t (tI (w64 (s7.1 - 1)))), (118, .own 1000000), (119, .t (tI s7.1)), (120, .t (tI (w64 (s7.1 - 1)))), (121, .pe 1000000 (Int.toNat (w64 (s7.1 - 1))) 1 0), (122, .t (tI x8)), (123, .own 1000000), (124, .t (tI s7.1)), (125, .pe 1000000 (Int.toNat s7.1) 1 0), (126, .t (tI x9)), (127, .pe 1000000 (Int.toNat s7.1) 1 0)], [(1000000, .rows 3 1 l3.length (l3.map Pv.encI))]⟩) [true, true, true, true, true, true, true, true, true, true, true, true, true, true, true, true, false, false] rfl rfl ?_ A_3 ?_
                    · refine TieO.withH hl3 (TieO.storeY x8 [tI x8] hx9 rfl rfl rfl rfl rfl rfl rfl rfl rfl rfl rfl rfl (TieO.ifG ?_))
                      exact TieO.nil (TieS.leaf ⟨rfl, .of rfl rfl⟩)
                    exact AllA.nil
                  refine TieA.have_ (fuel₁ := 5) (l₁ := [true, true, true, true, true, true, true, true, true, true, true, true, true, false, false, false, false, false]) (σ₁ := ⟨[(0, .own 1000000), (14, .t (tI s6.1)), (17, .t (tI s7.1)), (113, .own 1000000), (114, .t (tI s7.1)), (115, .own 1000000), (116, .t (tI s7.1)), (117, .t (tI (w64 (s7.1 - 1)))), (118, .own 1000000), (119, .t (tI s7.1)), (120, .t (tI (w64 (s7.1 - 1)))), (121, .pe 1000000 (Int.toNat (w64 (s7.1 - 1))) 1 0), (122, .t (tI x8)), (123, .own 1000000), (124, .t (tI s7.1)), (125, .pe 1000000 (Int.toNat s7.1) 1 0)], [(1000000, .rows 3 1 s7.2.length (s7.2.map Pv.encI))]⟩) ?_ fun A_1 => ?_
                  · refine TieA.all [13] (by kernel_rfl) rfl ?_
                    refine AllA.cons (σ₁ := ⟨[(0, .own 1000000), (14, .t (tI s6.1)), (17, .t (tI s7.1)), (113, .own 1000000), (114, .t (tI s7.1)), (115, .own 1000000), (116, .t (tI s7.1)), (117, .t (tI (w64 (s7.1 - 1)))), (118, .own 1000000), (119, .t (tI s7.1)), (120, .t (tI (w64 (s7.1 - 1)))), (121, .pe 1000000 (Int.toNat (w64 (s7.1 - 1))) 1 0), (122, .t (tI x8)), (123, .own 1000000), (124, .t (tI s7.1)), (125, .pe 1000000 (Int.toNat s7.1) 1 0), (126, .t (tI x9))], [(1000000, .rows 3 1 s7.2.length (s7.2.map Pv.encI))]⟩) [true, true, true, true, true, true, true, true, true, true, true, true, true, true, false, false, false, false] rfl rfl ?_ A_2 ?_
                    · refine TieO.loadY hx9 rfl rfl rfl rfl rfl rfl rfl rfl ?_
                      exact TieO.nil (TieS.leaf ⟨rfl, .of rfl rfl⟩)
                    exact AllA.nil
                  refine TieA.have_ (fuel₁ := 5) (l₁ := [true, true, true, true, true, true, true, true, true, false, true, true, true, true, false, false, false, false]) (σ₁ := ⟨[(0, .own 1000000), (14, .t (tI s6.1)), (17, .t (tI s7.1)), (113, .own 1000000), (114, .t (tI s7.1)), (115, .own 1000000), (116, .t (tI s7.1)), (117, .t (tI (w64 (s7.1 - 1)))), (118, .own 1000000), (119, .t (tI s7.1)), (120, .t (tI (w64 (s7.1 - 1)))), (121, .pe 1000000 (Int.toNat (w64 (s7.1 - 1))) 1 0), (123, .own 1000000), (124, .t (tI s7.1)), (125, .pe 1000000 (Int.toNat s7.1) 1 0), (126, .t (tI x9))], [(1000000, .rows 3 1 s7.2.length (s7.2.map Pv.encI))]⟩) ?_ fun A_4 => ?_
                  · refine TieA.all [9] (by kernel_rfl) rfl ?_
                    refine AllA.cons (σ₁ := ⟨[(0, .own 1000000), (14, .t (tI s6.1)), (17, .t (tI s7.1)), (113, .own 1000000), (114, .t (tI s7.1)), (115, .own 1000000), (116, .t (tI s7.1)), (117, .t (tI (w64 (s7.1 - 1)))), (118, .own 1000000), (119, .t (tI s7.1)), (120, .t (tI (w64 (s7.1 - 1)))), (121, .pe 1000000 (Int.toNat (w64 (s7.1 - 1))) 1 0), (122, .t (tI x8)), (123, .own 1000000), (124, .t (tI s7.1)), (125, .pe 1000000 (Int.toNat s7.1) 1 0), (126, .t (tI x9))], [(1000000, .rows 3 1 s7.2.length (s7.2.map Pv.encI))]⟩) [true, true, true, true, true, true, true, true, true, true, true, true, true, true, false, false, false, false] rfl rfl ?_ A_2 ?_
                    · refine TieO.loadY hx8 rfl rfl rfl rfl rfl rfl rfl rfl ?_
                      exact TieO.nil (TieS.leaf ⟨rfl, .of rfl rfl⟩)
                    exact AllA.nil
                  refine TieA.move 0 [true, false, false, false, false, false, false, false, false, false, false, false, false, false, false, false, false, false] rfl rfl (by first | exact .inl rfl | exact .inr rfl) rfl rfl rfl (by kernel_rfl) (by kernel_rfl) (by kernel_rfl) rfl ?_
                  refine TieA.move 1 [true, true, false, false, false, false, false, false, false, false, false, false, false, false, false, false, false, false] rfl rfl (by first | exact .inl rfl | exact .inr rfl) rfl rfl rfl (by kernel_rfl) (by kernel_rfl) (by kernel_rfl) rfl ?_
                  refine TieA.move 2 [true, true, true, false, false, false, false, false, false, false, false, false, false, false, false, false, false, false] rfl rfl (by first | exact .inl rfl | exact .inr rfl) rfl rfl rfl (by kernel_rfl) (by kernel_rfl) (by kernel_rfl) rfl ?_
                  refine TieA.move 3 [true, true, true, true, false, false, false, false, false, false, false, false, false, false, false, false, false, false] rfl rfl (by first | exact .inl rfl | exact .inr rfl) rfl rfl rfl (by kernel_rfl) (by kernel_rfl) (by kernel_rfl) rfl ?_
                  refine TieA.bin (V := .t (tI (w64 (s7.1 - 1)))) 4 [true, true, true, true, true, false, false, false, false, false, false, false, false, false, false, false, false, false] rfl rfl rfl rfl rfl rfl (by kernel_rfl) (by kernel_rfl) (by kernel_rfl) rfl rfl rfl rfl ?_
                  refine TieA.move 5 [true, true, true, true, true, true, false, false, false, false, false, false, false, false, false, false, false, false] rfl rfl (by first | exact .inl rfl | exact .inr rfl) rfl rfl rfl (by kernel_rfl) (by kernel_rfl) (by kernel_rfl) rfl ?_
                  refine TieA.move 6 [true, true, true, true, true, true, true, false, false, false, false, false, false, false, false, false, false, false] rfl rfl (by first | exact .inl rfl | exact .inr rfl) rfl rfl rfl (by kernel_rfl) (by kernel_rfl) (by kernel_rfl) rfl ?_
                  refine TieA.bin (V := .t (tI (w64 (s7.1 - 1)))) 7 [true, true, true, true, true, true, true, true, false, false, false, false, false, false, false, false, false, false] rfl rfl rfl rfl rfl rfl (by kernel_rfl) (by kernel_rfl) (by kernel_rfl) rfl rfl rfl rfl ?_
                  refine TieA.idx 8 [true, true, true, true, true, true, true, true, true, false, false, false, false, false, false, false, false, false] hx8 rfl rfl rfl rfl rfl rfl (by kernel_rfl) (by kernel_rfl) (by kernel_rfl) rfl rfl rfl rfl rfl rfl ?_
                  refine TieA.move 10 [true, true, true, true, true, true, true, true, true, false, true, false, false, false, false, false, false, false] rfl rfl (by first | exact .inl rfl | exact .inr rfl) rfl rfl rfl (by kernel_rfl) (by kernel_rfl) (by kernel_rfl) rfl ?_
                  refine TieA.move 11 [true, true, true, true, true, true, true, true, true, false, true, true, false, false, false, false, false, false] rfl rfl (by first | exact .inl rfl | exact .inr rfl) rfl rfl rfl (by kernel_rfl) (by kernel_rfl) (by kernel_rfl) rfl ?_
                  refine TieA.idx 12 [true, true, true, true, true, true, true, true, true, false, true, true, true, false, false, false, false, false] hx9 rfl rfl rfl rfl rfl rfl (by kernel_rfl) (by kernel_rfl) (by kernel_rfl) rfl rfl rfl rfl rfl rfl ?_
                  refine TieA.all [9, 13] (by kernel_rfl) rfl ?_
                  refine AllA.cons (σ₁ := ⟨[(0, .own 1000000), (14, .t (tI s6.1)), (17, .t (tI s7.1)), (113, .own 1000000), (114, .t (tI s7.1)), (115, .own 1000000), (116, .t (tI s7.1)), (117, .t (tI (w64 (s7.1 - 1)))), (118, .own 1000000), (119, .t (tI s7.1)), (120, .t (tI (w64 (s7.1 - 1)))), (121, .pe 1000000 (Int.toNat (w64 (s7.1 - 1))) 1 0), (122, .t (tI x8)), (123, .own 1000000), (124, .t (tI s7.1)), (125, .pe 1000000 (Int.toNat s7.1) 1 0)], [(1000000, .rows 3 1 s7.2.length (s7.2.map Pv.encI))]⟩) [true, true, true, true, true, true, true, true, true, true, true, true, true, false, false, false, false, false] rfl rfl ?_ A_1 ?_
                  · refine TieO.loadY hx8 rfl rfl rfl rfl rfl rfl rfl rfl ?_
                    exact TieO.nil (TieS.leaf ⟨rfl, .of rfl rfl⟩)
                  refine AllA.cons (σ₁ := ⟨[(0, .own 1000000), (14, .t (tI s6.1)), (17, .t (tI s7.1)), (113, .own 1000000), (114, .t (tI s7.1)), (115, .own 1000000), (116, .t (tI s7.1)), (117, .t (tI (w64 (s7.1 - 1)))), (118, .own 1000000), (119, .t (tI s7.1)), (120, .t (tI (w64 (s7.1 - 1)))), (121, .pe 1000000 (Int.toNat (w64 (s7.1 - 1))) 1 0), (123, .own 1000000), (124, .t (tI s7.1)), (125, .pe 1000000 (Int.toNat s7.1) 1 0), (126, .t (tI x9))], [(1000000, .rows 3 1 s7.2.length (s7.2.map Pv.encI))]⟩) [true, true, true, true, true, true, true, true, true, false, true, true, true, true, false, false, false, false] rfl rfl ?_ A_4 ?_
                  · refine TieO.loadY hx9 rfl rfl rfl rfl rfl rfl rfl rfl ?_
                    exact TieO.nil (TieS.leaf ⟨rfl, .of rfl rfl⟩)
                  exact AllA.nil
                refine TieO.indexO rfl rfl rfl rfl rfl rfl rfl rfl rfl rfl fun x10 hx10 => ?_
                refine TieO.storeY x9 [tI x9] hx10 rfl rfl rfl rfl rfl rfl rfl rfl rfl rfl rfl rfl fun l4 hl4 => ?_
                refine TieO.nil ?_
                exact TieS.leaf ⟨rfl, .of rfl rfl⟩
              rintro f3 e σ' _ ⟨rfl, hs⟩
              refine TieX.sub hs ?_
              refine TieS.endb ?_
              refine TieS.region ?_
              refine TieO.run 3 rfl ?_
              refine TieO.nil ?_
              exact TieS.leaf ⟨rfl, .of rfl rfl⟩
            · exact TieS.exitOut rfl ⟨(fun h => by cases h), rfl, .of rfl rfl⟩
          rintro (s8 | r) e σ' _ hq
          · obtain ⟨rfl, hs⟩ := hq
            refine TieX.exit rfl (TieX.sub hs ?_)
            exact TieS.ret ⟨.inl rfl, ⟨[(1000000, 1000000)], _, _, rfl, rfl, rfl, rfl, rfl⟩⟩
          · exact hq.elim
        · exact hq.elim
      · refine TieS.skip ?_
        refine TieS.seq ?_
        refine TieS.region ?_
        refine TieO.run 7 rfl ?_
        refine TieO.nil ?_
        refine TieS.seq ?_
        refine TieS.region ?_
        refine TieO.run 4 rfl ?_
        refine TieO.nil ?_
        refine TieS.seq ?_
        refine TieS.region ?_
        refine TieO.run 2 rfl ?_
        refine TieO.nil ?_
        refine TieS.seq ?_
        refine TieS.seq ?_
        refine TieS.region ?_
        refine TieO.run 3 rfl ?_
        refine TieO.nil ?_
        refine TieS.bind (Q₁ := fun t e σ' => e = .normal ∧ Sub ⟨[(0, .own 1000000), (1, .t (tI a)), (2, .t (tI m2)), (3, .t (tI b2)), (4, .fz n2 cs), (18, .t (tI (w64 (bitShr .u64 (IntKind.u64.wrap (w64 (a + b2))) 1)))), (19, .t (tI (w64 ((w64 (bitShr .u64 (IntKind.u64.wrap (w64 (a + b2))) 1)) + m2)))), (20, .t (tI t.1)), (21, .t (tI t.2))], [(1000000, .rows 3 1 data.length (data.map Pv.encI))]⟩ σ') ?_ ?_
        · refine TieS.cond rfl ?_ ?_
          · refine TieS.seq ?_
            refine TieS.region ?_
            refine TieO.run 4 rfl ?_
            refine TieO.nil ?_
            refine TieS.region ?_
            refine TieO.run 2 rfl ?_
            refine TieO.nil ?_
            exact TieS.leaf ⟨rfl, .of rfl rfl⟩
          · refine TieS.seq ?_
            refine TieS.region ?_
            refine TieO.run 2 rfl ?_
            refine TieO.nil ?_
            refine TieS.region ?_
            refine TieO.run 2 rfl ?_
            refine TieO.nil ?_
            exact TieS.leaf ⟨rfl, .of rfl rfl⟩
        rintro s9 e σ' _ ⟨rfl, hs⟩
        refine TieX.sub hs ?_
        refine TieS.seq ?_
        refine TieS.region ?_
        refine TieO.run 3 rfl ?_
        refine TieO.nil ?_
        refine TieS.seq ?_
        refine TieS.block ?_
        refine TieS.loop (fun t => ⟨[(0, .own 1000000), (1, .t (tI a)), (2, .t (tI m2)), (3, .t (tI b2)), (4, .fz n2 cs), (18, .t (tI (w64 (bitShr .u64 (IntKind.u64.wrap (w64 (a + b2))) 1)))), (19, .t (tI (w64 ((w64 (bitShr .u64 (IntKind.u64.wrap (w64 (a + b2))) 1)) + m2)))), (20, .t (tI t.1)), (21, .t (tI t.2)), (22, .t (tI (w64 ((w64 ((w64 (bitShr .u64 (IntKind.u64.wrap (w64 (a + b2))) 1)) + m2)) - 1))))], [(1000000, .rows 3 1 data.length (data.map Pv.encI))]⟩) (fun b e σ' => match b with | .inl t => e = .exit 8 ∧ Sub ⟨[(0, .own 1000000), (1, .t (tI a)), (2, .t (tI m2)), (3, .t (tI b2)), (4, .fz n2 cs), (18, .t (tI (w64 (bitShr .u64 (IntKind.u64.wrap (w64 (a + b2))) 1)))), (19, .t (tI (w64 ((w64 (bitShr .u64 (IntKind.u64.wrap (w64 (a + b2))) 1)) + m2)))), (20, .t (tI t.1))], [(1000000, .rows 3 1 data.length (data.map Pv.encI))]⟩ σ' | .inr t => False) (.of rfl rfl) ?_ ?_
        · intro s10
          refine TieS.seq ?_
          refine TieS.seq ?_
          refine TieS.region ?_
          refine TieO.run 3 rfl ?_
          refine TieO.nil ?_
          refine TieS.cond rfl ?_ ?_
          · refine TieS.skip ?_
            refine TieS.block ?_
            refine TieS.seq ?_
            refine TieS.region ?_
            refine TieO.run 7 rfl ?_
            refine TieO.nil ?_
            refine TieS.seq ?_
            refine TieX.pre fun x11 hx11 => ?_
            refine TieX.pre fun x12 hx12 => ?_
            refine TieX.pre fun v3 hv3 => ?_
            refine TieS.draw 14 [.fz n2 cs, .own 1000000, .t (tI (w64 ((w64 ((w64 (bitShr .u64 (IntKind.u64.wrap (w64 (a + b2))) 1)) + m2)) - 1))), .t (tI (w64 (bitShr .u64 (IntKind.u64.wrap (w64 (s10.1 + s10.2))) 1))), .t (tI (w64 ((w64 ((w64 ((w64 (bitShr .u64 (IntKind.u64.wrap (w64 (a + b2))) 1)) + m2)) - 1)) - (w64 (bitShr .u64 (IntKind.u64.wrap (w64 (s10.1 + s10.2))) 1))))), .pe 1000000 (Int.toNat (w64 ((w64 ((w64 ((w64 (bitShr .u64 (IntKind.u64.wrap (w64 (a + b2))) 1)) + m2)) - 1)) - (w64 (bitShr .u64 (IntKind.u64.wrap (w64 (s10.1 + s10.2))) 1))))) 1 0, .t (tI x11), .own 1000000, .t (tI (w64 (bitShr .u64 (IntKind.u64.wrap (w64 (s10.1 + s10.2))) 1))), .pe 1000000 (Int.toNat (w64 (bitShr .u64 (IntKind.u64.wrap (w64 (s10.1 + s10.2))) 1))) 1 0, .t (tI x12), .t (tI v3), .t (tB (decide (v3 < 0))), .t (tB (!(decide (v3 < 0))))] [(0, .own 1000000), (1, .t (tI a)), (2, .t (tI m2)), (3, .t (tI b2)), (4, .fz n2 cs), (18, .t (tI (w64 (bitShr .u64 (IntKind.u64.wrap (w64 (a + b2))) 1)))), (19, .t (tI (w64 ((w64 (bitShr .u64 (IntKind.u64.wrap (w64 (a + b2))) 1)) + m2)))), (20, .t (tI s10.1)), (21, .t (tI s10.2)), (22, .t (tI (w64 ((w64 ((w64 (bitShr .u64 (IntKind.u64.wrap (w64 (a + b2))) 1)) + m2)) - 1)))), (23, .t (tI (w64 (bitShr .u64 (IntKind.u64.wrap (w64 (s10.1 + s10.2))) 1))))] [(1000000, .rows 3 1 data.length (data.map Pv.encI))] mixed (.of rfl rfl) rfl rfl rfl rfl (.cons (.quiet rfl rfl rfl) (.cons (.quiet rfl rfl rfl) (.cons (.quiet rfl rfl rfl) (.cons (.quiet rfl rfl rfl) (.cons (.quiet rfl rfl rfl) (.cons (.indexO (sz := 1) hx11 rfl rfl rfl rfl rfl rfl rfl rfl) (.cons (.loadY hx11 rfl rfl rfl rfl rfl rfl) (.cons (.quiet rfl rfl rfl) (.cons (.quiet rfl rfl rfl) (.cons (.indexO (sz := 1) hx12 rfl rfl rfl rfl rfl rfl rfl rfl) (.cons (.loadY hx12 rfl rfl rfl rfl rfl rfl) (.cons (.callV (h2 x11 x12) hv3 rfl rfl rfl rfl) (.cons (.quiet rfl rfl rfl) (.cons (.quiet rfl rfl rfl) (.nil))))))))))))))) ?_
            refine TieO.nil ?_
            refine TieS.cond rfl ?_ ?_
            · refine TieS.region ?_
              refine TieO.run 3 rfl ?_
              refine TieO.nil ?_
              refine TieS.endb ?_
              exact TieS.leaf ⟨rfl, .of rfl rfl⟩
            · refine TieS.region ?_
              refine TieO.run 2 rfl ?_
              refine TieO.nil ?_
              refine TieS.endb ?_
              exact TieS.leaf ⟨rfl, .of rfl rfl⟩
          · exact TieS.exitOut rfl ⟨(fun h => by cases h), rfl, .of rfl rfl⟩
        rintro (s11 | r) e σ' _ hq
        · obtain ⟨rfl, hs⟩ := hq
          refine TieX.exit rfl (TieX.sub hs ?_)
          refine TieS.seq ?_
          refine TieS.region ?_
          refine TieO.run 4 rfl ?_
          refine TieO.nil ?_
          refine TieS.seq ?_
          refine TieS.seq ?_
          refine TieS.region ?_
          refine TieO.run 4 rfl ?_
          refine TieO.selAnd (v := decide (m2 < (w64 ((w64 ((w64 (bitShr .u64 (IntKind.u64.wrap (w64 (a + b2))) 1)) + m2)) - s11.1)))) 4 181 (fun b => ⟨[(0, .own 1000000), (1, .t (tI a)), (2, .t (tI m2)), (3, .t (tI b2)), (4, .fz n2 cs), (18, .t (tI (w64 (bitShr .u64 (IntKind.u64.wrap (w64 (a + b2))) 1)))), (20, .t (tI s11.1)), (24, .t (tI (w64 ((w64 ((w64 (bitShr .u64 (IntKind.u64.wrap (w64 (a + b2))) 1)) + m2)) - s11.1)))), (185, .t (tB b))], [(1000000, .rows 3 1 data.length (data.map Pv.encI))]⟩) rfl ?_ ?_ ?_
          · refine TieO.run 4 rfl ?_
            refine TieO.nil ?_
            exact TieS.leaf ⟨rfl, .of rfl rfl⟩
          · refine TieO.run 4 rfl ?_
            refine TieO.nil ?_
            exact TieS.leaf ⟨rfl, .of rfl rfl⟩
          refine TieO.nil ?_
          refine TieS.bind (Q₁ := fun t e σ' => e = .normal ∧ Sub ⟨[(0, .own 1000000), (1, .t (tI a)), (3, .t (tI b2)), (4, .fz n2 cs), (18, .t (tI (w64 (bitShr .u64 (IntKind.u64.wrap (w64 (a + b2))) 1)))), (20, .t (tI s11.1)), (24, .t (tI (w64 ((w64 ((w64 (bitShr .u64 (IntKind.u64.wrap (w64 (a + b2))) 1)) + m2)) - s11.1))))], [(1000000, .rows 3 1 t.length (t.map Pv.encI))]⟩ σ') ?_ ?_
          · refine TieS.cond rfl ?_ ?_
            · refine TieS.region ?_
              refine TieO.run 5 rfl ?_
              refine TieO.callG [(1000000, 1000000)] [] (fun v4 => ⟨[(0, .own 1000000), (1, .t (tI a)), (2, .t (tI m2)), (3, .t (tI b2)), (4, .fz n2 cs), (18, .t (tI (w64 (bitShr .u64 (IntKind.u64.wrap (w64 (a + b2))) 1)))), (20, .t (tI s11.1)), (24, .t (tI (w64 ((w64 ((w64 (bitShr .u64 (IntKind.u64.wrap (w64 (a + b2))) 1)) + m2)) - s11.1)))), (185, .t (tB ((decide (s11.1 < m2)) && (decide (m2 < (w64 ((w64 ((w64 (bitShr .u64 (IntKind.u64.wrap (w64 (a + b2))) 1)) + m2)) - s11.1))))))), (186, .own 1000000), (187, .t (tI s11.1)), (188, .t (tI m2)), (189, .t (tI (w64 ((w64 ((w64 (bitShr .u64 (IntKind.u64.wrap (w64 (a + b2))) 1)) + m2)) - s11.1)))), (190, .fz n2 cs), (191, .tup [])], [(1000000, .rows 3 1 v4.length (v4.map Pv.encI))]⟩) (tie_slices_rotateCmpFunc_int data s11.1 m2 (w64 ((w64 ((w64 (bitShr .u64 (IntKind.u64.wrap (w64 (a + b2))) 1)) + m2)) - s11.1)) n2 cs cmp h2) rfl rfl rfl rfl rfl rfl rfl (fun _ => rfl) (fun _ => rfl) (fun _ => rfl) (fun _ => .of rfl rfl) fun v4 hv4 => ?_
              refine TieO.nil ?_
              exact TieS.leaf ⟨rfl, .of rfl rfl⟩
            · refine TieS.skip ?_
              exact TieS.leaf ⟨rfl, .of rfl rfl⟩
          rintro f4 e σ' _ ⟨rfl, hs⟩
          refine TieX.sub hs ?_
          refine TieS.seq ?_
          refine TieS.seq ?_
          refine TieS.region ?_
          refine TieO.run 4 rfl ?_
          refine TieO.selAnd (v := decide (s11.1 < (w64 (bitShr .u64 (IntKind.u64.wrap (w64 (a + b2))) 1)))) 4 195 (fun b => ⟨[(0, .own 1000000), (1, .t (tI a)), (3, .t (tI b2)), (4, .fz n2 cs), (18, .t (tI (w64 (bitShr .u64 (IntKind.u64.wrap (w64 (a + b2))) 1)))), (20, .t (tI s11.1)), (24, .t (tI (w64 ((w64 ((w64 (bitShr .u64 (IntKind.u64.wrap (w64 (a + b2))) 1)) + m2)) - s11.1)))), (199, .t (tB b))], [(1000000, .rows 3 1 f4.length (f4.map Pv.encI))]⟩) rfl ?_ ?_ ?_
          · refine TieO.run 4 rfl ?_
            refine TieO.nil ?_
            exact TieS.leaf ⟨rfl, .of rfl rfl⟩
          · refine TieO.run 4 rfl ?_
            refine TieO.nil ?_
            exact TieS.leaf ⟨rfl, .of rfl rfl⟩
          refine TieO.nil ?_
          refine TieS.bind (Q₁ := fun t e σ' => e = .normal ∧ Sub ⟨[(0, .own 1000000), (3, .t (tI b2)), (4, .fz n2 cs), (18, .t (tI (w64 (bitShr .u64 (IntKind.u64.wrap (w64 (a + b2))) 1)))), (24, .t (tI (w64 ((w64 ((w64 (bitShr .u64 (IntKind.u64.wrap (w64 (a + b2))) 1)) + m2)) - s11.1))))], [(1000000, .rows 3 1 t.length (t.map Pv.encI))]⟩ σ') ?_ ?_
          · refine TieS.cond rfl ?_ ?_
            · refine TieS.region ?_
              refine TieO.run 5 rfl ?_
              refine TieO.callG [(1000000, 1000000)] [] (fun v5 => ⟨[(0, .own 1000000), (1, .t (tI a)), (3, .t (tI b2)), (4, .fz n2 cs), (18, .t (tI (w64 (bitShr .u64 (IntKind.u64.wrap (w64 (a + b2))) 1)))), (20, .t (tI s11.1)), (24, .t (tI (w64 ((w64 ((w64 (bitShr .u64 (IntKind.u64.wrap (w64 (a + b2))) 1)) + m2)) - s11.1)))), (199, .t (tB ((decide (a < s11.1)) && (decide (s11.1 < (w64 (bitShr .u64 (IntKind.u64.wrap (w64 (a + b2))) 1))))))), (200, .own 1000000), (201, .t (tI a)), (202, .t (tI s11.1)), (203, .t (tI (w64 (bitShr .u64 (IntKind.u64.wrap (w64 (a + b2))) 1)))), (204, .fz n2 cs), (205, .tup [])], [(1000000, .rows 3 1 v5.length (v5.map Pv.encI))]⟩) (ih f4 a s11.1 (w64 (bitShr .u64 (IntKind.u64.wrap (w64 (a + b2))) 1)) n2 cs cmp h2) rfl rfl rfl rfl rfl rfl rfl (fun _ => rfl) (fun _ => rfl) (fun _ => rfl) (fun _ => .of rfl rfl) fun v5 hv5 => ?_
              refine TieO.nil ?_
              exact TieS.leaf ⟨rfl, .of rfl rfl⟩
            · refine TieS.skip ?_
              exact TieS.leaf ⟨rfl, .of rfl rfl⟩
          rintro f5 e σ' _ ⟨rfl, hs⟩
          refine TieX.sub hs ?_
          refine TieS.seq ?_
          refine TieS.region ?_
          refine TieO.run 4 rfl ?_
          refine TieO.selAnd (v := decide ((w64 ((w64 ((w64 (bitShr .u64 (IntKind.u64.wrap (w64 (a + b2))) 1)) + m2)) - s11.1)) < b2)) 4 209 (fun b => ⟨[(0, .own 1000000), (3, .t (tI b2)), (4, .fz n2 cs), (18, .t (tI (w64 (bitShr .u64 (IntKind.u64.wrap (w64 (a + b2))) 1)))), (24, .t (tI (w64 ((w64 ((w64 (bitShr .u64 (IntKind.u64.wrap (w64 (a + b2))) 1)) + m2)) - s11.1)))), (213, .t (tB b))], [(1000000, .rows 3 1 f5.length (f5.map Pv.encI))]⟩) rfl ?_ ?_ ?_
          · refine TieO.run 4 rfl ?_
            refine TieO.nil ?_
            exact TieS.leaf ⟨rfl, .of rfl rfl⟩
          · refine TieO.run 4 rfl ?_
            refine TieO.nil ?_
            exact TieS.leaf ⟨rfl, .of rfl rfl⟩
          refine TieO.nil ?_
          refine TieS.cond rfl ?_ ?_
          · refine TieS.region ?_
            refine TieO.run 5 rfl ?_
            refine TieO.callG [(1000000, 1000000)] [] (fun v6 => ⟨[(0, .own 1000000), (3, .t (tI b2)), (4, .fz n2 cs), (18, .t (tI (w64 (bitShr .u64 (IntKind.u64.wrap (w64 (a + b2))) 1)))), (24, .t (tI (w64 ((w64 ((w64 (bitShr .u64 (IntKind.u64.wrap (w64 (a + b2))) 1)) + m2)) - s11.1)))), (213, .t (tB ((decide ((w64 (bitShr .u64 (IntKind.u64.wrap (w64 (a + b2))) 1)) < (w64 ((w64 ((w64 (bitShr .u64 (IntKind.u64.wrap (w64 (a + b2))) 1)) + m2)) - s11.1)))) && (decide ((w64 ((w64 ((w64 (bitShr .u64 (IntKind.u64.wrap (w64 (a + b2))) 1)) + m2)) - s11.1)) < b2))))), (214, .own 1000000), (215, .t (tI (w64 (bitShr .u64 (IntKind.u64.wrap (w64 (a + b2))) 1)))), (216, .t (tI (w64 ((w64 ((w64 (bitShr .u64 (IntKind.u64.wrap (w64 (a + b2))) 1)) + m2)) - s11.1)))), (217, .t (tI b2)), (218, .fz n2 cs), (219, .tup [])], [(1000000, .rows 3 1 v6.length (v6.map Pv.encI))]⟩) (ih f5 (w64 (bitShr .u64 (IntKind.u64.wrap (w64 (a + b2))) 1)) (w64 ((w64 ((w64 (bitShr .u64 (IntKind.u64.wrap (w64 (a + b2))) 1)) + m2)) - s11.1)) b2 n2 cs cmp h2) rfl rfl rfl rfl rfl rfl rfl (fun _ => rfl) (fun _ => rfl) (fun _ => rfl) (fun _ => .of rfl rfl) fun v6 hv6 => ?_
            refine TieO.nil ?_
            exact TieS.leaf ⟨.inr rfl, ⟨[(1000000, 1000000)], _, _, rfl, rfl, rfl, rfl, rfl⟩⟩
          · refine TieS.skip ?_
            exact TieS.leaf ⟨.inr rfl, ⟨[(1000000, 1000000)], _, _, rfl, rfl, rfl, rfl, rfl⟩⟩
        · exact hq.elim
-- slices.stableCmpFunc[int]
set_option maxRecDepth 100000 in
theorem tie_slices_stableCmpFunc_int (data : List Int) (n2 : Int) (n3 : Nat) (cs : List (List Tree)) (cmp : Int → Int → Option Int) (h2 : ∀ x0 x1, TieF Try.prog n3 ([.t (tI x0), .t (tI x1)] ++ cs.map T.el) (cmp x0 x1) (fun r => .t (tI r))) : TieG Try.prog 70 [.own 1000000, .t (tI n2), .fz n3 cs] [(1000000, .rows 3 1 data.length (data.map Pv.encI))] (slices_stableCmpFunc_int data n2 cmp) (fun _ => .tup []) (fun r => [(1000000, .rows 3 1 r.length (r.map Pv.encI))]) := by
  refine TieG.intro htab 63 [] Try.call70 Try.func70 rfl rfl rfl (Nat.le_of_ble_eq_true rfl) fun w0 L => ?_
  refine TieS.seq ?_
  refine TieS.region ?_
  refine TieO.run 1 rfl ?_
  refine TieO.nil ?_
  refine TieS.seq ?_
  refine TieS.region ?_
  refine TieO.run 3 rfl ?_
  refine TieO.nil ?_
  refine TieS.seq ?_
  refine TieS.block ?_
  refine TieS.loop (fun t => ⟨[(0, .own 1000000), (1, .t (tI n2)), (2, .fz n3 cs), (6, .t (tI 20)), (7, .t (tI t.1)), (8, .t (tI t.2.1))], [(1000000, .rows 3 1 t.2.2.length (t.2.2.map Pv.encI))]⟩) (fun b e σ' => match b with | .inl t => e = .exit 0 ∧ Sub ⟨[(0, .own 1000000), (1, .t (tI n2)), (2, .fz n3 cs), (6, .t (tI 20)), (7, .t (tI t.1))], [(1000000, .rows 3 1 t.2.2.length (t.2.2.map Pv.encI))]⟩ σ' | .inr t => False) (.of rfl rfl) ?_ ?_
  · intro s
    refine TieS.seq ?_
    refine TieS.seq ?_
    refine TieS.region ?_
    refine TieO.run 3 rfl ?_
    refine TieO.nil ?_
    refine TieS.cond rfl ?_ ?_
    · refine TieS.skip ?_
      refine TieS.block ?_
      refine TieS.seq ?_
      refine TieS.region ?_
      refine TieO.run 4 rfl ?_
      refine TieO.callG [(1000000, 1000000)] [] (fun v => ⟨[(0, .own 1000000), (1, .t (tI n2)), (2, .fz n3 cs), (6, .t (tI 20)), (7, .t (tI s.1)), (8, .t (tI s.2.1)), (11, .t (tI s.2.1)), (12, .t (tI n2)), (13, .t (tB (decide (s.2.1 ≤ n2)))), (14, .own 1000000), (15, .t (tI s.1)), (16, .t (tI s.2.1)), (17, .fz n3 cs), (18, .tup [])], [(1000000, .rows 3 1 v.length (v.map Pv.encI))]⟩) (tie_slices_insertionSortCmpFunc_int s.2.2 s.1 s.2.1 n3 cs cmp h2) rfl rfl rfl rfl rfl rfl rfl (fun _ => rfl) (fun _ => rfl) (fun _ => rfl) (fun _ => .of rfl rfl) fun v hv => ?_
      refine TieO.nil ?_
      refine TieS.seq ?_
      refine TieS.region ?_
      refine TieO.run 2 rfl ?_
      refine TieO.nil ?_
      refine TieS.region ?_
      refine TieO.run 4 rfl ?_
      refine TieO.nil ?_
      refine TieS.endb ?_
      exact TieS.leaf ⟨rfl, .of rfl rfl⟩
    · exact TieS.exitOut rfl ⟨(fun h => by cases h), rfl, .of rfl rfl⟩
  rintro (s2 | r) e σ' _ hq
  · obtain ⟨rfl, hs⟩ := hq
    refine TieX.exit rfl (TieX.sub hs ?_)
    refine TieS.seq ?_
    refine TieS.region ?_
    refine TieO.run 4 rfl ?_
    refine TieO.callG [(1000000, 1000000)] [] (fun v2 => ⟨[(0, .own 1000000), (1, .t (tI n2)), (2, .fz n3 cs), (6, .t (tI 20)), (7, .t (tI s2.1)), (23, .own 1000000), (24, .t (tI s2.1)), (25, .t (tI n2)), (26, .fz n3 cs), (27, .tup [])], [(1000000, .rows 3 1 v2.length (v2.map Pv.encI))]⟩) (tie_slices_insertionSortCmpFunc_int s2.2.2 s2.1 n2 n3 cs cmp h2) rfl rfl rfl rfl rfl rfl rfl (fun _ => rfl) (fun _ => rfl) (fun _ => rfl) (fun _ => .of rfl rfl) fun v2 hv2 => ?_
    refine TieO.nil ?_
    refine TieS.block ?_
    refine TieS.loop (fun t => ⟨[(0, .own 1000000), (1, .t (tI n2)), (2, .fz n3 cs), (6, .t (tI t.1))], [(1000000, .rows 3 1 t.2.length (t.2.map Pv.encI))]⟩) (fun b e σ' => match b with | .inl t => e = .exit 2 ∧ Sub ⟨[], [(1000000, .rows 3 1 t.2.length (t.2.map Pv.encI))]⟩ σ' | .inr t => False) (.of rfl rfl) ?_ ?_
    · intro s3
      refine TieS.seq ?_
      refine TieS.seq ?_
      refine TieS.region ?_
      refine TieO.run 3 rfl ?_
      refine TieO.nil ?_
      refine TieS.cond rfl ?_ ?_
      · refine TieS.skip ?_
        refine TieS.block ?_
        refine TieS.seq ?_
        refine TieS.region ?_
        refine TieO.run 4 rfl ?_
        refine TieO.nil ?_
        refine TieS.seq ?_
        refine TieS.block ?_
        refine TieS.loop (fun t => ⟨[(0, .own 1000000), (1, .t (tI n2)), (2, .fz n3 cs), (6, .t (tI s3.1)), (7, .t (tI t.1)), (8, .t (tI t.2.1))], [(1000000, .rows 3 1 t.2.2.length (t.2.2.map Pv.encI))]⟩) (fun b e σ' => match b with | .inl t => e = .exit 4 ∧ Sub ⟨[(0, .own 1000000), (1, .t (tI n2)), (2, .fz n3 cs), (6, .t (tI s3.1)), (7, .t (tI t.1))], [(1000000, .rows 3 1 t.2.2.length (t.2.2.map Pv.encI))]⟩ σ' | .inr t => False) (.of rfl rfl) ?_ ?_
        · intro s4
          refine TieS.seq ?_
          refine TieS.seq ?_
          refine TieS.region ?_
          refine TieO.run 3 rfl ?_
          refine TieO.nil ?_
          refine TieS.cond rfl ?_ ?_
          · refine TieS.skip ?_
            refine TieS.block ?_
            refine TieS.seq ?_
            refine TieS.region ?_
            refine TieO.run 7 rfl ?_
            refine TieO.callG [(1000000, 1000000)] [] (fun v3 => ⟨[(0, .own 1000000), (1, .t (tI n2)), (2, .fz n3 cs), (6, .t (tI s3.1)), (7, .t (tI s4.1)), (8, .t (tI s4.2.1)), (33, .t (tI s4.2.1)), (34, .t (tI n2)), (35, .t (tB (decide (s4.2.1 ≤ n2)))), (36, .own 1000000), (37, .t (tI s4.1)), (38, .t (tI s4.1)), (39, .t (tI s3.1)), (40, .t (tI (w64 (s4.1 + s3.1)))), (41, .t (tI s4.2.1)), (42, .fz n3 cs), (43, .tup [])], [(1000000, .rows 3 1 v3.length (v3.map Pv.encI))]⟩) (tie_slices_symMergeCmpFunc_int 64 s4.2.2 s4.1 (w64 (s4.1 + s3.1)) s4.2.1 n3 cs cmp h2) rfl rfl rfl rfl rfl rfl rfl (fun _ => rfl) (fun _ => rfl) (fun _ => rfl) (fun _ => .of rfl rfl) fun v3 hv3 => ?_
            refine TieO.nil ?_
            refine TieS.seq ?_
            refine TieS.region ?_
            refine TieO.run 2 rfl ?_
            refine TieO.nil ?_
            refine TieS.region ?_
            refine TieO.run 5 rfl ?_
            refine TieO.nil ?_
            refine TieS.endb ?_
            exact TieS.leaf ⟨rfl, .of rfl rfl⟩
          · exact TieS.exitOut rfl ⟨(fun h => by cases h), rfl, .of rfl rfl⟩
        rintro (s5 | r) e σ' _ hq
        · obtain ⟨rfl, hs⟩ := hq
          refine TieX.exit rfl (TieX.sub hs ?_)
          refine TieS.seq ?_
          refine TieS.seq ?_
          refine TieS.region ?_
          refine TieO.run 4 rfl ?_
          refine TieO.nil ?_
          refine TieS.seq ?_
          refine TieS.region ?_
          refine TieO.run 3 rfl ?_
          refine TieO.nil ?_
          refine TieS.cond rfl ?_ ?_
          · refine TieS.region ?_
            refine TieO.run 5 rfl ?_
            refine TieO.callG [(1000000, 1000000)] [] (fun v4 => ⟨[(0, .own 1000000), (1, .t (tI n2)), (2, .fz n3 cs), (6, .t (tI s3.1)), (7, .t (tI s5.1)), (9, .t (tI (w64 (s5.1 + s3.1)))), (49, .t (tI s5.1)), (50, .t (tI s3.1)), (51, .t (tI (w64 (s5.1 + s3.1)))), (52, .t (tI (w64 (s5.1 + s3.1)))), (53, .t (tI n2)), (54, .t (tB (decide ((w64 (s5.1 + s3.1)) < n2)))), (55, .own 1000000), (56, .t (tI s5.1)), (57, .t (tI (w64 (s5.1 + s3.1)))), (58, .t (tI n2)), (59, .fz n3 cs), (60, .tup [])], [(1000000, .rows 3 1 v4.length (v4.map Pv.encI))]⟩) (tie_slices_symMergeCmpFunc_int 64 s5.2.2 s5.1 (w64 (s5.1 + s3.1)) n2 n3 cs cmp h2) rfl rfl rfl rfl rfl rfl rfl (fun _ => rfl) (fun _ => rfl) (fun _ => rfl) (fun _ => .of rfl rfl) fun v4 hv4 => ?_
            refine TieO.nil ?_
            refine TieS.region ?_
            refine TieO.run 3 rfl ?_
            refine TieO.nil ?_
            refine TieS.endb ?_
            exact TieS.leaf ⟨rfl, .of rfl rfl⟩
          · refine TieS.skip ?_
            refine TieS.region ?_
            refine TieO.run 3 rfl ?_
            refine TieO.nil ?_
            refine TieS.endb ?_
            exact TieS.leaf ⟨rfl, .of rfl rfl⟩
        · exact hq.elim
      · exact TieS.exitOut rfl ⟨(fun h => by cases h), rfl, .of rfl rfl⟩
    rintro (s6 | r) e σ' _ hq
    · obtain ⟨rfl, hs⟩ := hq
      refine TieX.exit rfl (TieX.sub hs ?_)
      exact TieS.leaf ⟨.inr rfl, ⟨[(1000000, 1000000)], _, _, rfl, rfl, rfl, rfl, rfl⟩⟩
    · exact hq.elim
  · exact hq.elim
-- slices.SortStableFunc[[]int,int]
set_option maxRecDepth 100000 in
theorem tie_slices_SortStableFunc_sint (x : List Int) (n2 : Nat) (cs : List (List Tree)) (cmp : Int → Int → Option Int) (h2 : ∀ x0 x1, TieF Try.prog n2 ([.t (tI x0), .t (tI x1)] ++ cs.map T.el) (cmp x0 x1) (fun r => .t (tI r))) : TieG Try.prog 57 [.own 1000000, .fz n2 cs] [(1000000, .rows 3 1 x.length (x.map Pv.encI))] (slices_SortStableFunc_sint x cmp) (fun _ => .tup []) (fun r => [(1000000, .rows 3 1 r.length (r.map Pv.encI))]) := by
  refine TieG.intro htab 9 [] Try.call57 Try.func57 rfl rfl rfl (Nat.le_of_ble_eq_true rfl) fun w0 L => ?_
  refine TieS.region ?_
  refine TieO.run 4 rfl ?_
  refine TieO.callG [(1000000, 1000000)] [] (fun v => ⟨[(0, .own 1000000), (1, .fz n2 cs), (4, .own 1000000), (5, .own 1000000), (6, .t (tI (x.length : Int))), (7, .fz n2 cs), (8, .tup [])], [(1000000, .rows 3 1 v.length (v.map Pv.encI))]⟩) (tie_slices_stableCmpFunc_int x (x.length : Int) n2 cs cmp h2) rfl rfl rfl rfl rfl rfl rfl (fun _ => rfl) (fun _ => rfl) (fun _ => rfl) (fun _ => .of rfl rfl) fun v hv => ?_
  refine TieO.nil ?_
  exact TieS.leaf ⟨.inr rfl, ⟨[(1000000, 1000000)], _, _, rfl, rfl, rfl, rfl, rfl⟩⟩
-- magneto/events.Due$2
set_option maxRecDepth 100000 in
theorem tie_events_Due_2 (i : Int) (k : Int) (c : Int) (c2 : List SEvent) : TieF Try.prog 58 [.t (tI i), .t (tI k), .el (Pv.encI c), .el ((Pv.encS enc_SEvent) c2)] (events_Due_2 i k c c2) (fun r => .t (tI r)) := by
  refine TieF.intro htab 22 [.tmp 6] Try.call58 Try.func58 rfl rfl rfl (Nat.le_of_ble_eq_true rfl) fun w0 L => ?_
  refine TieS.seq ?_
  refine TieS.region ?_
  refine TieO.run 1 rfl ?_
  refine TieO.nil ?_
  refine TieS.seq ?_
  refine TieX.pre fun x hx => ?_
  refine TieX.pre fun v hv => ?_
  refine TieX.pre fun x2 hx2 => ?_
  refine TieX.pre fun v2 hv2 => ?_
  refine TieX.pre fun v3 hv3 => ?_
  refine TieS.draw 16 [.t (tI c), .t (tS enc_SEvent c2), .t (tI i), .el (enc_SEvent x), .el (List.drop 0 (enc_SEvent x)), .t (tI x.Angle), .t (tI v), .t (tI c), .t (tS enc_SEvent c2), .t (tI k), .el (enc_SEvent x2), .el (List.drop 0 (enc_SEvent x2)), .t (tI x2.Angle), .t (tI v2), .t (tI v3), .t (tI v3)] [(0, .t (tI i)), (1, .t (tI k)), (2, .el (Pv.encI c)), (3, .el ((Pv.encS enc_SEvent) c2))] [] mixed (.of rfl rfl) rfl rfl rfl rfl (.cons (.quiet rfl rfl rfl) (.cons (.quiet rfl rfl rfl) (.cons (.quiet rfl rfl rfl) (.cons (.index hx rfl rfl rfl rfl rfl rfl (fun _ => rfl)) (.cons (.quiet rfl rfl rfl) (.cons (.quiet rfl rfl rfl) (.cons (.callV (tie_events_Distance c x.Angle) hv rfl rfl rfl rfl) (.cons (.quiet rfl rfl rfl) (.cons (.quiet rfl rfl rfl) (.cons (.quiet rfl rfl rfl) (.cons (.index hx2 rfl rfl rfl rfl rfl rfl (fun _ => rfl)) (.cons (.quiet rfl rfl rfl) (.cons (.quiet rfl rfl rfl) (.cons (.callV (tie_events_Distance c x2.Angle) hv2 rfl rfl rfl rfl) (.cons (.callV (tie_cmp_Compare_int v v2) hv3 rfl rfl rfl rfl) (.cons (.quiet rfl rfl rfl) (.nil))))))))))))))))) ?_
  refine TieO.nil ?_
  exact TieS.ret ⟨.inl rfl, rfl⟩
-- magneto/events.Due
set_option maxRecDepth 100000 in
theorem tie_events_Due (l : List SEvent) (v_from : Int) (v_to : Int) : TieF Try.prog 29 [.t (tS enc_SEvent l), .t (tI v_from), .t (tI v_to)] (events_Due l v_from v_to) (fun r => .tup [.t (tS Pv.encI r.1), .t (tI r.2)]) := by
  refine TieF.intro htab 54 [.tmp 6, .tmp 7] Try.call29 Try.func29 rfl rfl rfl (Nat.le_of_ble_eq_true rfl) fun w0 L => ?_
  refine TieS.seq ?_
  refine TieS.region ?_
  refine TieO.run 4 rfl ?_
  refine TieO.nil ?_
  refine TieS.seq ?_
  refine TieS.region ?_
  refine TieO.run 1 rfl ?_
  refine TieO.nil ?_
  refine TieS.seq ?_
  refine TieS.block ?_
  refine TieS.seq ?_
  refine TieS.region ?_
  refine TieO.run 4 rfl ?_
  refine TieO.bind 4 (fun b2 => ⟨[(2, .t (tI v_to)), (3, .ptr 3 0), (4, .ptr 4 0), (20, .t (tB b2))], [(3, .box [.t (tS enc_SEvent l)]), (4, .box [.t (tI v_from)])]⟩) (TieO.split 16 rfl ?_ ?_) fun b2 _ => ?_
  · refine TieO.run 4 rfl ?_
    refine TieO.nil ?_
    exact TieS.leaf ⟨rfl, .of rfl rfl⟩
  · refine TieO.run 2 rfl ?_
    refine TieO.call _ rfl rfl rfl (tie_slices_ContainsFunc_sEvent l 55 [] events_Due_1 tie_events_Due_1) (fun _ => rfl) fun v => ?_
    refine TieO.run 1 rfl ?_
    refine TieO.nil ?_
    exact TieS.leaf ⟨rfl, .of rfl rfl⟩
  refine TieO.run 1 rfl ?_
  refine TieO.nil ?_
  refine TieS.cond rfl ?_ ?_
  · refine TieS.seq ?_
    refine TieS.region ?_
    refine TieO.run 2 rfl ?_
    refine TieO.nil ?_
    exact TieS.ret ⟨.inl rfl, rfl⟩
  · refine TieS.seq ?_
    refine TieS.region ?_
    refine TieO.run 1 rfl ?_
    refine TieO.call _ rfl rfl rfl (tie_events_angle v_from) (fun _ => rfl) fun v2 => ?_
    refine TieO.run 2 rfl ?_
    refine TieO.bind 4 (fun b3 => ⟨[(2, .t (tI v_to)), (3, .ptr 3 0), (4, .ptr 4 0), (29, .t (tB b3))], [(3, .box [.t (tS enc_SEvent l)]), (4, .box [.t (tI v_from)])]⟩) (TieO.split 25 rfl ?_ ?_) fun b3 _ => ?_
    · refine TieO.run 4 rfl ?_
      refine TieO.nil ?_
      exact TieS.leaf ⟨rfl, .of rfl rfl⟩
    · refine TieO.run 1 rfl ?_
      refine TieO.call _ rfl rfl rfl (tie_events_angle v_to) (fun _ => rfl) fun v3 => ?_
      refine TieO.run 2 rfl ?_
      refine TieO.nil ?_
      exact TieS.leaf ⟨rfl, .of rfl rfl⟩
    refine TieO.run 1 rfl ?_
    refine TieO.nil ?_
    refine TieS.cond rfl ?_ ?_
    · refine TieS.seq ?_
      refine TieS.region ?_
      refine TieO.run 2 rfl ?_
      refine TieO.nil ?_
      exact TieS.ret ⟨.inl rfl, rfl⟩
    · refine TieS.skip ?_
      refine TieS.endb ?_
      refine TieS.seq ?_
      refine TieS.region ?_
      refine TieO.run 1 rfl ?_
      refine TieO.nil ?_
      refine TieS.seq ?_
      refine TieS.seq ?_
      refine TieS.region ?_
      refine TieO.run 3 rfl ?_
      refine TieO.nil ?_
      refine TieS.block ?_
      refine TieX.nilP 9 2384 3 1 [] rfl rfl rfl rfl rfl ?_
      refine TieS.loop (fun p => ⟨[(2, .t (tI v_to)), (3, .ptr 3 0), (4, .ptr 4 0), (9, .own 2384), (30, .t (tS enc_SEvent l)), (31, .t (tI (l.length : Int))), (32, .t (tI p.1))], [(3, .box [.t (tS enc_SEvent l)]), (4, .box [.t (tI v_from)]), (2384, .rows 3 1 p.2.length (p.2.map Pv.encI))]⟩) (fun b e σ' => match b with | .inl t => e = .exit 1 ∧ Sub ⟨[(3, .ptr 3 0), (4, .ptr 4 0), (9, .own 2384)], [(3, .box [.t (tS enc_SEvent l)]), (4, .box [.t (tI v_from)]), (2384, .rows 3 1 t.length (t.map Pv.encI))]⟩ σ' | .inr t => False) (.of rfl rfl) ?_ ?_
      · rintro ⟨i, out⟩
        refine TieS.seq ?_
        refine TieS.region ?_
        refine TieO.run 1 rfl ?_
        refine TieO.nil ?_
        refine TieS.seq ?_
        refine TieS.cond rfl ?_ ?_
        · refine TieS.skip ?_
          refine TieS.seq ?_
          refine TieX.sub (σ' := ⟨[(2, .t (tI v_to)), (3, .ptr 3 0), (4, .ptr 4 0), (9, .own 2384), (30, .t (tS enc_SEvent l)), (31, .t (tI (l.length : Int))), (32, .t (tI i))], [(3, .box [.t (tS enc_SEvent l)]), (4, .box [.t (tI v_from)]), (2384, .rows 3 1 out.length (out.map Pv.encI))]⟩) (.of rfl rfl) ?_
          refine TieS.bind (Q₁ := fun f e σ' => match f with | .next t => e = .normal ∧ Sub ⟨[(2, .t (tI v_to)), (3, .ptr 3 0), (4, .ptr 4 0), (9, .own 2384), (30, .t (tS enc_SEvent l)), (31, .t (tI (l.length : Int))), (32, .t (tI i))], [(3, .box [.t (tS enc_SEvent l)]), (4, .box [.t (tI v_from)]), (2384, .rows 3 1 t.length (t.map Pv.encI))]⟩ σ' | .brk t => e = .exit 1 ∧ Sub ⟨[(3, .ptr 3 0), (4, .ptr 4 0), (9, .own 2384)], [(3, .box [.t (tS enc_SEvent l)]), (4, .box [.t (tI v_from)]), (2384, .rows 3 1 t.length (t.map Pv.encI))]⟩ σ' | .ret r => False) ?_ ?_
          · refine TieS.block ?_
            refine TieS.seq ?_
            refine TieS.region ?_
            refine TieO.run 1 rfl ?_
            refine TieO.index rfl rfl rfl rfl rfl rfl rfl rfl (fun _ => rfl) fun x hx => ?_
            refine TieO.run 4 rfl ?_
            refine TieO.nil ?_
            refine TieS.seq ?_
            refine TieX.pre fun v4 hv4 => ?_
            refine TieX.pre fun v5 hv5 => ?_
            refine TieS.draw 8 [.t (tI v_from), .ptr 11 0, .t (tI x.Angle), .t (tI v4), .t (tI v_from), .t (tI v_to), .t (tI v5), .t (tB (decide (v4 < v5)))] [(2, .t (tI v_to)), (3, .ptr 3 0), (4, .ptr 4 0), (9, .own 2384), (10, .t (tI i)), (11, .ptr 11 0), (30, .t (tS enc_SEvent l)), (31, .t (tI (l.length : Int))), (32, .t (tI i))] [(3, .box [.t (tS enc_SEvent l)]), (4, .box [.t (tI v_from)]), (11, .box [.t (tI x.Angle), .t (tI x.Kind), .t (tI x.Cylinder), .t (tI x.Pulse)]), (2384, .rows 3 1 out.length (out.map Pv.encI))] mixed (.of rfl rfl) rfl rfl rfl rfl (.cons (.quiet rfl rfl rfl) (.cons (.quiet rfl rfl rfl) (.cons (.quiet rfl rfl rfl) (.cons (.callV (tie_events_Distance v_from x.Angle) hv4 rfl rfl rfl rfl) (.cons (.quiet rfl rfl rfl) (.cons (.quiet rfl rfl rfl) (.cons (.callV (tie_events_Distance v_from v_to) hv5 rfl rfl rfl rfl) (.cons (.quiet rfl rfl rfl) (.nil))))))))) ?_
            refine TieO.nil ?_
            refine TieS.cond rfl ?_ ?_
            · refine TieS.region ?_
              refine TieO.run 3 rfl ?_
              refine TieO.appendY (id := 2384) (l := out) (r := ([i] : List Int)) (tm' := [(2, .t (tI v_to)), (3, .ptr 3 0), (4, .ptr 4 0), (10, .t (tI i)), (11, .ptr 11 0), (30, .t (tS enc_SEvent l)), (31, .t (tI (l.length : Int))), (32, .t (tI i)), (37, .t (tI v_from)), (38, .ptr 11 0), (39, .t (tI x.Angle)), (40, .t (tI v4)), (41, .t (tI v_from)), (42, .t (tI v_to)), (43, .t (tI v5)), (44, .t (tB (decide (v4 < v5)))), (46, .t (tI i)), (47, .own 47)]) (hp' := [(3, .box [.t (tS enc_SEvent l)]), (4, .box [.t (tI v_from)]), (11, .box [.t (tI x.Angle), .t (tI x.Kind), .t (tI x.Cylinder), .t (tI x.Pulse)]), (47, .rows 3 1 ([i] : List Int).length (([i] : List Int).map Pv.encI))]) rfl rfl rfl rfl rfl rfl rfl (fun _ => rfl) (fun _ => rfl) (.inl ⟨rfl, rfl⟩) (.inr ⟨_, rfl, rfl⟩) (.of rfl rfl) rfl rfl rfl fun l2 => ?_
              refine TieO.run 1 rfl ?_
              refine TieO.nil ?_
              refine TieS.endb ?_
              exact TieS.leaf ⟨rfl, .of rfl rfl⟩
            · refine TieS.skip ?_
              refine TieS.endb ?_
              exact TieS.leaf ⟨rfl, .of rfl rfl⟩
          rintro (t | t | r) e σ' _ hq
          · obtain ⟨rfl, hs⟩ := hq
            refine TieX.sub hs ?_
            refine TieS.region ?_
            refine TieO.run 2 rfl ?_
            refine TieO.nil ?_
            exact TieS.leaf ⟨rfl, .of rfl rfl⟩
          · obtain ⟨rfl, hs⟩ := hq
            exact TieX.exitOut rfl ⟨(fun h => by cases h), rfl, hs⟩
          · exact hq.elim
        · exact TieS.exitOut rfl ⟨(fun h => by cases h), rfl, .of rfl rfl⟩
      rintro (out2 | r) e σ' _ hq
      · obtain ⟨rfl, hs⟩ := hq
        refine TieX.exit rfl (TieX.sub hs ?_)
        refine TieS.seq ?_
        refine TieS.region ?_
        refine TieO.run 1 rfl ?_
        refine TieO.frzBox 4 rfl rfl ?_
        refine TieO.frzBox 3 rfl rfl ?_
        refine TieO.run 1 rfl ?_
        refine TieO.sub (σ' := ⟨[(3, .el ((Pv.encS enc_SEvent) l)), (4, .el (Pv.encI v_from)), (9, .own 2384), (50, .own 2384), (51, .fz 58 [Pv.encI v_from, (Pv.encS enc_SEvent) l])], [(2384, .rows 3 1 out2.length (out2.map Pv.encI))]⟩) (.of rfl rfl) ?_
        refine TieO.callG [(1000000, 2384)] [] (fun v6 => ⟨[(3, .el ((Pv.encS enc_SEvent) l)), (4, .el (Pv.encI v_from)), (9, .own 2384), (50, .own 2384), (51, .fz 58 [Pv.encI v_from, (Pv.encS enc_SEvent) l]), (52, .tup [])], [(2384, .rows 3 1 v6.length (v6.map Pv.encI))]⟩) (tie_slices_SortStableFunc_sint out2 58 [Pv.encI v_from, (Pv.encS enc_SEvent) l] (fun x0 x1 => events_Due_2 x0 x1 v_from l) (fun x0 x1 => tie_events_Due_2 x0 x1 v_from l)) rfl rfl rfl rfl rfl rfl rfl (fun _ => rfl) (fun _ => rfl) (fun _ => rfl) (fun _ => .of rfl rfl) fun v6 hv6 => ?_
        refine TieO.nil ?_
        refine TieS.seq ?_
        refine TieS.region ?_
        refine TieO.run 3 rfl ?_
        refine TieO.nil ?_
        exact TieS.ret ⟨.inl rfl, rfl⟩
      · exact hq.elim
-- magneto/magnetoref23.List
set_option maxRecDepth 100000 in
theorem tie_magnetoref23_List (l : List SEvent) : TieF Try.prog 31 [.t (tS enc_SEvent l)] (magnetoref23_List l) (fun r => .t (tB r)) := by
  refine TieF.intro htab 52 [.tmp 2] Try.call31 Try.func31 rfl rfl rfl (Nat.le_of_ble_eq_true rfl) fun w0 L => ?_
  refine TieS.seq ?_
  refine TieS.region ?_
  refine TieO.run 1 rfl ?_
  refine TieO.nil ?_
  refine TieS.seq ?_
  refine TieS.seq ?_
  refine TieS.region ?_
  refine TieO.run 3 rfl ?_
  refine TieO.nil ?_
  refine TieS.cond rfl ?_ ?_
  · refine TieS.seq ?_
    refine TieS.region ?_
    refine TieO.run 1 rfl ?_
    refine TieO.nil ?_
    exact TieS.ret ⟨.inl rfl, rfl⟩
  · refine TieS.skip ?_
    refine TieS.seq ?_
    refine TieS.seq ?_
    refine TieS.region ?_
    refine TieO.run 1 rfl ?_
    refine TieO.nil ?_
    refine TieS.block ?_
    refine TieS.loop (fun t => ⟨[(0, .t (tS enc_SEvent l)), (3, .t (tI t))], []⟩) (fun b e σ' => match b with | .inl t => e = .exit 0 ∧ Sub ⟨[], []⟩ σ' | .inr t => e = .ret ∧ retT tab σ' [.tmp 2] = some (((fun r => .t (tB r)) : Bool → T) t)) (.of rfl rfl) ?_ ?_
    · intro i
      refine TieS.seq ?_
      refine TieS.seq ?_
      refine TieS.region ?_
      refine TieO.run 4 rfl ?_
      refine TieO.nil ?_
      refine TieS.cond rfl ?_ ?_
      · refine TieS.skip ?_
        refine TieS.seq ?_
        refine TieS.block ?_
        refine TieS.seq ?_
        refine TieS.region ?_
        refine TieO.run 2 rfl ?_
        refine TieO.index rfl rfl rfl rfl rfl rfl rfl rfl (fun _ => rfl) fun x hx => ?_
        refine TieO.run 3 rfl ?_
        refine TieO.nil ?_
        refine TieS.seq ?_
        refine TieS.region ?_
        refine TieO.run 2 rfl ?_
        refine TieO.call _ rfl rfl rfl (tie_magnetoref23_Angle x.Angle) (fun _ => rfl) fun v => ?_
        refine TieO.run 2 rfl ?_
        refine TieO.selOr (v := decide (x.Kind < 1)) 4 22 (fun b => ⟨[(0, .t (tS enc_SEvent l)), (3, .t (tI i)), (4, .ptr 4 0), (26, .t (tB b))], [(4, .box [.t (tI x.Angle), .t (tI x.Kind), .t (tI x.Cylinder), .t (tI x.Pulse)])]⟩) rfl ?_ ?_ ?_
        · refine TieO.run 4 rfl ?_
          refine TieO.nil ?_
          exact TieS.leaf ⟨rfl, .of rfl rfl⟩
        · refine TieO.run 4 rfl ?_
          refine TieO.nil ?_
          exact TieS.leaf ⟨rfl, .of rfl rfl⟩
        refine TieO.run 1 rfl ?_
        refine TieO.selOr (v := decide (x.Kind > 4)) 4 27 (fun b => ⟨[(0, .t (tS enc_SEvent l)), (3, .t (tI i)), (4, .ptr 4 0), (31, .t (tB b))], [(4, .box [.t (tI x.Angle), .t (tI x.Kind), .t (tI x.Cylinder), .t (tI x.Pulse)])]⟩) rfl ?_ ?_ ?_
        · refine TieO.run 4 rfl ?_
          refine TieO.nil ?_
          exact TieS.leaf ⟨rfl, .of rfl rfl⟩
        · refine TieO.run 4 rfl ?_
          refine TieO.nil ?_
          exact TieS.leaf ⟨rfl, .of rfl rfl⟩
        refine TieO.run 1 rfl ?_
        refine TieO.selOr (v := decide (x.Cylinder < 1)) 4 32 (fun b => ⟨[(0, .t (tS enc_SEvent l)), (3, .t (tI i)), (4, .ptr 4 0), (36, .t (tB b))], [(4, .box [.t (tI x.Angle), .t (tI x.Kind), .t (tI x.Cylinder), .t (tI x.Pulse)])]⟩) rfl ?_ ?_ ?_
        · refine TieO.run 4 rfl ?_
          refine TieO.nil ?_
          exact TieS.leaf ⟨rfl, .of rfl rfl⟩
        · refine TieO.run 4 rfl ?_
          refine TieO.nil ?_
          exact TieS.leaf ⟨rfl, .of rfl rfl⟩
        refine TieO.run 1 rfl ?_
        refine TieO.selOr (v := decide (x.Cylinder > 8)) 4 37 (fun b => ⟨[(0, .t (tS enc_SEvent l)), (3, .t (tI i)), (4, .ptr 4 0), (41, .t (tB b))], [(4, .box [.t (tI x.Angle), .t (tI x.Kind), .t (tI x.Cylinder), .t (tI x.Pulse)])]⟩) rfl ?_ ?_ ?_
        · refine TieO.run 4 rfl ?_
          refine TieO.nil ?_
          exact TieS.leaf ⟨rfl, .of rfl rfl⟩
        · refine TieO.run 4 rfl ?_
          refine TieO.nil ?_
          exact TieS.leaf ⟨rfl, .of rfl rfl⟩
        refine TieO.run 1 rfl ?_
        refine TieO.selOr (v := decide (x.Pulse < 0)) 4 42 (fun b => ⟨[(0, .t (tS enc_SEvent l)), (3, .t (tI i)), (4, .ptr 4 0), (46, .t (tB b))], [(4, .box [.t (tI x.Angle), .t (tI x.Kind), .t (tI x.Cylinder), .t (tI x.Pulse)])]⟩) rfl ?_ ?_ ?_
        · refine TieO.run 4 rfl ?_
          refine TieO.nil ?_
          exact TieS.leaf ⟨rfl, .of rfl rfl⟩
        · refine TieO.run 4 rfl ?_
          refine TieO.nil ?_
          exact TieS.leaf ⟨rfl, .of rfl rfl⟩
        refine TieO.run 1 rfl ?_
        refine TieO.selOr (v := decide (x.Pulse > 2)) 4 47 (fun b => ⟨[(0, .t (tS enc_SEvent l)), (3, .t (tI i)), (51, .t (tB b))], []⟩) rfl ?_ ?_ ?_
        · refine TieO.run 4 rfl ?_
          refine TieO.nil ?_
          exact TieS.leaf ⟨rfl, .of rfl rfl⟩
        · refine TieO.run 4 rfl ?_
          refine TieO.nil ?_
          exact TieS.leaf ⟨rfl, .of rfl rfl⟩
        refine TieO.nil ?_
        refine TieS.cond rfl ?_ ?_
        · refine TieS.seq ?_
          refine TieS.region ?_
          refine TieO.run 1 rfl ?_
          refine TieO.nil ?_
          exact TieS.ret ⟨(fun h => by cases h), rfl, rfl⟩
        · refine TieS.skip ?_
          refine TieS.endb ?_
          refine TieS.region ?_
          refine TieO.run 3 rfl ?_
          refine TieO.nil ?_
          exact TieS.leaf ⟨rfl, .of rfl rfl⟩
      · exact TieS.exitOut rfl ⟨(fun h => by cases h), rfl, .of rfl rfl⟩
    rintro (i2 | r2) e σ' _ hq
    · obtain ⟨rfl, hs⟩ := hq
      refine TieX.exit rfl (TieX.sub hs ?_)
      refine TieS.seq ?_
      refine TieS.region ?_
      refine TieO.run 1 rfl ?_
      refine TieO.nil ?_
      exact TieS.ret ⟨.inl rfl, rfl⟩
    · obtain ⟨rfl, hs⟩ := hq
      exact TieX.ret ⟨.inl rfl, hs⟩
-- magneto/magnetoref23.Distance
set_option maxRecDepth 100000 in
theorem tie_magnetoref23_Distance (v_from : Int) (v_to : Int) : TieF Try.prog 32 [.t (tI v_from), .t (tI v_to)] (magnetoref23_Distance v_from v_to) (fun r => .t (tI r)) := by
  refine TieF.intro htab 9 [.tmp 4] Try.call32 Try.func32 rfl rfl rfl (Nat.le_of_ble_eq_true rfl) fun w0 L => ?_
  refine TieS.seq ?_
  refine TieS.region ?_
  refine TieO.run 1 rfl ?_
  refine TieO.nil ?_
  refine TieS.seq ?_
  refine TieS.region ?_
  refine TieO.run 3 rfl ?_
  refine TieO.call _ rfl rfl rfl (tie_magnetoref23_around (w64 (v_to - v_from))) (fun _ => rfl) fun v => ?_
  refine TieO.run 1 rfl ?_
  refine TieO.nil ?_
  exact TieS.ret ⟨.inl rfl, rfl⟩
-- slices.Equal[[]int,int]
set_option maxRecDepth 100000 in
theorem tie_slices_Equal_sint (s1 : List Int) (s2 : List Int) : TieF Try.prog 33 [.t (tS Pv.encI s1), .t (tS Pv.encI s2)] (slices_Equal_sint s1 s2) (fun r => .t (tB r)) := by
  refine TieF.intro htab 26 [.tmp 4] Try.call33 Try.func33 rfl rfl rfl (Nat.le_of_ble_eq_true rfl) fun w0 L => ?_
  refine TieS.seq ?_
  refine TieS.region ?_
  refine TieO.run 1 rfl ?_
  refine TieO.nil ?_
  refine TieS.seq ?_
  refine TieS.seq ?_
  refine TieS.region ?_
  refine TieO.run 5 rfl ?_
  refine TieO.nil ?_
  refine TieS.cond rfl ?_ ?_
  · refine TieS.seq ?_
    refine TieS.region ?_
    refine TieO.run 1 rfl ?_
    refine TieO.nil ?_
    exact TieS.ret ⟨.inl rfl, rfl⟩
  · refine TieS.skip ?_
    refine TieS.seq ?_
    refine TieS.seq ?_
    refine TieS.region ?_
    refine TieO.run 3 rfl ?_
    refine TieO.nil ?_
    refine TieS.block ?_
    refine TieS.loop (fun p => ⟨[(0, .t (tS Pv.encI s1)), (1, .t (tS Pv.encI s2)), (12, .t (tI (s1.length : Int))), (13, .t (tI p.1))], []⟩) (fun b e σ' => match b with | .inl t => e = .exit 0 ∧ Sub ⟨[], []⟩ σ' | .inr t => e = .ret ∧ retT tab σ' [.tmp 4] = some (((fun r => .t (tB r)) : Bool → T) t)) (.of rfl rfl) ?_ ?_
    · rintro ⟨i, s⟩
      refine TieS.seq ?_
      refine TieS.region ?_
      refine TieO.run 1 rfl ?_
      refine TieO.nil ?_
      refine TieS.seq ?_
      refine TieS.cond rfl ?_ ?_
      · refine TieS.skip ?_
        refine TieS.seq ?_
        refine TieX.sub (σ' := ⟨[(0, .t (tS Pv.encI s1)), (1, .t (tS Pv.encI s2)), (12, .t (tI (s1.length : Int))), (13, .t (tI i))], []⟩) (.of rfl rfl) ?_
        refine TieS.bind (Q₁ := fun f e σ' => match f with | .next t => e = .normal ∧ Sub ⟨[(0, .t (tS Pv.encI s1)), (1, .t (tS Pv.encI s2)), (12, .t (tI (s1.length : Int))), (13, .t (tI i))], []⟩ σ' | .brk t => e = .exit 0 ∧ Sub ⟨[], []⟩ σ' | .ret t => e = .ret ∧ retT tab σ' [.tmp 4] = some (((fun r => .t (tB r)) : Bool → T) t)) ?_ ?_
        · refine TieS.block ?_
          refine TieS.seq ?_
          refine TieS.region ?_
          refine TieO.run 2 rfl ?_
          refine TieO.nil ?_
          refine TieS.seq ?_
          refine TieX.pre fun x hx => ?_
          refine TieX.pre fun x2 hx2 => ?_
          refine TieS.draw 9 [.t (tS Pv.encI s1), .t (tI i), .el (Pv.encI x), .t (tI x), .t (tS Pv.encI s2), .t (tI i), .el (Pv.encI x2), .t (tI x2), .t (tB (x != x2))] [(0, .t (tS Pv.encI s1)), (1, .t (tS Pv.encI s2)), (5, .t (tI i)), (12, .t (tI (s1.length : Int))), (13, .t (tI i))] [] mixed (.of rfl rfl) rfl rfl rfl rfl (.cons (.quiet rfl rfl rfl) (.cons (.quiet rfl rfl rfl) (.cons (.index hx rfl rfl rfl rfl rfl rfl (fun _ => rfl)) (.cons (.quiet rfl rfl rfl) (.cons (.quiet rfl rfl rfl) (.cons (.quiet rfl rfl rfl) (.cons (.index hx2 rfl rfl rfl rfl rfl rfl (fun _ => rfl)) (.cons (.quiet rfl rfl rfl) (.cons (.quiet rfl rfl rfl) (.nil)))))))))) ?_
          refine TieO.nil ?_
          refine TieS.cond rfl ?_ ?_
          · refine TieS.seq ?_
            refine TieS.region ?_
            refine TieO.run 1 rfl ?_
            refine TieO.nil ?_
            exact TieS.ret ⟨rfl, rfl⟩
          · refine TieS.skip ?_
            refine TieS.endb ?_
            exact TieS.leaf ⟨rfl, .of rfl rfl⟩
        rintro (t | t | t) e σ' _ hq
        · obtain ⟨rfl, hs⟩ := hq
          refine TieX.sub hs ?_
          refine TieS.region ?_
          refine TieO.run 2 rfl ?_
          refine TieO.nil ?_
          exact TieS.leaf ⟨rfl, .of rfl rfl⟩
        · obtain ⟨rfl, hs⟩ := hq
          exact TieX.exitOut rfl ⟨(fun h => by cases h), rfl, hs⟩
        · obtain ⟨rfl, hs⟩ := hq
          exact TieX.ret ⟨(fun h => by cases h), rfl, hs⟩
      · exact TieS.exitOut rfl ⟨(fun h => by cases h), rfl, .of rfl rfl⟩
    rintro (s3 | r2) e σ' _ hq
    · obtain ⟨rfl, hs⟩ := hq
      refine TieX.exit rfl (TieX.sub hs ?_)
      refine TieS.seq ?_
      refine TieS.region ?_
      refine TieO.run 1 rfl ?_
      refine TieO.nil ?_
      exact TieS.ret ⟨.inl rfl, rfl⟩
    · obtain ⟨rfl, hs⟩ := hq
      exact TieX.ret ⟨.inl rfl, hs⟩
-- magneto/magnetoref23.Due
set_option maxRecDepth 100000 in
theorem tie_magnetoref23_Due (l : List SEvent) (v_from : Int) (v_to : Int) : TieF Try.prog 34 [.t (tS enc_SEvent l), .t (tI v_from), .t (tI v_to)] (magnetoref23_Due l v_from v_to) (fun r => .t (tS Pv.encI r)) := by
  refine TieF.intro htab 66 [.tmp 6] Try.call34 Try.func34 rfl rfl rfl (Nat.le_of_ble_eq_true rfl) fun w0 L => ?_
  refine TieS.seq ?_
  refine TieS.region ?_
  refine TieO.run 1 rfl ?_
  refine TieO.nil ?_
  refine TieS.seq ?_
  refine TieS.region ?_
  refine TieO.run 1 rfl ?_
  refine TieO.nil ?_
  refine TieS.seq ?_
  refine TieS.seq ?_
  refine TieS.region ?_
  refine TieO.run 1 rfl ?_
  refine TieO.nil ?_
  refine TieS.block ?_
  refine TieS.loop (fun t => ⟨[(0, .t (tS enc_SEvent l)), (1, .t (tI v_from)), (2, .t (tI v_to)), (7, .t (tS Pv.encI t.1)), (8, .t (tI t.2))], []⟩) (fun b e σ' => match b with | .inl t => e = .exit 0 ∧ Sub ⟨[(7, .t (tS Pv.encI t.1))], []⟩ σ' | .inr t => False) (.of rfl rfl) ?_ ?_
  · intro s
    refine TieS.seq ?_
    refine TieS.seq ?_
    refine TieS.region ?_
    refine TieO.run 4 rfl ?_
    refine TieO.nil ?_
    refine TieS.cond rfl ?_ ?_
    · refine TieS.skip ?_
      refine TieS.seq ?_
      refine TieS.block ?_
      refine TieS.seq ?_
      refine TieS.region ?_
      refine TieO.run 3 rfl ?_
      refine TieO.index rfl rfl rfl rfl rfl rfl rfl rfl (fun _ => rfl) fun x hx => ?_
      refine TieO.run 2 rfl ?_
      refine TieO.call _ rfl rfl rfl (tie_magnetoref23_Distance v_from x.Angle) (fun _ => rfl) fun v => ?_
      refine TieO.run 1 rfl ?_
      refine TieO.nil ?_
      refine TieS.seq ?_
      refine TieS.seq ?_
      refine TieS.region ?_
      refine TieO.run 3 rfl ?_
      refine TieO.call _ rfl rfl rfl (tie_magnetoref23_Distance v_from v_to) (fun _ => rfl) fun v2 => ?_
      refine TieO.run 1 rfl ?_
      refine TieO.nil ?_
      refine TieS.cond rfl ?_ ?_
      · refine TieS.exit rfl ?_
        refine TieS.region ?_
        refine TieO.run 3 rfl ?_
        refine TieO.nil ?_
        exact TieS.leaf ⟨rfl, .of rfl rfl⟩
      · refine TieS.skip ?_
        refine TieS.seq ?_
        refine TieS.region ?_
        refine TieO.run 3 rfl ?_
        refine TieO.nil ?_
        refine TieS.seq ?_
        refine TieS.block ?_
        refine TieS.loop (fun t => ⟨[(0, .t (tS enc_SEvent l)), (1, .t (tI v_from)), (2, .t (tI v_to)), (7, .t (tS Pv.encI s.1)), (8, .t (tI s.2)), (9, .t (tI v)), (10, .t (tI t))], []⟩) (fun b e σ' => match b with | .inl t => e = .exit 2 ∧ Sub ⟨[(0, .t (tS enc_SEvent l)), (1, .t (tI v_from)), (2, .t (tI v_to)), (7, .t (tS Pv.encI s.1)), (8, .t (tI s.2)), (10, .t (tI t))], []⟩ σ' | .inr t => False) (.of rfl rfl) ?_ ?_
        · intro k
          refine TieS.seq ?_
          refine TieS.seq ?_
          refine TieS.region ?_
          refine TieO.run 3 rfl ?_
          refine TieO.bind 14 (fun b2 => ⟨[(0, .t (tS enc_SEvent l)), (1, .t (tI v_from)), (2, .t (tI v_to)), (7, .t (tS Pv.encI s.1)), (8, .t (tI s.2)), (9, .t (tI v)), (10, .t (tI k)), (48, .t (tB b2))], []⟩) (TieO.split 34 rfl ?_ ?_) fun b2 _ => ?_
          · refine TieO.run 5 rfl ?_
            refine TieO.index rfl rfl rfl rfl rfl rfl rfl rfl (fun _ => rfl) fun x2 hx2 => ?_
            refine TieO.run 1 rfl ?_
            refine TieO.index rfl rfl rfl rfl rfl rfl rfl rfl (fun _ => rfl) fun x3 hx3 => ?_
            refine TieO.run 2 rfl ?_
            refine TieO.call _ rfl rfl rfl (tie_magnetoref23_Distance v_from x3.Angle) (fun _ => rfl) fun v3 => ?_
            refine TieO.run 3 rfl ?_
            refine TieO.nil ?_
            exact TieS.leaf ⟨rfl, .of rfl rfl⟩
          · refine TieO.run 14 rfl ?_
            refine TieO.nil ?_
            exact TieS.leaf ⟨rfl, .of rfl rfl⟩
          refine TieO.nil ?_
          refine TieS.cond rfl ?_ ?_
          · refine TieS.skip ?_
            refine TieS.block ?_
            refine TieS.region ?_
            refine TieO.run 3 rfl ?_
            refine TieO.nil ?_
            refine TieS.endb ?_
            exact TieS.leaf ⟨rfl, .of rfl rfl⟩
          · exact TieS.exitOut rfl ⟨(fun h => by cases h), rfl, .of rfl rfl⟩
        rintro (k2 | r) e σ' _ hq
        · obtain ⟨rfl, hs⟩ := hq
          refine TieX.exit rfl (TieX.sub hs ?_)
          refine TieS.seq ?_
          refine TieS.region ?_
          refine TieO.run 3 rfl ?_
          refine TieO.sliceF rfl rfl rfl rfl rfl rfl rfl (fun _ => rfl) rfl rfl fun l2 hl2 => ?_
          refine TieO.appendY (id := 51) (e' := 0) (l := ([] : List Int)) (r := l2) (tm' := [(0, .t (tS enc_SEvent l)), (1, .t (tI v_from)), (2, .t (tI v_to)), (7, .t (tS Pv.encI s.1)), (8, .t (tI s.2)), (10, .t (tI k2)), (52, .t (tS Pv.encI s.1)), (53, .t (tI k2)), (54, .t (tS Pv.encI l2))]) (hp' := []) rfl rfl rfl rfl rfl rfl rfl (fun _ => rfl) (fun _ => rfl) (.inl ⟨rfl, rfl⟩) (.inl rfl) (.of rfl rfl) rfl rfl rfl fun l3 => ?_
          refine TieO.run 1 rfl ?_
          refine TieO.nil ?_
          refine TieS.seq ?_
          refine TieS.region ?_
          refine TieO.run 3 rfl ?_
          refine TieO.appendY (id := 51) (l := l3) (r := ([s.2] : List Int)) (tm' := [(0, .t (tS enc_SEvent l)), (1, .t (tI v_from)), (2, .t (tI v_to)), (7, .t (tS Pv.encI s.1)), (8, .t (tI s.2)), (10, .t (tI k2)), (52, .t (tS Pv.encI s.1)), (53, .t (tI k2)), (54, .t (tS Pv.encI l2)), (57, .t (tI s.2)), (58, .own 58)]) (hp' := [(58, .rows 3 1 ([s.2] : List Int).length (([s.2] : List Int).map Pv.encI))]) rfl rfl rfl rfl rfl rfl rfl (fun _ => rfl) (fun _ => rfl) (.inl ⟨rfl, rfl⟩) (.inr ⟨_, rfl, rfl⟩) (.of rfl rfl) rfl rfl rfl fun l4 => ?_
          refine TieO.run 1 rfl ?_
          refine TieO.nil ?_
          refine TieS.region ?_
          refine TieO.run 3 rfl ?_
          refine TieO.sliceF rfl rfl rfl rfl rfl rfl rfl (fun _ => rfl) rfl rfl fun l5 hl5 => ?_
          refine TieO.appendY (id := 51) (e' := 0) (l := l4) (r := l5) (tm' := [(0, .t (tS enc_SEvent l)), (1, .t (tI v_from)), (2, .t (tI v_to)), (7, .t (tS Pv.encI s.1)), (8, .t (tI s.2)), (10, .t (tI k2)), (52, .t (tS Pv.encI s.1)), (53, .t (tI k2)), (54, .t (tS Pv.encI l2)), (57, .t (tI s.2)), (58, .own 58), (61, .t (tS Pv.encI s.1)), (62, .t (tI k2)), (63, .t (tS Pv.encI l5))]) (hp' := [(58, .rows 3 1 ([s.2] : List Int).length (([s.2] : List Int).map Pv.encI))]) rfl rfl rfl rfl rfl rfl rfl (fun _ => rfl) (fun _ => rfl) (.inl ⟨rfl, rfl⟩) (.inl rfl) (.of rfl rfl) rfl rfl rfl fun l6 => ?_
          refine TieO.run 1 rfl ?_
          refine TieO.nil ?_
          refine TieS.endb ?_
          refine TieS.region ?_
          refine TieO.run 3 rfl ?_
          refine TieO.nil ?_
          refine TieX.frz 51 rfl ?_
          exact TieS.leaf ⟨rfl, .of rfl rfl⟩
        · exact hq.elim
    · exact TieS.exitOut rfl ⟨(fun h => by cases h), rfl, .of rfl rfl⟩
  rintro (s2 | r) e σ' _ hq
  · obtain ⟨rfl, hs⟩ := hq
    refine TieX.exit rfl (TieX.sub hs ?_)
    refine TieS.seq ?_
    refine TieS.region ?_
    refine TieO.run 2 rfl ?_
    refine TieO.nil ?_
    exact TieS.ret ⟨.inl rfl, rfl⟩
  · exact hq.elim
-- magneto/magnetolaw23.EventsDue
set_option maxRecDepth 100000 in
theorem tie_magnetolaw23_EventsDue (l : List SEvent) (v_from : Int) (v_to : Int) : TieF Try.prog 9 [.t (tS enc_SEvent l), .t (tI v_from), .t (tI v_to)] (magnetolaw23_EventsDue l v_from v_to) (fun r => .t (tB r)) := by
  refine TieF.intro htab 74 [.tmp 6] Try.call9 Try.func9 rfl rfl rfl (Nat.le_of_ble_eq_true rfl) fun w0 L => ?_
  refine TieS.seq ?_
  refine TieS.region ?_
  refine TieO.run 1 rfl ?_
  refine TieO.nil ?_
  refine TieS.seq ?_
  refine TieS.seq ?_
  refine TieS.region ?_
  refine TieO.call _ rfl rfl rfl (tie_magnetolaw23_awake) (fun _ => rfl) fun v => ?_
  refine TieO.run 1 rfl ?_
  refine TieO.nil ?_
  refine TieS.cond rfl ?_ ?_
  · refine TieS.seq ?_
    refine TieS.region ?_
    refine TieO.run 1 rfl ?_
    refine TieO.nil ?_
    exact TieS.ret ⟨.inl rfl, rfl⟩
  · refine TieS.skip ?_
    refine TieS.seq ?_
    refine TieS.seq ?_
    refine TieS.region ?_
    refine TieO.run 4 rfl ?_
    refine TieO.selAnd (v := decide ((l.length : Int) ≤ 1000)) 4 15 (fun b => ⟨[(0, .t (tS enc_SEvent l)), (1, .t (tI v_from)), (2, .t (tI v_to)), (19, .t (tB b))], []⟩) rfl ?_ ?_ ?_
    · refine TieO.run 4 rfl ?_
      refine TieO.nil ?_
      exact TieS.leaf ⟨rfl, .of rfl rfl⟩
    · refine TieO.run 4 rfl ?_
      refine TieO.nil ?_
      exact TieS.leaf ⟨rfl, .of rfl rfl⟩
    refine TieO.nil ?_
    refine TieS.cond rfl ?_ ?_
    · refine TieS.seq ?_
      refine TieS.region ?_
      refine TieO.run 1 rfl ?_
      refine TieO.nil ?_
      exact TieS.ret ⟨.inl rfl, rfl⟩
    · refine TieS.skip ?_
      refine TieS.seq ?_
      refine TieS.region ?_
      refine TieO.run 3 rfl ?_
      refine TieO.call _ rfl rfl rfl (tie_events_Due l v_from v_to) (fun _ => rfl) fun r2 => ?_
      refine TieO.run 5 rfl ?_
      refine TieO.nil ?_
      refine TieS.seq ?_
      refine TieS.region ?_
      refine TieO.run 2 rfl ?_
      refine TieO.call _ rfl rfl rfl (tie_events_Distance v_from v_to) (fun _ => rfl) fun v2 => ?_
      refine TieO.run 1 rfl ?_
      refine TieO.nil ?_
      refine TieS.seq ?_
      refine TieS.seq ?_
      refine TieS.region ?_
      refine TieO.run 1 rfl ?_
      refine TieO.call _ rfl rfl rfl (tie_magnetoref23_Angle v_from) (fun _ => rfl) fun v3 => ?_
      refine TieO.run 2 rfl ?_
      refine TieO.bind 4 (fun b2 => ⟨[(0, .t (tS enc_SEvent l)), (1, .t (tI v_from)), (2, .t (tI v_to)), (7, .t (tS Pv.encI r2.1)), (8, .t (tI r2.2)), (9, .t (tI v2)), (37, .t (tB b2))], []⟩) (TieO.split 33 rfl ?_ ?_) fun b2 _ => ?_
      · refine TieO.run 4 rfl ?_
        refine TieO.nil ?_
        exact TieS.leaf ⟨rfl, .of rfl rfl⟩
      · refine TieO.run 1 rfl ?_
        refine TieO.call _ rfl rfl rfl (tie_magnetoref23_Angle v_to) (fun _ => rfl) fun v4 => ?_
        refine TieO.run 2 rfl ?_
        refine TieO.nil ?_
        exact TieS.leaf ⟨rfl, .of rfl rfl⟩
      refine TieO.nil ?_
      refine TieS.bind (Q₁ := fun t e σ' => match t with | .inl t => e = .normal ∧ Sub ⟨[(0, .t (tS enc_SEvent l)), (1, .t (tI v_from)), (2, .t (tI v_to)), (7, .t (tS Pv.encI r2.1)), (8, .t (tI r2.2))], []⟩ σ' | .inr t => e = .ret ∧ retT tab σ' [.tmp 6] = some (((fun r => .t (tB r)) : Bool → T) t)) ?_ ?_
      · refine TieS.cond rfl ?_ ?_
        · refine TieS.seq ?_
          refine TieS.seq ?_
          refine TieS.region ?_
          refine TieO.run 2 rfl ?_
          refine TieO.nil ?_
          refine TieS.cond rfl ?_ ?_
          · refine TieS.seq ?_
            refine TieS.region ?_
            refine TieO.run 1 rfl ?_
            refine TieO.nil ?_
            exact TieS.ret ⟨rfl, rfl⟩
          · refine TieS.skip ?_
            refine TieS.seq ?_
            refine TieS.region ?_
            refine TieO.run 1 rfl ?_
            refine TieO.call _ rfl rfl rfl (tie_magnetoref23_List l) (fun _ => rfl) fun v5 => ?_
            refine TieO.nil ?_
            refine TieS.cond rfl ?_ ?_
            · refine TieS.seq ?_
              refine TieS.region ?_
              refine TieO.run 3 rfl ?_
              refine TieO.selAnd (v := ((r2.1.length : Int) == 0)) 4 44 (fun b => ⟨[(48, .t (tB b))], []⟩) rfl ?_ ?_ ?_
              · refine TieO.run 4 rfl ?_
                refine TieO.nil ?_
                exact TieS.leaf ⟨rfl, .of rfl rfl⟩
              · refine TieO.run 4 rfl ?_
                refine TieO.nil ?_
                exact TieS.leaf ⟨rfl, .of rfl rfl⟩
              refine TieO.run 1 rfl ?_
              refine TieO.nil ?_
              exact TieS.ret ⟨rfl, rfl⟩
            · refine TieS.skip ?_
              exact TieS.leaf ⟨rfl, .of rfl rfl⟩
        · refine TieS.seq ?_
          refine TieS.region ?_
          refine TieO.run 3 rfl ?_
          refine TieO.call _ rfl rfl rfl (tie_magnetoref23_Distance v_from v_to) (fun _ => rfl) fun v6 => ?_
          refine TieO.run 1 rfl ?_
          refine TieO.nil ?_
          refine TieS.cond rfl ?_ ?_
          · refine TieS.seq ?_
            refine TieS.region ?_
            refine TieO.run 1 rfl ?_
            refine TieO.nil ?_
            exact TieS.ret ⟨rfl, rfl⟩
          · refine TieS.skip ?_
            exact TieS.leaf ⟨rfl, .of rfl rfl⟩
      rintro (s | r3) e σ' _ hq
      · obtain ⟨rfl, hs⟩ := hq
        refine TieX.sub hs ?_
        refine TieS.seq ?_
        refine TieS.seq ?_
        refine TieS.region ?_
        refine TieO.run 1 rfl ?_
        refine TieO.call _ rfl rfl rfl (tie_magnetoref23_List l) (fun _ => rfl) fun v7 => ?_
        refine TieO.run 1 rfl ?_
        refine TieO.nil ?_
        refine TieS.cond rfl ?_ ?_
        · refine TieS.seq ?_
          refine TieS.region ?_
          refine TieO.run 3 rfl ?_
          refine TieO.selAnd (v := ((r2.1.length : Int) == 0)) 4 59 (fun b => ⟨[(63, .t (tB b))], []⟩) rfl ?_ ?_ ?_
          · refine TieO.run 4 rfl ?_
            refine TieO.nil ?_
            exact TieS.leaf ⟨rfl, .of rfl rfl⟩
          · refine TieO.run 4 rfl ?_
            refine TieO.nil ?_
            exact TieS.leaf ⟨rfl, .of rfl rfl⟩
          refine TieO.run 1 rfl ?_
          refine TieO.nil ?_
          exact TieS.ret ⟨.inl rfl, rfl⟩
        · refine TieS.skip ?_
          refine TieS.seq ?_
          refine TieS.region ?_
          refine TieO.run 3 rfl ?_
          refine TieO.bind 7 (fun b3 => ⟨[(73, .t (tB b3))], []⟩) (TieO.split 66 rfl ?_ ?_) fun b3 _ => ?_
          · refine TieO.run 4 rfl ?_
            refine TieO.call _ rfl rfl rfl (tie_magnetoref23_Due l v_from v_to) (fun _ => rfl) fun v8 => ?_
            refine TieO.call _ rfl rfl rfl (tie_slices_Equal_sint r2.1 v8) (fun _ => rfl) fun v9 => ?_
            refine TieO.run 1 rfl ?_
            refine TieO.nil ?_
            exact TieS.leaf ⟨rfl, .of rfl rfl⟩
          · refine TieO.run 7 rfl ?_
            refine TieO.nil ?_
            exact TieS.leaf ⟨rfl, .of rfl rfl⟩
          refine TieO.run 1 rfl ?_
          refine TieO.nil ?_
          exact TieS.ret ⟨.inl rfl, rfl⟩
      · obtain ⟨rfl, hs⟩ := hq
        exact TieX.ret ⟨.inl rfl, hs⟩
-- slices.Grow[[]int,int]
set_option maxRecDepth 100000 in
theorem tie_slices_Grow_sint (n2 : Int) : TieG Try.prog 61 [.t (.v (.slice none 0 0)), .t (tI n2)] [] (slices_Grow_sint n2) (fun _ => .own 900000) (fun r => [(900000, .rows 3 1 r.length (r.map Pv.encI))]) := by
  refine TieG.intro htab 27 [.tmp 4] Try.call61 Try.func61 rfl rfl rfl (Nat.le_of_ble_eq_true rfl) fun w0 L => ?_
  refine TieS.seq ?_
  refine TieS.region ?_
  refine TieO.run 1 rfl ?_
  refine TieO.nil ?_
  refine TieS.seq ?_
  refine TieS.seq ?_
  refine TieS.region ?_
  refine TieO.run 2 rfl ?_
  refine TieO.nil ?_
  refine TieS.bind (Q₁ := fun t e σ' => e = .normal ∧ Sub ⟨[(0, .t (.v (.slice none 0 0))), (1, .t (tI n2))], []⟩ σ') ?_ ?_
  · refine TieS.cond rfl ?_ ?_
    · refine TieS.region ?_
      exact TieO.fail
    · refine TieS.skip ?_
      exact TieS.leaf ⟨rfl, .of rfl rfl⟩
  rintro s e σ' _ ⟨rfl, hs⟩
  refine TieX.sub hs ?_
  refine TieS.seq ?_
  refine TieS.seq ?_
  refine TieS.region ?_
  refine TieO.run 2 rfl ?_
  refine TieO.capNil rfl rfl rfl rfl rfl rfl ?_
  refine TieO.run 5 rfl ?_
  refine TieO.nil ?_
  refine TieS.seq ?_
  refine TieS.region ?_
  refine TieO.run 2 rfl ?_
  refine TieO.nil ?_
  refine TieS.cond rfl ?_ ?_
  · refine TieS.region ?_
    refine TieO.run 2 rfl ?_
    refine TieO.capNil rfl rfl rfl rfl rfl rfl ?_
    refine TieO.sliceNil rfl rfl rfl rfl rfl rfl rfl rfl ?_
    refine TieO.run 1 rfl ?_
    refine TieO.appendN (enc := Pv.encI) 2176 0 rfl rfl rfl rfl rfl rfl rfl rfl rfl rfl rfl rfl rfl rfl rfl fun l hl => ?_
    refine TieO.run 2 rfl ?_
    refine TieO.sliceO (id' := 2200) (tm' := [(0, .t (.v (.slice none 0 0))), (1, .t (tI (w64 (n2 - (w64 (0 - 0)))))), (8, .t (tI n2)), (9, .t (.v (.slice none 0 0))), (10, .t (tI 0)), (11, .t (.v (.slice none 0 0))), (12, .t (tI 0)), (13, .t (tI (w64 (0 - 0)))), (14, .t (tI (w64 (n2 - (w64 (0 - 0)))))), (15, .t (tI (w64 (n2 - (w64 (0 - 0)))))), (16, .t (tB (decide ((w64 (n2 - (w64 (0 - 0)))) > 0)))), (17, .t (.v (.slice none 0 0))), (18, .t (.v (.slice none 0 0))), (19, .t (tI 0)), (20, .t (.v (.slice none 0 0))), (21, .t (tI (w64 (n2 - (w64 (0 - 0)))))), (23, .t (.v (.slice none 0 0))), (24, .t (tI 0))]) (hp' := []) rfl rfl rfl rfl rfl rfl rfl rfl rfl (.of rfl rfl) rfl rfl rfl rfl fun l2 hl2 => ?_
    refine TieO.run 1 rfl ?_
    refine TieO.nil ?_
    refine TieS.seq ?_
    refine TieS.region ?_
    refine TieO.run 2 rfl ?_
    refine TieO.nil ?_
    exact TieS.ret ⟨.inl rfl, ⟨[(2200, 900000)], _, _, rfl, rfl, rfl, rfl, rfl⟩⟩
  · refine TieS.skip ?_
    refine TieS.seq ?_
    refine TieS.region ?_
    refine TieO.run 2 rfl ?_
    refine TieO.nil ?_
    refine TieX.nilP 4 70000 3 1 [] rfl rfl rfl rfl rfl ?_
    exact TieS.ret ⟨.inl rfl, ⟨[(70000, 900000)], _, _, rfl, rfl, rfl, rfl, rfl⟩⟩
-- slices.Concat[[]int,int]
set_option maxRecDepth 100000 in
theorem tie_slices_Concat_sint (slices : List (List Int)) : TieG Try.prog 35 [.t (tS (Pv.encS Pv.encI) slices)] [] (slices_Concat_sint slices) (fun _ => .own 900000) (fun r => [(900000, .rows 3 1 r.length (r.map Pv.encI))]) := by
  refine TieG.intro htab 36 [.tmp 2] Try.call35 Try.func35 rfl rfl rfl (Nat.le_of_ble_eq_true rfl) fun w0 L => ?_
  refine TieS.seq ?_
  refine TieS.region ?_
  refine TieO.run 1 rfl ?_
  refine TieO.nil ?_
  refine TieS.seq ?_
  refine TieS.region ?_
  refine TieO.run 1 rfl ?_
  refine TieO.nil ?_
  refine TieS.seq ?_
  refine TieS.seq ?_
  refine TieS.region ?_
  refine TieO.run 3 rfl ?_
  refine TieO.nil ?_
  refine TieS.block ?_
  refine TieS.loop (fun p => ⟨[(0, .t (tS (Pv.encS Pv.encI) slices)), (3, .t (tI p.2)), (9, .t (tS (Pv.encS Pv.encI) slices)), (10, .t (tI (slices.length : Int))), (11, .t (tI p.1))], []⟩) (fun b e σ' => match b with | .inl t => e = .exit 0 ∧ Sub ⟨[(0, .t (tS (Pv.encS Pv.encI) slices)), (3, .t (tI t))], []⟩ σ' | .inr t => False) (.of rfl rfl) ?_ ?_
  · rintro ⟨i, size⟩
    refine TieS.seq ?_
    refine TieS.region ?_
    refine TieO.run 1 rfl ?_
    refine TieO.nil ?_
    refine TieS.seq ?_
    refine TieS.cond rfl ?_ ?_
    · refine TieS.skip ?_
      refine TieS.seq ?_
      refine TieX.pre fun x hx => ?_
      refine TieX.sub (σ' := ⟨[(0, .t (tS (Pv.encS Pv.encI) slices)), (3, .t (tI size)), (9, .t (tS (Pv.encS Pv.encI) slices)), (10, .t (tI (slices.length : Int))), (11, .t (tI i))], []⟩) (.of rfl rfl) ?_
      refine TieS.bind (Q₁ := fun f e σ' => match f with | .next t => e = .normal ∧ Sub ⟨[(0, .t (tS (Pv.encS Pv.encI) slices)), (3, .t (tI t)), (9, .t (tS (Pv.encS Pv.encI) slices)), (10, .t (tI (slices.length : Int))), (11, .t (tI i))], []⟩ σ' | .brk t => e = .exit 0 ∧ Sub ⟨[(0, .t (tS (Pv.encS Pv.encI) slices)), (3, .t (tI t))], []⟩ σ' | .ret r => False) ?_ ?_
      · refine TieS.block ?_
        refine TieS.seq ?_
        refine TieS.region ?_
        refine TieO.indexH hx rfl rfl rfl rfl rfl rfl rfl rfl (fun _ => rfl) ?_
        refine TieO.run 2 rfl ?_
        refine TieO.nil ?_
        refine TieS.seq ?_
        refine TieS.region ?_
        refine TieO.run 5 rfl ?_
        refine TieO.nil ?_
        refine TieS.seq ?_
        refine TieS.region ?_
        refine TieO.run 2 rfl ?_
        refine TieO.nil ?_
        refine TieS.cond rfl ?_ ?_
        · refine TieS.region ?_
          exact TieO.fail
        · refine TieS.skip ?_
          refine TieS.endb ?_
          exact TieS.leaf ⟨rfl, .of rfl rfl⟩
      rintro (t | t | r) e σ' _ hq
      · obtain ⟨rfl, hs⟩ := hq
        refine TieX.sub hs ?_
        refine TieS.region ?_
        refine TieO.run 2 rfl ?_
        refine TieO.nil ?_
        exact TieS.leaf ⟨rfl, .of rfl rfl⟩
      · obtain ⟨rfl, hs⟩ := hq
        exact TieX.exitOut rfl ⟨(fun h => by cases h), rfl, hs⟩
      · exact hq.elim
    · exact TieS.exitOut rfl ⟨(fun h => by cases h), rfl, .of rfl rfl⟩
  rintro (size2 | r) e σ' _ hq
  · obtain ⟨rfl, hs⟩ := hq
    refine TieX.exit rfl (TieX.sub hs ?_)
    refine TieS.seq ?_
    refine TieS.region ?_
    refine TieO.run 1 rfl ?_
    refine TieO.callG [] [(900000, 2192)] (fun v => ⟨[(0, .t (tS (Pv.encS Pv.encI) slices)), (3, .t (tI size2)), (23, .t (tI size2)), (24, .own 2192)], [(2192, .rows 3 1 v.length (v.map Pv.encI))]⟩) (tie_slices_Grow_sint size2) rfl rfl rfl rfl rfl rfl rfl (fun _ => rfl) (fun _ => rfl) (fun _ => rfl) (fun _ => .of rfl rfl) fun v hv => ?_
    refine TieO.run 1 rfl ?_
    refine TieO.nil ?_
    refine TieS.seq ?_
    refine TieS.seq ?_
    refine TieS.region ?_
    refine TieO.run 3 rfl ?_
    refine TieO.nil ?_
    refine TieS.block ?_
    refine TieS.loop (fun p => ⟨[(6, .own 2192), (25, .t (tS (Pv.encS Pv.encI) slices)), (26, .t (tI (slices.length : Int))), (27, .t (tI p.1))], [(2192, .rows 3 1 p.2.length (p.2.map Pv.encI))]⟩) (fun b e σ' => match b with | .inl t => e = .exit 2 ∧ Sub ⟨[(6, .own 2192)], [(2192, .rows 3 1 t.length (t.map Pv.encI))]⟩ σ' | .inr t => False) (.of rfl rfl) ?_ ?_
    · rintro ⟨i2, f2⟩
      refine TieS.seq ?_
      refine TieS.region ?_
      refine TieO.run 1 rfl ?_
      refine TieO.nil ?_
      refine TieS.seq ?_
      refine TieS.cond rfl ?_ ?_
      · refine TieS.skip ?_
        refine TieS.seq ?_
        refine TieX.pre fun x2 hx2 => ?_
        refine TieX.sub (σ' := ⟨[(6, .own 2192), (25, .t (tS (Pv.encS Pv.encI) slices)), (26, .t (tI (slices.length : Int))), (27, .t (tI i2))], [(2192, .rows 3 1 f2.length (f2.map Pv.encI))]⟩) (.of rfl rfl) ?_
        refine TieS.bind (Q₁ := fun f e σ' => match f with | .next t => e = .normal ∧ Sub ⟨[(6, .own 2192), (25, .t (tS (Pv.encS Pv.encI) slices)), (26, .t (tI (slices.length : Int))), (27, .t (tI i2))], [(2192, .rows 3 1 t.length (t.map Pv.encI))]⟩ σ' | .brk t => e = .exit 2 ∧ Sub ⟨[(6, .own 2192)], [(2192, .rows 3 1 t.length (t.map Pv.encI))]⟩ σ' | .ret r => False) ?_ ?_
        · refine TieS.block ?_
          refine TieS.seq ?_
          refine TieS.region ?_
          refine TieO.indexH hx2 rfl rfl rfl rfl rfl rfl rfl rfl (fun _ => rfl) ?_
          refine TieO.run 2 rfl ?_
          refine TieO.nil ?_
          refine TieS.region ?_
          refine TieO.run 2 rfl ?_
          refine TieO.appendY (id := 2192) (e' := 0) (l := f2) (r := x2) (tm' := [(8, .t (tS Pv.encI x2)), (25, .t (tS (Pv.encS Pv.encI) slices)), (26, .t (tI (slices.length : Int))), (27, .t (tI i2)), (29, .el ((Pv.encS Pv.encI) x2)), (30, .t (tS Pv.encI x2)), (32, .t (tS Pv.encI x2))]) (hp' := []) rfl rfl rfl rfl rfl rfl rfl (fun _ => rfl) (fun _ => rfl) (.inl ⟨rfl, rfl⟩) (.inl rfl) (.of rfl rfl) rfl rfl rfl fun l => ?_
          refine TieO.run 1 rfl ?_
          refine TieO.nil ?_
          refine TieS.endb ?_
          exact TieS.leaf ⟨rfl, .of rfl rfl⟩
        rintro (t | t | r) e σ' _ hq
        · obtain ⟨rfl, hs⟩ := hq
          refine TieX.sub hs ?_
          refine TieS.region ?_
          refine TieO.run 2 rfl ?_
          refine TieO.nil ?_
          exact TieS.leaf ⟨rfl, .of rfl rfl⟩
        · obtain ⟨rfl, hs⟩ := hq
          exact TieX.exitOut rfl ⟨(fun h => by cases h), rfl, hs⟩
        · exact hq.elim
      · exact TieS.exitOut rfl ⟨(fun h => by cases h), rfl, .of rfl rfl⟩
    rintro (f3 | r) e σ' _ hq
    · obtain ⟨rfl, hs⟩ := hq
      refine TieX.exit rfl (TieX.sub hs ?_)
      refine TieS.seq ?_
      refine TieS.region ?_
      refine TieO.run 2 rfl ?_
      refine TieO.nil ?_
      exact TieS.ret ⟨.inl rfl, ⟨[(2192, 900000)], _, _, rfl, rfl, rfl, rfl, rfl⟩⟩
    · exact hq.elim
  · exact hq.elim
-- slices.Sort[[]int,int]
set_option maxRecDepth 100000 in
def sortI36_ren : Go.Shelf.Ren := ⟨fun | 125 => 63 | 128 => 81 | 129 => 82 | 189 => 36 | 215 => 71 | 216 => 78 | 257 => 62 | 294 => 72 | 295 => 73 | 296 => 74 | 297 => 75 | 298 => 76 | 299 => 77 | 300 => 79 | 301 => 80 | 328 => 93 | 329 => 94 | 330 => 95 | 331 => 96 | 332 => 97 | 343 => 102 | n => n, fun | 0 => 0 | 3 => 3 | 4 => 4 | 5 => 5 | 9 => 9 | 28 => 22 | 46 => 82 | 51 => 99 | 53 => 101 | 131 => 52 | 182 => 91 | 183 => 92 | 218 => 109 | 222 => 113 | 228 => 117 | 229 => 118 | n => n, fun  | n => n⟩
open Go.Shelf in
theorem sortI36 : Lays.n189 Try.prog sortI36_ren := {
  mixed := by kernel_rfl,
  f125 := Try.func63.trans (congrArg some (by kernel_rfl)),
  f128 := Try.func81.trans (congrArg some (by kernel_rfl)),
  f129 := Try.func82.trans (congrArg some (by kernel_rfl)),
  f189 := Try.func36.trans (congrArg some (by kernel_rfl)),
  f215 := Try.func71.trans (congrArg some (by kernel_rfl)),
  f216 := Try.func78.trans (congrArg some (by kernel_rfl)),
  f257 := Try.func62.trans (congrArg some (by kernel_rfl)),
  f294 := Try.func72.trans (congrArg some (by kernel_rfl)),
  f295 := Try.func73.trans (congrArg some (by kernel_rfl)),
  f296 := Try.func74.trans (congrArg some (by kernel_rfl)),
  f297 := Try.func75.trans (congrArg some (by kernel_rfl)),
  f298 := Try.func76.trans (congrArg some (by kernel_rfl)),
  f299 := Try.func77.trans (congrArg some (by kernel_rfl)),
  f300 := Try.func79.trans (congrArg some (by kernel_rfl)),
  f301 := Try.func80.trans (congrArg some (by kernel_rfl)),
  f328 := Try.func93.trans (congrArg some (by kernel_rfl)),
  f329 := Try.func94.trans (congrArg some (by kernel_rfl)),
  f330 := Try.func95.trans (congrArg some (by kernel_rfl)),
  f331 := Try.func96.trans (congrArg some (by kernel_rfl)),
  f332 := Try.func97.trans (congrArg some (by kernel_rfl)),
  f343 := Try.func102.trans (congrArg some (by kernel_rfl)),
  t0 := Try.underlying0,
  a0 := Try.isAgg0,
  z0 := Try.sizeOf0,
  v0 := Try.zeroValue0,
  t3 := Try.underlying3,
  a3 := Try.isAgg3,
  z3 := Try.sizeOf3,
  v3 := Try.zeroValue3,
  t4 := Try.underlying4,
  a4 := Try.isAgg4,
  z4 := Try.sizeOf4,
  v4 := Try.zeroValue4,
  t5 := Try.underlying5,
  a5 := Try.isAgg5,
  z5 := Try.sizeOf5,
  v5 := Try.zeroValue5,
  t9 := Try.underlying9,
  a9 := Try.isAgg9,
  z9 := Try.sizeOf9,
  v9 := Try.zeroValue9,
  t28 := Try.underlying22,
  a28 := Try.isAgg22,
  z28 := Try.sizeOf22,
  v28 := Try.zeroValue22,
  t46 := Try.underlying82,
  a46 := Try.isAgg82,
  z46 := Try.sizeOf82,
  v46 := Try.zeroValue82,
  t51 := Try.underlying99,
  a51 := Try.isAgg99,
  z51 := Try.sizeOf99,
  v51 := Try.zeroValue99,
  t53 := Try.underlying101,
  a53 := Try.isAgg101,
  z53 := Try.sizeOf101,
  v53 := Try.zeroValue101,
  t131 := Try.underlying52,
  a131 := Try.isAgg52,
  z131 := Try.sizeOf52,
  v131 := Try.zeroValue52,
  t182 := Try.underlying91,
  a182 := Try.isAgg91,
  z182 := Try.sizeOf91,
  v182 := Try.zeroValue91,
  t183 := Try.underlying92,
  a183 := Try.isAgg92,
  z183 := Try.sizeOf92,
  v183 := Try.zeroValue92,
  t218 := Try.underlying109,
  a218 := Try.isAgg109,
  z218 := Try.sizeOf109,
  v218 := Try.zeroValue109,
  t222 := Try.underlying113,
  a222 := Try.isAgg113,
  z222 := Try.sizeOf113,
  v222 := Try.zeroValue113,
  t228 := Try.underlying117,
  a228 := Try.isAgg117,
  z228 := Try.sizeOf117,
  v228 := Try.zeroValue117,
  t229 := Try.underlying118,
  a229 := Try.isAgg118,
  z229 := Try.sizeOf118,
  v229 := Try.zeroValue118 }
theorem tie_slices_Sort_sint (s : List Int) : TieG Try.prog 36 [.own 1000000] [(1000000, .rows 3 1 s.length (s.map Pv.encI))] (slices_Sort_sint s) (fun _ => .tup []) (fun r => [(1000000, .rows 3 1 r.length (r.map Pv.encI))]) :=
  sortInts_tie (ρ := sortI36_ren) sortI36 Try.call36 s
-- magneto/magnetolaw23.EventsParts
set_option maxRecDepth 100000 in
theorem tie_magnetolaw23_EventsParts (l : List SEvent) (a : Int) (b2 : Int) (c : Int) : TieF Try.prog 10 [.t (tS enc_SEvent l), .t (tI a), .t (tI b2), .t (tI c)] (magnetolaw23_EventsParts l a b2 c) (fun r => .t (tB r)) := by
  refine TieF.intro htab 112 [.tmp 8] Try.call10 Try.func10 rfl rfl rfl (Nat.le_of_ble_eq_true rfl) fun w0 L => ?_
  refine TieS.seq ?_
  refine TieS.region ?_
  refine TieO.run 1 rfl ?_
  refine TieO.nil ?_
  refine TieS.seq ?_
  refine TieS.seq ?_
  refine TieS.region ?_
  refine TieO.call _ rfl rfl rfl (tie_magnetolaw23_awake) (fun _ => rfl) fun v => ?_
  refine TieO.run 1 rfl ?_
  refine TieO.nil ?_
  refine TieS.cond rfl ?_ ?_
  · refine TieS.seq ?_
    refine TieS.region ?_
    refine TieO.run 1 rfl ?_
    refine TieO.nil ?_
    exact TieS.ret ⟨.inl rfl, rfl⟩
  · refine TieS.skip ?_
    refine TieS.seq ?_
    refine TieS.seq ?_
    refine TieS.region ?_
    refine TieO.run 3 rfl ?_
    refine TieO.nil ?_
    refine TieS.cond rfl ?_ ?_
    · refine TieS.seq ?_
      refine TieS.region ?_
      refine TieO.run 1 rfl ?_
      refine TieO.nil ?_
      exact TieS.ret ⟨.inl rfl, rfl⟩
    · refine TieS.skip ?_
      refine TieS.seq ?_
      refine TieS.region ?_
      refine TieO.run 3 rfl ?_
      refine TieO.call _ rfl rfl rfl (tie_events_Due l a b2) (fun _ => rfl) fun r2 => ?_
      refine TieO.run 5 rfl ?_
      refine TieO.nil ?_
      refine TieS.seq ?_
      refine TieS.region ?_
      refine TieO.run 3 rfl ?_
      refine TieO.call _ rfl rfl rfl (tie_events_Due l b2 c) (fun _ => rfl) fun r3 => ?_
      refine TieO.run 5 rfl ?_
      refine TieO.nil ?_
      refine TieS.seq ?_
      refine TieS.seq ?_
      refine TieS.region ?_
      refine TieO.run 3 rfl ?_
      refine TieO.selOr (v := (r3.2 != 0)) 3 41 (fun b => ⟨[(0, .t (tS enc_SEvent l)), (1, .t (tI a)), (2, .t (tI b2)), (3, .t (tI c)), (9, .t (tS Pv.encI r2.1)), (11, .t (tS Pv.encI r3.1)), (44, .t (tB b))], []⟩) rfl ?_ ?_ ?_
      · refine TieO.run 3 rfl ?_
        refine TieO.nil ?_
        exact TieS.leaf ⟨rfl, .of rfl rfl⟩
      · refine TieO.run 3 rfl ?_
        refine TieO.nil ?_
        exact TieS.leaf ⟨rfl, .of rfl rfl⟩
      refine TieO.nil ?_
      refine TieS.cond rfl ?_ ?_
      · refine TieS.seq ?_
        refine TieS.region ?_
        refine TieO.run 1 rfl ?_
        refine TieO.nil ?_
        exact TieS.ret ⟨.inl rfl, rfl⟩
      · refine TieS.skip ?_
        refine TieS.seq ?_
        refine TieS.seq ?_
        refine TieS.region ?_
        refine TieO.run 3 rfl ?_
        refine TieO.call _ rfl rfl rfl (tie_events_Due l a c) (fun _ => rfl) fun r4 => ?_
        refine TieO.run 5 rfl ?_
        refine TieO.nil ?_
        refine TieS.seq ?_
        refine TieS.region ?_
        refine TieO.run 2 rfl ?_
        refine TieO.call _ rfl rfl rfl (tie_events_Distance a b2) (fun _ => rfl) fun v2 => ?_
        refine TieO.run 2 rfl ?_
        refine TieO.call _ rfl rfl rfl (tie_events_Distance b2 c) (fun _ => rfl) fun v3 => ?_
        refine TieO.run 3 rfl ?_
        refine TieO.bind 12 (fun b4 => ⟨[(0, .t (tS enc_SEvent l)), (1, .t (tI a)), (2, .t (tI b2)), (9, .t (tS Pv.encI r2.1)), (72, .t (tB b4))], []⟩) (TieO.split 60 rfl ?_ ?_) fun b4 _ => ?_
        · refine TieO.run 3 rfl ?_
          refine TieO.bind 8 (fun b3 => ⟨[(0, .t (tS enc_SEvent l)), (1, .t (tI a)), (2, .t (tI b2)), (9, .t (tS Pv.encI r2.1)), (60, .t (tB true)), (71, .t (tB b3))], []⟩) (TieO.split 63 rfl ?_ ?_) fun b3 _ => ?_
          · refine TieO.run 8 rfl ?_
            refine TieO.nil ?_
            exact TieS.leaf ⟨rfl, .of rfl rfl⟩
          · refine TieO.run 4 rfl ?_
            refine TieO.frz 67 rfl ?_
            refine TieO.call _ rfl rfl rfl (TieG.toF (tie_slices_Concat_sint ([r2.1, r3.1] : List (List Int))) (fun _ => rfl)) (fun _ => rfl) fun v4 => ?_
            refine TieO.call _ rfl rfl rfl (tie_slices_Equal_sint r4.1 v4) (fun _ => rfl) fun v5 => ?_
            refine TieO.run 2 rfl ?_
            refine TieO.nil ?_
            exact TieS.leaf ⟨rfl, .of rfl rfl⟩
          refine TieO.run 1 rfl ?_
          refine TieO.nil ?_
          exact TieS.leaf ⟨rfl, .of rfl rfl⟩
        · refine TieO.run 12 rfl ?_
          refine TieO.nil ?_
          exact TieS.leaf ⟨rfl, .of rfl rfl⟩
        refine TieO.nil ?_
        refine TieS.cond rfl ?_ ?_
        · refine TieS.seq ?_
          refine TieS.region ?_
          refine TieO.run 1 rfl ?_
          refine TieO.nil ?_
          exact TieS.ret ⟨.inl rfl, rfl⟩
        · refine TieS.skip ?_
          refine TieS.seq ?_
          refine TieS.seq ?_
          refine TieS.region ?_
          refine TieO.run 3 rfl ?_
          refine TieO.nil ?_
          refine TieS.cond rfl ?_ ?_
          · refine TieS.seq ?_
            refine TieS.region ?_
            refine TieO.run 4 rfl ?_
            refine TieO.nil ?_
            exact TieS.ret ⟨.inl rfl, rfl⟩
          · refine TieS.skip ?_
            refine TieS.seq ?_
            refine TieS.region ?_
            refine TieO.run 3 rfl ?_
            refine TieO.call _ rfl rfl rfl (tie_events_Due l b2 a) (fun _ => rfl) fun r5 => ?_
            refine TieO.run 5 rfl ?_
            refine TieO.nil ?_
            refine TieS.seq ?_
            refine TieS.region ?_
            refine TieO.run 3 rfl ?_
            refine TieO.frz 88 rfl ?_
            refine TieO.callG [] [(900000, 2712)] (fun v6 => ⟨[(0, .t (tS enc_SEvent l)), (1, .t (tI a)), (2, .t (tI b2)), (9, .t (tS Pv.encI r2.1)), (15, .t (tS Pv.encI r5.1)), (16, .t (tI r5.2)), (72, .t (tB b4)), (73, .t (tI a)), (74, .t (tI b2)), (75, .t (tB (a == b2))), (79, .tup [.t (tS Pv.encI r5.1), .t (tI r5.2)]), (80, .t (tS enc_SEvent l)), (81, .t (tI b2)), (82, .t (tI a)), (83, .tup [.t (tS Pv.encI r5.1), .t (tI r5.2)]), (84, .t (tS Pv.encI r5.1)), (85, .t (tI r5.2)), (86, .t (tS Pv.encI r2.1)), (87, .t (tS Pv.encI r5.1)), (88, .t (tS (Pv.encS Pv.encI) ([r2.1, r5.1] : List (List Int)))), (89, .own 2712)], [(2712, .rows 3 1 v6.length (v6.map Pv.encI))]⟩) (tie_slices_Concat_sint ([r2.1, r5.1] : List (List Int))) rfl rfl rfl rfl rfl rfl rfl (fun _ => rfl) (fun _ => rfl) (fun _ => rfl) (fun _ => .of rfl rfl) fun v6 hv6 => ?_
            refine TieO.run 1 rfl ?_
            refine TieO.nil ?_
            refine TieS.seq ?_
            refine TieS.region ?_
            refine TieO.run 1 rfl ?_
            refine TieO.callG [(1000000, 2712)] [] (fun v7 => ⟨[(0, .t (tS enc_SEvent l)), (1, .t (tI a)), (2, .t (tI b2)), (9, .t (tS Pv.encI r2.1)), (15, .t (tS Pv.encI r5.1)), (16, .t (tI r5.2)), (17, .own 2712), (72, .t (tB b4)), (73, .t (tI a)), (74, .t (tI b2)), (75, .t (tB (a == b2))), (79, .tup [.t (tS Pv.encI r5.1), .t (tI r5.2)]), (80, .t (tS enc_SEvent l)), (81, .t (tI b2)), (82, .t (tI a)), (83, .tup [.t (tS Pv.encI r5.1), .t (tI r5.2)]), (84, .t (tS Pv.encI r5.1)), (85, .t (tI r5.2)), (86, .t (tS Pv.encI r2.1)), (87, .t (tS Pv.encI r5.1)), (88, .t (tS (Pv.encS Pv.encI) ([r2.1, r5.1] : List (List Int)))), (89, .own 2712), (90, .own 2712), (91, .tup [])], [(2712, .rows 3 1 v7.length (v7.map Pv.encI))]⟩) (tie_slices_Sort_sint v6) rfl rfl rfl rfl rfl rfl rfl (fun _ => rfl) (fun _ => rfl) (fun _ => rfl) (fun _ => .of rfl rfl) fun v7 hv7 => ?_
            refine TieO.nil ?_
            refine TieS.seq ?_
            refine TieS.seq ?_
            refine TieS.region ?_
            refine TieO.run 3 rfl ?_
            refine TieO.selOr (v := ((v7.length : Int) != (l.length : Int))) 6 94 (fun b => ⟨[(17, .own 2712), (100, .t (tB b))], [(2712, .rows 3 1 v7.length (v7.map Pv.encI))]⟩) rfl ?_ ?_ ?_
            · refine TieO.run 6 rfl ?_
              refine TieO.nil ?_
              exact TieS.leaf ⟨rfl, .of rfl rfl⟩
            · refine TieO.run 6 rfl ?_
              refine TieO.nil ?_
              exact TieS.leaf ⟨rfl, .of rfl rfl⟩
            refine TieO.nil ?_
            refine TieS.cond rfl ?_ ?_
            · refine TieS.seq ?_
              refine TieS.region ?_
              refine TieO.run 1 rfl ?_
              refine TieO.nil ?_
              exact TieS.ret ⟨.inl rfl, rfl⟩
            · refine TieS.skip ?_
              refine TieS.seq ?_
              refine TieS.seq ?_
              refine TieS.region ?_
              refine TieO.run 3 rfl ?_
              refine TieO.nil ?_
              refine TieS.block ?_
              refine TieS.loop (fun p => ⟨[(101, .own 2712), (102, .t (tI (v7.length : Int))), (103, .t (tI p.1))], [(2712, .rows 3 1 v7.length (v7.map Pv.encI))]⟩) (fun b e σ' => match b with | .inl t => e = .exit 0 ∧ Sub ⟨[], []⟩ σ' | .inr t => e = .ret ∧ retT tab σ' [.tmp 8] = some (((fun r => .t (tB r)) : Bool → T) t)) (.of rfl rfl) ?_ ?_
              · rintro ⟨i, s⟩
                refine TieS.seq ?_
                refine TieS.region ?_
                refine TieO.run 1 rfl ?_
                refine TieO.nil ?_
                refine TieS.seq ?_
                refine TieS.cond rfl ?_ ?_
                · refine TieS.skip ?_
                  refine TieS.seq ?_
                  refine TieX.sub (σ' := ⟨[(101, .own 2712), (102, .t (tI (v7.length : Int))), (103, .t (tI i))], [(2712, .rows 3 1 v7.length (v7.map Pv.encI))]⟩) (.of rfl rfl) ?_
                  refine TieS.bind (Q₁ := fun f e σ' => match f with | .next t => e = .normal ∧ Sub ⟨[(101, .own 2712), (102, .t (tI (v7.length : Int))), (103, .t (tI i))], [(2712, .rows 3 1 v7.length (v7.map Pv.encI))]⟩ σ' | .brk t => e = .exit 0 ∧ Sub ⟨[], []⟩ σ' | .ret t => e = .ret ∧ retT tab σ' [.tmp 8] = some (((fun r => .t (tB r)) : Bool → T) t)) ?_ ?_
                  · refine TieS.block ?_
                    refine TieS.seq ?_
                    refine TieS.region ?_
                    refine TieO.run 1 rfl ?_
                    refine TieO.indexO rfl rfl rfl rfl rfl rfl rfl rfl rfl rfl fun x hx => ?_
                    refine TieO.loadY hx rfl rfl rfl rfl rfl rfl rfl rfl ?_
                    refine TieO.run 2 rfl ?_
                    refine TieO.nil ?_
                    refine TieS.seq ?_
                    refine TieS.region ?_
                    refine TieO.run 3 rfl ?_
                    refine TieO.nil ?_
                    refine TieS.cond rfl ?_ ?_
                    · refine TieS.seq ?_
                      refine TieS.region ?_
                      refine TieO.run 1 rfl ?_
                      refine TieO.nil ?_
                      exact TieS.ret ⟨rfl, rfl⟩
                    · refine TieS.skip ?_
                      refine TieS.endb ?_
                      exact TieS.leaf ⟨rfl, .of rfl rfl⟩
                  rintro (t | t | t) e σ' _ hq
                  · obtain ⟨rfl, hs⟩ := hq
                    refine TieX.sub hs ?_
                    refine TieS.region ?_
                    refine TieO.run 2 rfl ?_
                    refine TieO.nil ?_
                    exact TieS.leaf ⟨rfl, .of rfl rfl⟩
                  · obtain ⟨rfl, hs⟩ := hq
                    exact TieX.exitOut rfl ⟨(fun h => by cases h), rfl, hs⟩
                  · obtain ⟨rfl, hs⟩ := hq
                    exact TieX.ret ⟨(fun h => by cases h), rfl, hs⟩
                · exact TieS.exitOut rfl ⟨(fun h => by cases h), rfl, .of rfl rfl⟩
              rintro (s2 | r6) e σ' _ hq
              · obtain ⟨rfl, hs⟩ := hq
                refine TieX.exit rfl (TieX.sub hs ?_)
                refine TieS.seq ?_
                refine TieS.region ?_
                refine TieO.run 1 rfl ?_
                refine TieO.nil ?_
                exact TieS.ret ⟨.inl rfl, rfl⟩
              · obtain ⟨rfl, hs⟩ := hq
                exact TieX.ret ⟨.inl rfl, hs⟩
end Go.Proofs.Ytmocoljbdiphoaa

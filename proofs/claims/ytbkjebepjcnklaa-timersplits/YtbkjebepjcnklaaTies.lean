/- Ties, printed by gen.py: each function of the loaded program computes its model. -/
import Derived.Test.YtbkjebepjcnklaaTiesA
import Derived.Test.YtbkjebepjcnklaaPvXl
import Derived.Test.YtbkjebepjcnklaaProg
import Derived.KernelRfl
namespace Go.Proofs.Ytbkjebepjcnklaa
open Go Go.Pv Go.Proofs
-- magneto/magnetolaw24.TimerLevels
set_option maxRecDepth 100000 in
set_option maxHeartbeats 4000000 in
theorem tie_magnetolaw24_TimerLevels (t2 : STimer) (v_to : Int) : TieF Try.prog 3 [A_STimer t2, .t (tI v_to)] (magnetolaw24_TimerLevels t2 v_to) (fun r => .t (tB r)) := by
  refine TieF.intro htab 221 [.tmp 4] Try.call3 Try.func3 rfl rfl rfl (Nat.le_of_ble_eq_true rfl) fun w0 L => ?_
  refine TieS.seq ?_
  refine TieS.region ?_
  refine TieO.run 2 rfl ?_
  refine TieO.nil ?_
  refine TieS.seq ?_
  refine TieS.seq ?_
  refine TieS.region ?_
  refine TieO.call _ rfl rfl rfl (tie_magnetolaw24_awake) (fun _ => rfl) fun v => ?_
  refine TieO.run 2 rfl ?_
  refine TieO.selOr (v := decide ((t2.Channels.length : Int) > 100)) 5 18 (fun b => ⟨[(1, .t (tI v_to)), (2, .ptr 2 0), (23, .t (tB b))], [(2, .box [.t (tI t2.Now), .t (tS enc_SChannel t2.Channels)])]⟩) rfl ?_ ?_ ?_
  · refine TieO.run 5 rfl ?_
    refine TieO.nil ?_
    exact TieS.leaf ⟨rfl, .of rfl rfl⟩
  · refine TieO.run 5 rfl ?_
    refine TieO.nil ?_
    exact TieS.leaf ⟨rfl, .of rfl rfl⟩
  refine TieO.nil ?_
  refine TieS.cond rfl ?_ ?_
  · refine TieS.seq ?_
    refine TieS.region ?_
    refine TieO.call _ rfl rfl rfl (tie_magnetolaw24_awake) (fun _ => rfl) fun v2 => ?_
    refine TieO.run 1 rfl ?_
    refine TieO.nil ?_
    exact TieS.ret ⟨.inl rfl, rfl⟩
  · refine TieS.skip ?_
    refine TieS.seq ?_
    refine TieS.region ?_
    refine TieO.run 2 rfl ?_
    refine TieO.call _ rfl rfl rfl (tie_timer_Advance t2 v_to) (fun _ => rfl) fun r2 => ?_
    refine TieO.run 8 rfl ?_
    refine TieO.nil ?_
    refine TieS.seq ?_
    refine TieS.seq ?_
    refine TieS.region ?_
    refine TieO.run 2 rfl ?_
    refine TieO.nil ?_
    refine TieS.cond rfl ?_ ?_
    · refine TieS.seq ?_
      refine TieS.region ?_
      refine TieO.run 1 rfl ?_
      refine TieO.call _ rfl rfl rfl (tie_magnetolaw24_none r2.1) (fun _ => rfl) fun v3 => ?_
      refine TieO.run 1 rfl ?_
      refine TieO.selAnd (v := ((r2.2.1.length : Int) == 0)) 4 36 (fun b => ⟨[(40, .t (tB b))], []⟩) rfl ?_ ?_ ?_
      · refine TieO.run 4 rfl ?_
        refine TieO.nil ?_
        exact TieS.leaf ⟨rfl, .of rfl rfl⟩
      · refine TieO.run 4 rfl ?_
        refine TieO.nil ?_
        exact TieS.leaf ⟨rfl, .of rfl rfl⟩
      refine TieO.run 1 rfl ?_
      refine TieO.nil ?_
      exact TieS.ret ⟨.inl rfl, rfl⟩
    · refine TieS.skip ?_
      refine TieS.seq ?_
      refine TieS.seq ?_
      refine TieS.region ?_
      refine TieO.run 8 rfl ?_
      refine TieO.selOr (v := (r2.1.Now != v_to)) 5 48 (fun b => ⟨[(1, .t (tI v_to)), (2, .ptr 2 0), (5, .ptr 5 0), (6, .t (tS enc_SSwitch r2.2.1)), (53, .t (tB b))], [(2, .box [.t (tI t2.Now), .t (tS enc_SChannel t2.Channels)]), (5, .box [.t (tI r2.1.Now), .t (tS enc_SChannel r2.1.Channels)])]⟩) rfl ?_ ?_ ?_
      · refine TieO.run 5 rfl ?_
        refine TieO.nil ?_
        exact TieS.leaf ⟨rfl, .of rfl rfl⟩
      · refine TieO.run 5 rfl ?_
        refine TieO.nil ?_
        exact TieS.leaf ⟨rfl, .of rfl rfl⟩
      refine TieO.run 1 rfl ?_
      refine TieO.bind 4 (fun b2 => ⟨[(1, .t (tI v_to)), (2, .ptr 2 0), (5, .ptr 5 0), (6, .t (tS enc_SSwitch r2.2.1)), (58, .t (tB b2))], [(2, .box [.t (tI t2.Now), .t (tS enc_SChannel t2.Channels)]), (5, .box [.t (tI r2.1.Now), .t (tS enc_SChannel r2.1.Channels)])]⟩) (TieO.split 54 rfl ?_ ?_) fun b2 _ => ?_
      · refine TieO.run 4 rfl ?_
        refine TieO.nil ?_
        exact TieS.leaf ⟨rfl, .of rfl rfl⟩
      · refine TieO.run 1 rfl ?_
        refine TieO.call _ rfl rfl rfl (tie_timer_Valid r2.1) (fun _ => rfl) fun v4 => ?_
        refine TieO.run 2 rfl ?_
        refine TieO.nil ?_
        exact TieS.leaf ⟨rfl, .of rfl rfl⟩
      refine TieO.nil ?_
      refine TieS.cond rfl ?_ ?_
      · refine TieS.seq ?_
        refine TieS.region ?_
        refine TieO.run 1 rfl ?_
        refine TieO.nil ?_
        exact TieS.ret ⟨.inl rfl, rfl⟩
      · refine TieS.skip ?_
        refine TieS.seq ?_
        refine TieS.region ?_
        refine TieO.run 3 rfl ?_
        refine TieO.makeO (enc := Pv.encB) 2496 false rfl rfl rfl rfl rfl rfl rfl rfl rfl rfl rfl rfl rfl fun l hl => ?_
        refine TieO.run 1 rfl ?_
        refine TieO.nil ?_
        refine TieS.seq ?_
        refine TieS.seq ?_
        refine TieS.region ?_
        refine TieO.run 4 rfl ?_
        refine TieO.nil ?_
        refine TieS.block ?_
        refine TieS.loop (fun p => ⟨[(1, .t (tI v_to)), (2, .ptr 2 0), (5, .ptr 5 0), (6, .t (tS enc_SSwitch r2.2.1)), (8, .own 2496), (64, .t (tS enc_SChannel t2.Channels)), (65, .t (tI (t2.Channels.length : Int))), (66, .t (tI p.1))], [(2, .box [.t (tI t2.Now), .t (tS enc_SChannel t2.Channels)]), (5, .box [.t (tI r2.1.Now), .t (tS enc_SChannel r2.1.Channels)]), (2496, .rows 4 1 p.2.length (p.2.map Pv.encB))]⟩) (fun b e σ' => match b with | .inl t => e = .exit 0 ∧ Sub ⟨[(1, .t (tI v_to)), (2, .ptr 2 0), (5, .ptr 5 0), (6, .t (tS enc_SSwitch r2.2.1)), (8, .own 2496)], [(2, .box [.t (tI t2.Now), .t (tS enc_SChannel t2.Channels)]), (5, .box [.t (tI r2.1.Now), .t (tS enc_SChannel r2.1.Channels)]), (2496, .rows 4 1 t.length (t.map Pv.encB))]⟩ σ' | .inr t => False) (.of rfl rfl) ?_ ?_
        · rintro ⟨i, f2⟩
          refine TieS.seq ?_
          refine TieS.region ?_
          refine TieO.run 1 rfl ?_
          refine TieO.nil ?_
          refine TieS.seq ?_
          refine TieS.cond rfl ?_ ?_
          · refine TieS.skip ?_
            refine TieS.seq ?_
            refine TieX.sub (σ' := ⟨[(1, .t (tI v_to)), (2, .ptr 2 0), (5, .ptr 5 0), (6, .t (tS enc_SSwitch r2.2.1)), (8, .own 2496), (64, .t (tS enc_SChannel t2.Channels)), (65, .t (tI (t2.Channels.length : Int))), (66, .t (tI i))], [(2, .box [.t (tI t2.Now), .t (tS enc_SChannel t2.Channels)]), (5, .box [.t (tI r2.1.Now), .t (tS enc_SChannel r2.1.Channels)]), (2496, .rows 4 1 f2.length (f2.map Pv.encB))]⟩) (.of rfl rfl) ?_
            refine TieS.bind (Q₁ := fun f e σ' => match f with | .next t => e = .normal ∧ Sub ⟨[(1, .t (tI v_to)), (2, .ptr 2 0), (5, .ptr 5 0), (6, .t (tS enc_SSwitch r2.2.1)), (8, .own 2496), (64, .t (tS enc_SChannel t2.Channels)), (65, .t (tI (t2.Channels.length : Int))), (66, .t (tI i))], [(2, .box [.t (tI t2.Now), .t (tS enc_SChannel t2.Channels)]), (5, .box [.t (tI r2.1.Now), .t (tS enc_SChannel r2.1.Channels)]), (2496, .rows 4 1 t.length (t.map Pv.encB))]⟩ σ' | .brk t => e = .exit 0 ∧ Sub ⟨[(1, .t (tI v_to)), (2, .ptr 2 0), (5, .ptr 5 0), (6, .t (tS enc_SSwitch r2.2.1)), (8, .own 2496)], [(2, .box [.t (tI t2.Now), .t (tS enc_SChannel t2.Channels)]), (5, .box [.t (tI r2.1.Now), .t (tS enc_SChannel r2.1.Channels)]), (2496, .rows 4 1 t.length (t.map Pv.encB))]⟩ σ' | .ret r => False) ?_ ?_
            · refine TieS.block ?_
              refine TieS.seq ?_
              refine TieS.region ?_
              refine TieO.run 1 rfl ?_
              refine TieO.index rfl rfl rfl rfl rfl rfl rfl rfl (fun _ => rfl) fun x hx => ?_
              refine TieO.run 4 rfl ?_
              refine TieO.nil ?_
              refine TieS.region ?_
              refine TieO.run 4 rfl ?_
              refine TieO.indexO rfl rfl rfl rfl rfl rfl rfl rfl rfl rfl fun x2 hx2 => ?_
              refine TieO.storeY x.Level [tB x.Level] hx2 rfl rfl rfl rfl rfl rfl rfl rfl rfl rfl rfl rfl fun l2 hl2 => ?_
              refine TieO.nil ?_
              refine TieS.endb ?_
              exact TieS.leaf ⟨rfl, .of rfl rfl⟩
            rintro (t | t | r) e σ' _ hq
            · obtain ⟨rfl, hs⟩ := hq
              refine TieX.sub hs ?_
              refine TieS.region ?_
              refine TieO.run 2 rfl ?_
              refine TieO.nil ?_
              exact TieS.leaf ⟨rfl, .of rfl rfl⟩
            · obtain ⟨rfl, hs⟩ := hq
              exact TieX.exitOut rfl ⟨(fun h => by cases h), rfl, hs⟩
            · exact hq.elim
          · exact TieS.exitOut rfl ⟨(fun h => by cases h), rfl, .of rfl rfl⟩
        rintro (f3 | r) e σ' _ hq
        · obtain ⟨rfl, hs⟩ := hq
          refine TieX.exit rfl (TieX.sub hs ?_)
          refine TieS.seq ?_
          refine TieS.seq ?_
          refine TieS.region ?_
          refine TieO.run 3 rfl ?_
          refine TieO.nil ?_
          refine TieS.block ?_
          refine TieS.loop (fun p => ⟨[(1, .t (tI v_to)), (2, .ptr 2 0), (5, .ptr 5 0), (6, .t (tS enc_SSwitch r2.2.1)), (8, .own 2496), (77, .t (tS enc_SSwitch r2.2.1)), (78, .t (tI (r2.2.1.length : Int))), (79, .t (tI p.1))], [(2, .box [.t (tI t2.Now), .t (tS enc_SChannel t2.Channels)]), (5, .box [.t (tI r2.1.Now), .t (tS enc_SChannel r2.1.Channels)]), (2496, .rows 4 1 p.2.length (p.2.map Pv.encB))]⟩) (fun b e σ' => match b with | .inl t => e = .exit 2 ∧ Sub ⟨[(1, .t (tI v_to)), (2, .ptr 2 0), (5, .ptr 5 0), (8, .own 2496)], [(2, .box [.t (tI t2.Now), .t (tS enc_SChannel t2.Channels)]), (5, .box [.t (tI r2.1.Now), .t (tS enc_SChannel r2.1.Channels)]), (2496, .rows 4 1 t.length (t.map Pv.encB))]⟩ σ' | .inr t => e = .ret ∧ retT tab σ' [.tmp 4] = some (((fun r => .t (tB r)) : Bool → T) t)) (.of rfl rfl) ?_ ?_
          · rintro ⟨i2, f4⟩
            refine TieS.seq ?_
            refine TieS.region ?_
            refine TieO.run 1 rfl ?_
            refine TieO.nil ?_
            refine TieS.seq ?_
            refine TieS.cond rfl ?_ ?_
            · refine TieS.skip ?_
              refine TieS.seq ?_
              refine TieX.sub (σ' := ⟨[(1, .t (tI v_to)), (2, .ptr 2 0), (5, .ptr 5 0), (6, .t (tS enc_SSwitch r2.2.1)), (8, .own 2496), (77, .t (tS enc_SSwitch r2.2.1)), (78, .t (tI (r2.2.1.length : Int))), (79, .t (tI i2))], [(2, .box [.t (tI t2.Now), .t (tS enc_SChannel t2.Channels)]), (5, .box [.t (tI r2.1.Now), .t (tS enc_SChannel r2.1.Channels)]), (2496, .rows 4 1 f4.length (f4.map Pv.encB))]⟩) (.of rfl rfl) ?_
              refine TieS.bind (Q₁ := fun f e σ' => match f with | .next t => e = .normal ∧ Sub ⟨[(1, .t (tI v_to)), (2, .ptr 2 0), (5, .ptr 5 0), (6, .t (tS enc_SSwitch r2.2.1)), (8, .own 2496), (77, .t (tS enc_SSwitch r2.2.1)), (78, .t (tI (r2.2.1.length : Int))), (79, .t (tI i2))], [(2, .box [.t (tI t2.Now), .t (tS enc_SChannel t2.Channels)]), (5, .box [.t (tI r2.1.Now), .t (tS enc_SChannel r2.1.Channels)]), (2496, .rows 4 1 t.length (t.map Pv.encB))]⟩ σ' | .brk t => e = .exit 2 ∧ Sub ⟨[(1, .t (tI v_to)), (2, .ptr 2 0), (5, .ptr 5 0), (8, .own 2496)], [(2, .box [.t (tI t2.Now), .t (tS enc_SChannel t2.Channels)]), (5, .box [.t (tI r2.1.Now), .t (tS enc_SChannel r2.1.Channels)]), (2496, .rows 4 1 t.length (t.map Pv.encB))]⟩ σ' | .ret t => e = .ret ∧ retT tab σ' [.tmp 4] = some (((fun r => .t (tB r)) : Bool → T) t)) ?_ ?_
              · refine TieS.block ?_
                refine TieS.seq ?_
                refine TieS.region ?_
                refine TieO.run 1 rfl ?_
                refine TieO.index rfl rfl rfl rfl rfl rfl rfl rfl (fun _ => rfl) fun x3 hx3 => ?_
                refine TieO.run 4 rfl ?_
                refine TieO.nil ?_
                refine TieS.seq ?_
                refine TieS.seq ?_
                refine TieS.bind (Q₁ := fun t e σ' => e = .normal ∧ Sub ⟨[(1, .t (tI v_to)), (2, .ptr 2 0), (5, .ptr 5 0), (6, .t (tS enc_SSwitch r2.2.1)), (8, .own 2496), (12, .ptr 12 0), (77, .t (tS enc_SSwitch r2.2.1)), (78, .t (tI (r2.2.1.length : Int))), (79, .t (tI i2)), (153, .t (tB t))], [(2, .box [.t (tI t2.Now), .t (tS enc_SChannel t2.Channels)]), (5, .box [.t (tI r2.1.Now), .t (tS enc_SChannel r2.1.Channels)]), (12, .box [.t (tI x3.At), .t (tI x3.Channel), .t (tB x3.Level)]), (2496, .rows 4 1 f4.length (f4.map Pv.encB))]⟩ σ') ?_ ?_
                · refine TieX.split (fun hg => ?_) (fun hg2 => ?_)
                  · refine TieS.draw 70 [.ptr 12 1, .t (tI x3.Channel), .t (tB (decide (x3.Channel < 0))), .t (tB true), .t (.v undef), .t (.v undef), .t (.v undef), .t (.v undef), .t (.v undef), .t (tB true), .t (tB true), .t (.v undef), .t (.v undef), .t (.v undef), .t (.v undef), .t (.v undef), .t (tB true), .t (tB true), .t (.v undef), .t (.v undef), .t (.v undef), .t (.v undef), .t (tB true), .t (tB true), .t (.v undef), .t (.v undef), .t (.v undef), .t (.v undef), .t (.v undef), .t (.v undef), .t (.v undef), .t (.v undef), .t (tB true), .t (tB true), .t (.v undef), .t (.v undef), .t (.v undef), .t (.v undef), .t (.v undef), .t (.v undef), .t (.v undef), .t (.v undef), .t (.v undef), .t (.v undef), .t (.v undef), .t (.v undef), .t (.v undef), .t (.v undef), .t (.v undef), .t (.v undef), .t (.v undef), .t (.v undef), .t (.v undef), .t (.v undef), .t (.v undef), .t (.v undef), .t (.v undef), .t (.v undef), .t (.v undef), .t (.v undef), .t (.v undef), .t (.v undef), .t (.v undef), .t (.v undef), .t (.v undef), .t (.v undef), .t (.v undef), .t (.v undef), .t (.v undef), .t (tB true)] [(1, .t (tI v_to)), (2, .ptr 2 0), (5, .ptr 5 0), (6, .t (tS enc_SSwitch r2.2.1)), (8, .own 2496), (11, .t (tI i2)), (12, .ptr 12 0), (77, .t (tS enc_SSwitch r2.2.1)), (78, .t (tI (r2.2.1.length : Int))), (79, .t (tI i2))] [(2, .box [.t (tI t2.Now), .t (tS enc_SChannel t2.Channels)]), (5, .box [.t (tI r2.1.Now), .t (tS enc_SChannel r2.1.Channels)]), (12, .box [.t (tI x3.At), .t (tI x3.Channel), .t (tB x3.Level)]), (2496, .rows 4 1 f4.length (f4.map Pv.encB))] mixed (.of rfl rfl) rfl rfl rfl rfl (.cons (.quiet rfl rfl rfl) (.cons (.quiet rfl rfl rfl) (.cons (.quiet rfl rfl rfl) (.cons (.cast (congrArg T.B hg) (.quiet rfl rfl rfl)) (.cons (.skip rfl) (.cons (.skip rfl) (.cons (.skip rfl) (.cons (.skip rfl) (.cons (.skip rfl) (.cons (.quiet rfl rfl rfl) (.cons (.quiet rfl rfl rfl) (.cons (.skip rfl) (.cons (.skip rfl) (.cons (.skip rfl) (.cons (.skip rfl) (.cons (.skip rfl) (.cons (.quiet rfl rfl rfl) (.cons (.quiet rfl rfl rfl) (.cons (.skip rfl) (.cons (.skip rfl) (.cons (.skip rfl) (.cons (.skip rfl) (.cons (.quiet rfl rfl rfl) (.cons (.quiet rfl rfl rfl) (.cons (.skip rfl) (.cons (.skip rfl) (.cons (.skip rfl) (.cons (.skip rfl) (.cons (.skip rfl) (.cons (.skip rfl) (.cons (.skip rfl) (.cons (.skip rfl) (.cons (.quiet rfl rfl rfl) (.cons (.quiet rfl rfl rfl) (.cons (.skip rfl) (.cons (.skip rfl) (.cons (.skip rfl) (.cons (.skip rfl) (.cons (.skip rfl) (.cons (.skip rfl) (.cons (.skip rfl) (.cons (.skip rfl) (.cons (.skip rfl) (.cons (.skip rfl) (.cons (.skip rfl) (.cons (.skip rfl) (.cons (.skip rfl) (.cons (.skip rfl) (.cons (.skip rfl) (.cons (.skip rfl) (.cons (.skip rfl) (.cons (.skip rfl) (.cons (.skip rfl) (.cons (.skip rfl) (.cons (.skip rfl) (.cons (.skip rfl) (.cons (.skip rfl) (.cons (.skip rfl) (.cons (.skip rfl) (.cons (.skip rfl) (.cons (.skip rfl) (.cons (.skip rfl) (.cons (.skip rfl) (.cons (.skip rfl) (.cons (.skip rfl) (.cons (.skip rfl) (.cons (.skip rfl) (.cons (.skip rfl) (.cons (.skip rfl) (.cons (.quiet rfl rfl rfl) (.nil))))))))))))))))))))))))))))))))))))))))))))))))))))))))))))))))))))))) ?_
                    refine TieO.nil ?_
                    exact TieS.leaf ⟨rfl, .of rfl rfl⟩
                  · refine TieX.split (fun hg3 => ?_) (fun hg4 => ?_)
                    · refine TieS.draw 70 [.ptr 12 1, .t (tI x3.Channel), .t (tB (decide (x3.Channel < 0))), .t (tB false), .ptr 12 1, .t (tI x3.Channel), .own 2496, .t (tI (f4.length : Int)), .t (tB (decide (x3.Channel ≥ (f4.length : Int)))), .t (tB (decide (x3.Channel ≥ (f4.length : Int)))), .t (tB true), .t (.v undef), .t (.v undef), .t (.v undef), .t (.v undef), .t (.v undef), .t (tB true), .t (tB true), .t (.v undef), .t (.v undef), .t (.v undef), .t (.v undef), .t (tB true), .t (tB true), .t (.v undef), .t (.v undef), .t (.v undef), .t (.v undef), .t (.v undef), .t (.v undef), .t (.v undef), .t (.v undef), .t (tB true), .t (tB true), .t (.v undef), .t (.v undef), .t (.v undef), .t (.v undef), .t (.v undef), .t (.v undef), .t (.v undef), .t (.v undef), .t (.v undef), .t (.v undef), .t (.v undef), .t (.v undef), .t (.v undef), .t (.v undef), .t (.v undef), .t (.v undef), .t (.v undef), .t (.v undef), .t (.v undef), .t (.v undef), .t (.v undef), .t (.v undef), .t (.v undef), .t (.v undef), .t (.v undef), .t (.v undef), .t (.v undef), .t (.v undef), .t (.v undef), .t (.v undef), .t (.v undef), .t (.v undef), .t (.v undef), .t (.v undef), .t (.v undef), .t (tB true)] [(1, .t (tI v_to)), (2, .ptr 2 0), (5, .ptr 5 0), (6, .t (tS enc_SSwitch r2.2.1)), (8, .own 2496), (11, .t (tI i2)), (12, .ptr 12 0), (77, .t (tS enc_SSwitch r2.2.1)), (78, .t (tI (r2.2.1.length : Int))), (79, .t (tI i2))] [(2, .box [.t (tI t2.Now), .t (tS enc_SChannel t2.Channels)]), (5, .box [.t (tI r2.1.Now), .t (tS enc_SChannel r2.1.Channels)]), (12, .box [.t (tI x3.At), .t (tI x3.Channel), .t (tB x3.Level)]), (2496, .rows 4 1 f4.length (f4.map Pv.encB))] mixed (.of rfl rfl) rfl rfl rfl rfl (.cons (.quiet rfl rfl rfl) (.cons (.quiet rfl rfl rfl) (.cons (.quiet rfl rfl rfl) (.cons (.cast (congrArg T.B hg2) (.quiet rfl rfl rfl)) (.cons (.quiet rfl rfl rfl) (.cons (.quiet rfl rfl rfl) (.cons (.quiet rfl rfl rfl) (.cons (.quiet rfl rfl rfl) (.cons (.quiet rfl rfl rfl) (.cons (.quiet rfl rfl rfl) (.cons (.cast (congrArg T.B hg3) (.quiet rfl rfl rfl)) (.cons (.skip rfl) (.cons (.skip rfl) (.cons (.skip rfl) (.cons (.skip rfl) (.cons (.skip rfl) (.cons (.quiet rfl rfl rfl) (.cons (.quiet rfl rfl rfl) (.cons (.skip rfl) (.cons (.skip rfl) (.cons (.skip rfl) (.cons (.skip rfl) (.cons (.quiet rfl rfl rfl) (.cons (.quiet rfl rfl rfl) (.cons (.skip rfl) (.cons (.skip rfl) (.cons (.skip rfl) (.cons (.skip rfl) (.cons (.skip rfl) (.cons (.skip rfl) (.cons (.skip rfl) (.cons (.skip rfl) (.cons (.quiet rfl rfl rfl) (.cons (.quiet rfl rfl rfl) (.cons (.skip rfl) (.cons (.skip rfl) (.cons (.skip rfl) (.cons (.skip rfl) (.cons (.skip rfl) (.cons (.skip rfl) (.cons (.skip rfl) (.cons (.skip rfl) (.cons (.skip rfl) (.cons (.skip rfl) (.cons (.skip rfl) (.cons (.skip rfl) (.cons (.skip rfl) (.cons (.skip rfl) (.cons (.skip rfl) (.cons (.skip rfl) (.cons (.skip rfl) (.cons (.skip rfl) (.cons (.skip rfl) (.cons (.skip rfl) (.cons (.skip rfl) (.cons (.skip rfl) (.cons (.skip rfl) (.cons (.skip rfl) (.cons (.skip rfl) (.cons (.skip rfl) (.cons (.skip rfl) (.cons (.skip rfl) (.cons (.skip rfl) (.cons (.skip rfl) (.cons (.skip rfl) (.cons (.skip rfl) (.cons (.skip rfl) (.cons (.skip rfl) (.cons (.skip rfl) (.cons (.quiet rfl rfl rfl) (.nil))))))))))))))))))))))))))))))))))))))))))))))))))))))))))))))))))))))) ?_
                      refine TieO.nil ?_
                      exact TieS.leaf ⟨rfl, .of rfl rfl⟩
                    · refine TieX.split (fun hg5 => ?_) (fun hg6 => ?_)
                      · refine TieS.draw 70 [.ptr 12 1, .t (tI x3.Channel), .t (tB (decide (x3.Channel < 0))), .t (tB false), .ptr 12 1, .t (tI x3.Channel), .own 2496, .t (tI (f4.length : Int)), .t (tB (decide (x3.Channel ≥ (f4.length : Int)))), .t (tB (decide (x3.Channel ≥ (f4.length : Int)))), .t (tB false), .ptr 12 0, .t (tI x3.At), .ptr 2 0, .t (tI t2.Now), .t (tB (decide (x3.At ≤ t2.Now))), .t (tB (decide (x3.At ≤ t2.Now))), .t (tB true), .t (.v undef), .t (.v undef), .t (.v undef), .t (.v undef), .t (tB true), .t (tB true), .t (.v undef), .t (.v undef), .t (.v undef), .t (.v undef), .t (.v undef), .t (.v undef), .t (.v undef), .t (.v undef), .t (tB true), .t (tB true), .t (.v undef), .t (.v undef), .t (.v undef), .t (.v undef), .t (.v undef), .t (.v undef), .t (.v undef), .t (.v undef), .t (.v undef), .t (.v undef), .t (.v undef), .t (.v undef), .t (.v undef), .t (.v undef), .t (.v undef), .t (.v undef), .t (.v undef), .t (.v undef), .t (.v undef), .t (.v undef), .t (.v undef), .t (.v undef), .t (.v undef), .t (.v undef), .t (.v undef), .t (.v undef), .t (.v undef), .t (.v undef), .t (.v undef), .t (.v undef), .t (.v undef), .t (.v undef), .t (.v undef), .t (.v undef), .t (.v undef), .t (tB true)] [(1, .t (tI v_to)), (2, .ptr 2 0), (5, .ptr 5 0), (6, .t (tS enc_SSwitch r2.2.1)), (8, .own 2496), (11, .t (tI i2)), (12, .ptr 12 0), (77, .t (tS enc_SSwitch r2.2.1)), (78, .t (tI (r2.2.1.length : Int))), (79, .t (tI i2))] [(2, .box [.t (tI t2.Now), .t (tS enc_SChannel t2.Channels)]), (5, .box [.t (tI r2.1.Now), .t (tS enc_SChannel r2.1.Channels)]), (12, .box [.t (tI x3.At), .t (tI x3.Channel), .t (tB x3.Level)]), (2496, .rows 4 1 f4.length (f4.map Pv.encB))] mixed (.of rfl rfl) rfl rfl rfl rfl (.cons (.quiet rfl rfl rfl) (.cons (.quiet rfl rfl rfl) (.cons (.quiet rfl rfl rfl) (.cons (.cast (congrArg T.B hg2) (.quiet rfl rfl rfl)) (.cons (.quiet rfl rfl rfl) (.cons (.quiet rfl rfl rfl) (.cons (.quiet rfl rfl rfl) (.cons (.quiet rfl rfl rfl) (.cons (.quiet rfl rfl rfl) (.cons (.quiet rfl rfl rfl) (.cons (.cast (congrArg T.B hg4) (.quiet rfl rfl rfl)) (.cons (.quiet rfl rfl rfl) (.cons (.quiet rfl rfl rfl) (.cons (.quiet rfl rfl rfl) (.cons (.quiet rfl rfl rfl) (.cons (.quiet rfl rfl rfl) (.cons (.quiet rfl rfl rfl) (.cons (.cast (congrArg T.B hg5) (.quiet rfl rfl rfl)) (.cons (.skip rfl) (.cons (.skip rfl) (.cons (.skip rfl) (.cons (.skip rfl) (.cons (.quiet rfl rfl rfl) (.cons (.quiet rfl rfl rfl) (.cons (.skip rfl) (.cons (.skip rfl) (.cons (.skip rfl) (.cons (.skip rfl) (.cons (.skip rfl) (.cons (.skip rfl) (.cons (.skip rfl) (.cons (.skip rfl) (.cons (.quiet rfl rfl rfl) (.cons (.quiet rfl rfl rfl) (.cons (.skip rfl) (.cons (.skip rfl) (.cons (.skip rfl) (.cons (.skip rfl) (.cons (.skip rfl) (.cons (.skip rfl) (.cons (.skip rfl) (.cons (.skip rfl) (.cons (.skip rfl) (.cons (.skip rfl) (.cons (.skip rfl) (.cons (.skip rfl) (.cons (.skip rfl) (.cons (.skip rfl) (.cons (.skip rfl) (.cons (.skip rfl) (.cons (.skip rfl) (.cons (.skip rfl) (.cons (.skip rfl) (.cons (.skip rfl) (.cons (.skip rfl) (.cons (.skip rfl) (.cons (.skip rfl) (.cons (.skip rfl) (.cons (.skip rfl) (.cons (.skip rfl) (.cons (.skip rfl) (.cons (.skip rfl) (.cons (.skip rfl) (.cons (.skip rfl) (.cons (.skip rfl) (.cons (.skip rfl) (.cons (.skip rfl) (.cons (.skip rfl) (.cons (.skip rfl) (.cons (.quiet rfl rfl rfl) (.nil))))))))))))))))))))))))))))))))))))))))))))))))))))))))))))))))))))))) ?_
                        refine TieO.nil ?_
                        exact TieS.leaf ⟨rfl, .of rfl rfl⟩
                      · refine TieX.split (fun hg7 => ?_) (fun hg8 => ?_)
                        · refine TieS.draw 70 [.ptr 12 1, .t (tI x3.Channel), .t (tB (decide (x3.Channel < 0))), .t (tB false), .ptr 12 1, .t (tI x3.Channel), .own 2496, .t (tI (f4.length : Int)), .t (tB (decide (x3.Channel ≥ (f4.length : Int)))), .t (tB (decide (x3.Channel ≥ (f4.length : Int)))), .t (tB false), .ptr 12 0, .t (tI x3.At), .ptr 2 0, .t (tI t2.Now), .t (tB (decide (x3.At ≤ t2.Now))), .t (tB (decide (x3.At ≤ t2.Now))), .t (tB false), .ptr 12 0, .t (tI x3.At), .t (tI v_to), .t (tB (decide (x3.At > v_to))), .t (tB (decide (x3.At > v_to))), .t (tB true), .t (.v undef), .t (.v undef), .t (.v undef), .t (.v undef), .t (.v undef), .t (.v undef), .t (.v undef), .t (.v undef), .t (tB true), .t (tB true), .t (.v undef), .t (.v undef), .t (.v undef), .t (.v undef), .t (.v undef), .t (.v undef), .t (.v undef), .t (.v undef), .t (.v undef), .t (.v undef), .t (.v undef), .t (.v undef), .t (.v undef), .t (.v undef), .t (.v undef), .t (.v undef), .t (.v undef), .t (.v undef), .t (.v undef), .t (.v undef), .t (.v undef), .t (.v undef), .t (.v undef), .t (.v undef), .t (.v undef), .t (.v undef), .t (.v undef), .t (.v undef), .t (.v undef), .t (.v undef), .t (.v undef), .t (.v undef), .t (.v undef), .t (.v undef), .t (.v undef), .t (tB true)] [(1, .t (tI v_to)), (2, .ptr 2 0), (5, .ptr 5 0), (6, .t (tS enc_SSwitch r2.2.1)), (8, .own 2496), (11, .t (tI i2)), (12, .ptr 12 0), (77, .t (tS enc_SSwitch r2.2.1)), (78, .t (tI (r2.2.1.length : Int))), (79, .t (tI i2))] [(2, .box [.t (tI t2.Now), .t (tS enc_SChannel t2.Channels)]), (5, .box [.t (tI r2.1.Now), .t (tS enc_SChannel r2.1.Channels)]), (12, .box [.t (tI x3.At), .t (tI x3.Channel), .t (tB x3.Level)]), (2496, .rows 4 1 f4.length (f4.map Pv.encB))] mixed (.of rfl rfl) rfl rfl rfl rfl (.cons (.quiet rfl rfl rfl) (.cons (.quiet rfl rfl rfl) (.cons (.quiet rfl rfl rfl) (.cons (.cast (congrArg T.B hg2) (.quiet rfl rfl rfl)) (.cons (.quiet rfl rfl rfl) (.cons (.quiet rfl rfl rfl) (.cons (.quiet rfl rfl rfl) (.cons (.quiet rfl rfl rfl) (.cons (.quiet rfl rfl rfl) (.cons (.quiet rfl rfl rfl) (.cons (.cast (congrArg T.B hg4) (.quiet rfl rfl rfl)) (.cons (.quiet rfl rfl rfl) (.cons (.quiet rfl rfl rfl) (.cons (.quiet rfl rfl rfl) (.cons (.quiet rfl rfl rfl) (.cons (.quiet rfl rfl rfl) (.cons (.quiet rfl rfl rfl) (.cons (.cast (congrArg T.B hg6) (.quiet rfl rfl rfl)) (.cons (.quiet rfl rfl rfl) (.cons (.quiet rfl rfl rfl) (.cons (.quiet rfl rfl rfl) (.cons (.quiet rfl rfl rfl) (.cons (.quiet rfl rfl rfl) (.cons (.cast (congrArg T.B hg7) (.quiet rfl rfl rfl)) (.cons (.skip rfl) (.cons (.skip rfl) (.cons (.skip rfl) (.cons (.skip rfl) (.cons (.skip rfl) (.cons (.skip rfl) (.cons (.skip rfl) (.cons (.skip rfl) (.cons (.quiet rfl rfl rfl) (.cons (.quiet rfl rfl rfl) (.cons (.skip rfl) (.cons (.skip rfl) (.cons (.skip rfl) (.cons (.skip rfl) (.cons (.skip rfl) (.cons (.skip rfl) (.cons (.skip rfl) (.cons (.skip rfl) (.cons (.skip rfl) (.cons (.skip rfl) (.cons (.skip rfl) (.cons (.skip rfl) (.cons (.skip rfl) (.cons (.skip rfl) (.cons (.skip rfl) (.cons (.skip rfl) (.cons (.skip rfl) (.cons (.skip rfl) (.cons (.skip rfl) (.cons (.skip rfl) (.cons (.skip rfl) (.cons (.skip rfl) (.cons (.skip rfl) (.cons (.skip rfl) (.cons (.skip rfl) (.cons (.skip rfl) (.cons (.skip rfl) (.cons (.skip rfl) (.cons (.skip rfl) (.cons (.skip rfl) (.cons (.skip rfl) (.cons (.skip rfl) (.cons (.skip rfl) (.cons (.skip rfl) (.cons (.skip rfl) (.cons (.quiet rfl rfl rfl) (.nil))))))))))))))))))))))))))))))))))))))))))))))))))))))))))))))))))))))) ?_
                          refine TieO.nil ?_
                          exact TieS.leaf ⟨rfl, .of rfl rfl⟩
                        · refine TieX.pre fun x4 hx4 => ?_
                          refine TieX.split (fun hg9 => ?_) (fun hg10 => ?_)
                          · refine TieS.draw 70 [.ptr 12 1, .t (tI x3.Channel), .t (tB (decide (x3.Channel < 0))), .t (tB false), .ptr 12 1, .t (tI x3.Channel), .own 2496, .t (tI (f4.length : Int)), .t (tB (decide (x3.Channel ≥ (f4.length : Int)))), .t (tB (decide (x3.Channel ≥ (f4.length : Int)))), .t (tB false), .ptr 12 0, .t (tI x3.At), .ptr 2 0, .t (tI t2.Now), .t (tB (decide (x3.At ≤ t2.Now))), .t (tB (decide (x3.At ≤ t2.Now))), .t (tB false), .ptr 12 0, .t (tI x3.At), .t (tI v_to), .t (tB (decide (x3.At > v_to))), .t (tB (decide (x3.At > v_to))), .t (tB false), .own 2496, .ptr 12 1, .t (tI x3.Channel), .pe 2496 (Int.toNat x3.Channel) 1 0, .t (tB x4), .ptr 12 2, .t (tB x3.Level), .t (tB (x4 == x3.Level)), .t (tB (x4 == x3.Level)), .t (tB true), .t (.v undef), .t (.v undef), .t (.v undef), .t (.v undef), .t (.v undef), .t (.v undef), .t (.v undef), .t (.v undef), .t (.v undef), .t (.v undef), .t (.v undef), .t (.v undef), .t (.v undef), .t (.v undef), .t (.v undef), .t (.v undef), .t (.v undef), .t (.v undef), .t (.v undef), .t (.v undef), .t (.v undef), .t (.v undef), .t (.v undef), .t (.v undef), .t (.v undef), .t (.v undef), .t (.v undef), .t (.v undef), .t (.v undef), .t (.v undef), .t (.v undef), .t (.v undef), .t (.v undef), .t (.v undef), .t (.v undef), .t (tB true)] [(1, .t (tI v_to)), (2, .ptr 2 0), (5, .ptr 5 0), (6, .t (tS enc_SSwitch r2.2.1)), (8, .own 2496), (11, .t (tI i2)), (12, .ptr 12 0), (77, .t (tS enc_SSwitch r2.2.1)), (78, .t (tI (r2.2.1.length : Int))), (79, .t (tI i2))] [(2, .box [.t (tI t2.Now), .t (tS enc_SChannel t2.Channels)]), (5, .box [.t (tI r2.1.Now), .t (tS enc_SChannel r2.1.Channels)]), (12, .box [.t (tI x3.At), .t (tI x3.Channel), .t (tB x3.Level)]), (2496, .rows 4 1 f4.length (f4.map Pv.encB))] mixed (.of rfl rfl) rfl rfl rfl rfl (.cons (.quiet rfl rfl rfl) (.cons (.quiet rfl rfl rfl) (.cons (.quiet rfl rfl rfl) (.cons (.cast (congrArg T.B hg2) (.quiet rfl rfl rfl)) (.cons (.quiet rfl rfl rfl) (.cons (.quiet rfl rfl rfl) (.cons (.quiet rfl rfl rfl) (.cons (.quiet rfl rfl rfl) (.cons (.quiet rfl rfl rfl) (.cons (.quiet rfl rfl rfl) (.cons (.cast (congrArg T.B hg4) (.quiet rfl rfl rfl)) (.cons (.quiet rfl rfl rfl) (.cons (.quiet rfl rfl rfl) (.cons (.quiet rfl rfl rfl) (.cons (.quiet rfl rfl rfl) (.cons (.quiet rfl rfl rfl) (.cons (.quiet rfl rfl rfl) (.cons (.cast (congrArg T.B hg6) (.quiet rfl rfl rfl)) (.cons (.quiet rfl rfl rfl) (.cons (.quiet rfl rfl rfl) (.cons (.quiet rfl rfl rfl) (.cons (.quiet rfl rfl rfl) (.cons (.quiet rfl rfl rfl) (.cons (.cast (congrArg T.B hg8) (.quiet rfl rfl rfl)) (.cons (.quiet rfl rfl rfl) (.cons (.quiet rfl rfl rfl) (.cons (.quiet rfl rfl rfl) (.cons (.indexO (sz := 1) hx4 rfl rfl rfl rfl rfl rfl rfl rfl) (.cons (.loadY hx4 rfl rfl rfl rfl rfl rfl) (.cons (.quiet rfl rfl rfl) (.cons (.quiet rfl rfl rfl) (.cons (.quiet rfl rfl rfl) (.cons (.quiet rfl rfl rfl) (.cons (.cast (congrArg T.B hg9) (.quiet rfl rfl rfl)) (.cons (.skip rfl) (.cons (.skip rfl) (.cons (.skip rfl) (.cons (.skip rfl) (.cons (.skip rfl) (.cons (.skip rfl) (.cons (.skip rfl) (.cons (.skip rfl) (.cons (.skip rfl) (.cons (.skip rfl) (.cons (.skip rfl) (.cons (.skip rfl) (.cons (.skip rfl) (.cons (.skip rfl) (.cons (.skip rfl) (.cons (.skip rfl) (.cons (.skip rfl) (.cons (.skip rfl) (.cons (.skip rfl) (.cons (.skip rfl) (.cons (.skip rfl) (.cons (.skip rfl) (.cons (.skip rfl) (.cons (.skip rfl) (.cons (.skip rfl) (.cons (.skip rfl) (.cons (.skip rfl) (.cons (.skip rfl) (.cons (.skip rfl) (.cons (.skip rfl) (.cons (.skip rfl) (.cons (.skip rfl) (.cons (.skip rfl) (.cons (.skip rfl) (.cons (.skip rfl) (.cons (.quiet rfl rfl rfl) (.nil))))))))))))))))))))))))))))))))))))))))))))))))))))))))))))))))))))))) ?_
                            refine TieO.nil ?_
                            exact TieS.leaf ⟨rfl, .of rfl rfl⟩
                          · refine TieX.split (fun hg11 => ?_) (fun hg16 => ?_)
                            · refine TieX.pre fun x5 hx5 => ?_
                              refine TieX.split (fun hg12 => ?_) (fun hg13 => ?_)
                              · refine TieS.draw 70 [.ptr 12 1, .t (tI x3.Channel), .t (tB (decide (x3.Channel < 0))), .t (tB false), .ptr 12 1, .t (tI x3.Channel), .own 2496, .t (tI (f4.length : Int)), .t (tB (decide (x3.Channel ≥ (f4.length : Int)))), .t (tB (decide (x3.Channel ≥ (f4.length : Int)))), .t (tB false), .ptr 12 0, .t (tI x3.At), .ptr 2 0, .t (tI t2.Now), .t (tB (decide (x3.At ≤ t2.Now))), .t (tB (decide (x3.At ≤ t2.Now))), .t (tB false), .ptr 12 0, .t (tI x3.At), .t (tI v_to), .t (tB (decide (x3.At > v_to))), .t (tB (decide (x3.At > v_to))), .t (tB false), .own 2496, .ptr 12 1, .t (tI x3.Channel), .pe 2496 (Int.toNat x3.Channel) 1 0, .t (tB x4), .ptr 12 2, .t (tB x3.Level), .t (tB (x4 == x3.Level)), .t (tB (x4 == x3.Level)), .t (tB false), .t (tI i2), .t (tB (decide (i2 > 0))), .t (tB true), .t (tS enc_SSwitch r2.2.1), .t (tI i2), .t (tI (w64 (i2 - 1))), .el (enc_SSwitch x5), .el (List.drop 0 (enc_SSwitch x5)), .t (tI x5.At), .ptr 12 0, .t (tI x3.At), .t (tB (decide (x5.At > x3.At))), .t (tB true), .t (.v undef), .t (.v undef), .t (.v undef), .t (.v undef), .t (.v undef), .t (.v undef), .t (.v undef), .t (.v undef), .t (.v undef), .t (.v undef), .t (.v undef), .t (.v undef), .t (.v undef), .t (.v undef), .t (.v undef), .t (.v undef), .t (.v undef), .t (.v undef), .t (.v undef), .t (.v undef), .t (tB true), .t (tB true), .t (tB true)] [(1, .t (tI v_to)), (2, .ptr 2 0), (5, .ptr 5 0), (6, .t (tS enc_SSwitch r2.2.1)), (8, .own 2496), (11, .t (tI i2)), (12, .ptr 12 0), (77, .t (tS enc_SSwitch r2.2.1)), (78, .t (tI (r2.2.1.length : Int))), (79, .t (tI i2))] [(2, .box [.t (tI t2.Now), .t (tS enc_SChannel t2.Channels)]), (5, .box [.t (tI r2.1.Now), .t (tS enc_SChannel r2.1.Channels)]), (12, .box [.t (tI x3.At), .t (tI x3.Channel), .t (tB x3.Level)]), (2496, .rows 4 1 f4.length (f4.map Pv.encB))] mixed (.of rfl rfl) rfl rfl rfl rfl (.cons (.quiet rfl rfl rfl) (.cons (.quiet rfl rfl rfl) (.cons (.quiet rfl rfl rfl) (.cons (.cast (congrArg T.B hg2) (.quiet rfl rfl rfl)) (.cons (.quiet rfl rfl rfl) (.cons (.quiet rfl rfl rfl) (.cons (.quiet rfl rfl rfl) (.cons (.quiet rfl rfl rfl) (.cons (.quiet rfl rfl rfl) (.cons (.quiet rfl rfl rfl) (.cons (.cast (congrArg T.B hg4) (.quiet rfl rfl rfl)) (.cons (.quiet rfl rfl rfl) (.cons (.quiet rfl rfl rfl) (.cons (.quiet rfl rfl rfl) (.cons (.quiet rfl rfl rfl) (.cons (.quiet rfl rfl rfl) (.cons (.quiet rfl rfl rfl) (.cons (.cast (congrArg T.B hg6) (.quiet rfl rfl rfl)) (.cons (.quiet rfl rfl rfl) (.cons (.quiet rfl rfl rfl) (.cons (.quiet rfl rfl rfl) (.cons (.quiet rfl rfl rfl) (.cons (.quiet rfl rfl rfl) (.cons (.cast (congrArg T.B hg8) (.quiet rfl rfl rfl)) (.cons (.quiet rfl rfl rfl) (.cons (.quiet rfl rfl rfl) (.cons (.quiet rfl rfl rfl) (.cons (.indexO (sz := 1) hx4 rfl rfl rfl rfl rfl rfl rfl rfl) (.cons (.loadY hx4 rfl rfl rfl rfl rfl rfl) (.cons (.quiet rfl rfl rfl) (.cons (.quiet rfl rfl rfl) (.cons (.quiet rfl rfl rfl) (.cons (.quiet rfl rfl rfl) (.cons (.cast (congrArg T.B hg10) (.quiet rfl rfl rfl)) (.cons (.quiet rfl rfl rfl) (.cons (.quiet rfl rfl rfl) (.cons (.cast (congrArg T.B hg11) (.quiet rfl rfl rfl)) (.cons (.quiet rfl rfl rfl) (.cons (.quiet rfl rfl rfl) (.cons (.quiet rfl rfl rfl) (.cons (.index hx5 rfl rfl rfl rfl rfl rfl (fun _ => rfl)) (.cons (.quiet rfl rfl rfl) (.cons (.quiet rfl rfl rfl) (.cons (.quiet rfl rfl rfl) (.cons (.quiet rfl rfl rfl) (.cons (.quiet rfl rfl rfl) (.cons (.cast (congrArg T.B hg12) (.quiet rfl rfl rfl)) (.cons (.skip rfl) (.cons (.skip rfl) (.cons (.skip rfl) (.cons (.skip rfl) (.cons (.skip rfl) (.cons (.skip rfl) (.cons (.skip rfl) (.cons (.skip rfl) (.cons (.skip rfl) (.cons (.skip rfl) (.cons (.skip rfl) (.cons (.skip rfl) (.cons (.skip rfl) (.cons (.skip rfl) (.cons (.skip rfl) (.cons (.skip rfl) (.cons (.skip rfl) (.cons (.skip rfl) (.cons (.skip rfl) (.cons (.skip rfl) (.cons (.quiet rfl rfl rfl) (.cons (.quiet rfl rfl rfl) (.cons (.quiet rfl rfl rfl) (.nil))))))))))))))))))))))))))))))))))))))))))))))))))))))))))))))))))))))) ?_
                                refine TieO.nil ?_
                                exact TieS.leaf ⟨rfl, .of rfl rfl⟩
                              · refine TieX.split (fun hg14 => ?_) (fun hg15 => ?_)
                                · refine TieS.draw 70 [.ptr 12 1, .t (tI x3.Channel), .t (tB (decide (x3.Channel < 0))), .t (tB false), .ptr 12 1, .t (tI x3.Channel), .own 2496, .t (tI (f4.length : Int)), .t (tB (decide (x3.Channel ≥ (f4.length : Int)))), .t (tB (decide (x3.Channel ≥ (f4.length : Int)))), .t (tB false), .ptr 12 0, .t (tI x3.At), .ptr 2 0, .t (tI t2.Now), .t (tB (decide (x3.At ≤ t2.Now))), .t (tB (decide (x3.At ≤ t2.Now))), .t (tB false), .ptr 12 0, .t (tI x3.At), .t (tI v_to), .t (tB (decide (x3.At > v_to))), .t (tB (decide (x3.At > v_to))), .t (tB false), .own 2496, .ptr 12 1, .t (tI x3.Channel), .pe 2496 (Int.toNat x3.Channel) 1 0, .t (tB x4), .ptr 12 2, .t (tB x3.Level), .t (tB (x4 == x3.Level)), .t (tB (x4 == x3.Level)), .t (tB false), .t (tI i2), .t (tB (decide (i2 > 0))), .t (tB true), .t (tS enc_SSwitch r2.2.1), .t (tI i2), .t (tI (w64 (i2 - 1))), .el (enc_SSwitch x5), .el (List.drop 0 (enc_SSwitch x5)), .t (tI x5.At), .ptr 12 0, .t (tI x3.At), .t (tB (decide (x5.At > x3.At))), .t (tB false), .t (tS enc_SSwitch r2.2.1), .t (tI i2), .t (tI (w64 (i2 - 1))), .el (enc_SSwitch x5), .el (List.drop 0 (enc_SSwitch x5)), .t (tI x5.At), .ptr 12 0, .t (tI x3.At), .t (tB (x5.At == x3.At)), .t (tB true), .t (tS enc_SSwitch r2.2.1), .t (tI i2), .t (tI (w64 (i2 - 1))), .el (enc_SSwitch x5), .el (List.drop 1 (enc_SSwitch x5)), .t (tI x5.Channel), .ptr 12 1, .t (tI x3.Channel), .t (tB (decide (x5.Channel ≥ x3.Channel))), .t (tB (decide (x5.Channel ≥ x3.Channel))), .t (tB (decide (x5.Channel ≥ x3.Channel))), .t (tB (decide (x5.Channel ≥ x3.Channel))), .t (tB (decide (x5.Channel ≥ x3.Channel)))] [(1, .t (tI v_to)), (2, .ptr 2 0), (5, .ptr 5 0), (6, .t (tS enc_SSwitch r2.2.1)), (8, .own 2496), (11, .t (tI i2)), (12, .ptr 12 0), (77, .t (tS enc_SSwitch r2.2.1)), (78, .t (tI (r2.2.1.length : Int))), (79, .t (tI i2))] [(2, .box [.t (tI t2.Now), .t (tS enc_SChannel t2.Channels)]), (5, .box [.t (tI r2.1.Now), .t (tS enc_SChannel r2.1.Channels)]), (12, .box [.t (tI x3.At), .t (tI x3.Channel), .t (tB x3.Level)]), (2496, .rows 4 1 f4.length (f4.map Pv.encB))] mixed (.of rfl rfl) rfl rfl rfl rfl (.cons (.quiet rfl rfl rfl) (.cons (.quiet rfl rfl rfl) (.cons (.quiet rfl rfl rfl) (.cons (.cast (congrArg T.B hg2) (.quiet rfl rfl rfl)) (.cons (.quiet rfl rfl rfl) (.cons (.quiet rfl rfl rfl) (.cons (.quiet rfl rfl rfl) (.cons (.quiet rfl rfl rfl) (.cons (.quiet rfl rfl rfl) (.cons (.quiet rfl rfl rfl) (.cons (.cast (congrArg T.B hg4) (.quiet rfl rfl rfl)) (.cons (.quiet rfl rfl rfl) (.cons (.quiet rfl rfl rfl) (.cons (.quiet rfl rfl rfl) (.cons (.quiet rfl rfl rfl) (.cons (.quiet rfl rfl rfl) (.cons (.quiet rfl rfl rfl) (.cons (.cast (congrArg T.B hg6) (.quiet rfl rfl rfl)) (.cons (.quiet rfl rfl rfl) (.cons (.quiet rfl rfl rfl) (.cons (.quiet rfl rfl rfl) (.cons (.quiet rfl rfl rfl) (.cons (.quiet rfl rfl rfl) (.cons (.cast (congrArg T.B hg8) (.quiet rfl rfl rfl)) (.cons (.quiet rfl rfl rfl) (.cons (.quiet rfl rfl rfl) (.cons (.quiet rfl rfl rfl) (.cons (.indexO (sz := 1) hx4 rfl rfl rfl rfl rfl rfl rfl rfl) (.cons (.loadY hx4 rfl rfl rfl rfl rfl rfl) (.cons (.quiet rfl rfl rfl) (.cons (.quiet rfl rfl rfl) (.cons (.quiet rfl rfl rfl) (.cons (.quiet rfl rfl rfl) (.cons (.cast (congrArg T.B hg10) (.quiet rfl rfl rfl)) (.cons (.quiet rfl rfl rfl) (.cons (.quiet rfl rfl rfl) (.cons (.cast (congrArg T.B hg11) (.quiet rfl rfl rfl)) (.cons (.quiet rfl rfl rfl) (.cons (.quiet rfl rfl rfl) (.cons (.quiet rfl rfl rfl) (.cons (.index hx5 rfl rfl rfl rfl rfl rfl (fun _ => rfl)) (.cons (.quiet rfl rfl rfl) (.cons (.quiet rfl rfl rfl) (.cons (.quiet rfl rfl rfl) (.cons (.quiet rfl rfl rfl) (.cons (.quiet rfl rfl rfl) (.cons (.cast (congrArg T.B hg13) (.quiet rfl rfl rfl)) (.cons (.quiet rfl rfl rfl) (.cons (.quiet rfl rfl rfl) (.cons (.quiet rfl rfl rfl) (.cons (.index hx5 rfl rfl rfl rfl rfl rfl (fun _ => rfl)) (.cons (.quiet rfl rfl rfl) (.cons (.quiet rfl rfl rfl) (.cons (.quiet rfl rfl rfl) (.cons (.quiet rfl rfl rfl) (.cons (.quiet rfl rfl rfl) (.cons (.cast (congrArg T.B hg14) (.quiet rfl rfl rfl)) (.cons (.quiet rfl rfl rfl) (.cons (.quiet rfl rfl rfl) (.cons (.quiet rfl rfl rfl) (.cons (.index hx5 rfl rfl rfl rfl rfl rfl (fun _ => rfl)) (.cons (.quiet rfl rfl rfl) (.cons (.quiet rfl rfl rfl) (.cons (.quiet rfl rfl rfl) (.cons (.quiet rfl rfl rfl) (.cons (.quiet rfl rfl rfl) (.cons (.quiet rfl rfl rfl) (.cons (.quiet rfl rfl rfl) (.cons (.quiet rfl rfl rfl) (.cons (.quiet rfl rfl rfl) (.nil))))))))))))))))))))))))))))))))))))))))))))))))))))))))))))))))))))))) ?_
                                  refine TieO.nil ?_
                                  exact TieS.leaf ⟨rfl, .of rfl rfl⟩
                                · refine TieS.draw 70 [.ptr 12 1, .t (tI x3.Channel), .t (tB (decide (x3.Channel < 0))), .t (tB false), .ptr 12 1, .t (tI x3.Channel), .own 2496, .t (tI (f4.length : Int)), .t (tB (decide (x3.Channel ≥ (f4.length : Int)))), .t (tB (decide (x3.Channel ≥ (f4.length : Int)))), .t (tB false), .ptr 12 0, .t (tI x3.At), .ptr 2 0, .t (tI t2.Now), .t (tB (decide (x3.At ≤ t2.Now))), .t (tB (decide (x3.At ≤ t2.Now))), .t (tB false), .ptr 12 0, .t (tI x3.At), .t (tI v_to), .t (tB (decide (x3.At > v_to))), .t (tB (decide (x3.At > v_to))), .t (tB false), .own 2496, .ptr 12 1, .t (tI x3.Channel), .pe 2496 (Int.toNat x3.Channel) 1 0, .t (tB x4), .ptr 12 2, .t (tB x3.Level), .t (tB (x4 == x3.Level)), .t (tB (x4 == x3.Level)), .t (tB false), .t (tI i2), .t (tB (decide (i2 > 0))), .t (tB true), .t (tS enc_SSwitch r2.2.1), .t (tI i2), .t (tI (w64 (i2 - 1))), .el (enc_SSwitch x5), .el (List.drop 0 (enc_SSwitch x5)), .t (tI x5.At), .ptr 12 0, .t (tI x3.At), .t (tB (decide (x5.At > x3.At))), .t (tB false), .t (tS enc_SSwitch r2.2.1), .t (tI i2), .t (tI (w64 (i2 - 1))), .el (enc_SSwitch x5), .el (List.drop 0 (enc_SSwitch x5)), .t (tI x5.At), .ptr 12 0, .t (tI x3.At), .t (tB (x5.At == x3.At)), .t (tB false), .t (.v undef), .t (.v undef), .t (.v undef), .t (.v undef), .t (.v undef), .t (.v undef), .t (.v undef), .t (.v undef), .t (.v undef), .t (tB false), .t (tB false), .t (tB false), .t (tB false)] [(1, .t (tI v_to)), (2, .ptr 2 0), (5, .ptr 5 0), (6, .t (tS enc_SSwitch r2.2.1)), (8, .own 2496), (11, .t (tI i2)), (12, .ptr 12 0), (77, .t (tS enc_SSwitch r2.2.1)), (78, .t (tI (r2.2.1.length : Int))), (79, .t (tI i2))] [(2, .box [.t (tI t2.Now), .t (tS enc_SChannel t2.Channels)]), (5, .box [.t (tI r2.1.Now), .t (tS enc_SChannel r2.1.Channels)]), (12, .box [.t (tI x3.At), .t (tI x3.Channel), .t (tB x3.Level)]), (2496, .rows 4 1 f4.length (f4.map Pv.encB))] mixed (.of rfl rfl) rfl rfl rfl rfl (.cons (.quiet rfl rfl rfl) (.cons (.quiet rfl rfl rfl) (.cons (.quiet rfl rfl rfl) (.cons (.cast (congrArg T.B hg2) (.quiet rfl rfl rfl)) (.cons (.quiet rfl rfl rfl) (.cons (.quiet rfl rfl rfl) (.cons (.quiet rfl rfl rfl) (.cons (.quiet rfl rfl rfl) (.cons (.quiet rfl rfl rfl) (.cons (.quiet rfl rfl rfl) (.cons (.cast (congrArg T.B hg4) (.quiet rfl rfl rfl)) (.cons (.quiet rfl rfl rfl) (.cons (.quiet rfl rfl rfl) (.cons (.quiet rfl rfl rfl) (.cons (.quiet rfl rfl rfl) (.cons (.quiet rfl rfl rfl) (.cons (.quiet rfl rfl rfl) (.cons (.cast (congrArg T.B hg6) (.quiet rfl rfl rfl)) (.cons (.quiet rfl rfl rfl) (.cons (.quiet rfl rfl rfl) (.cons (.quiet rfl rfl rfl) (.cons (.quiet rfl rfl rfl) (.cons (.quiet rfl rfl rfl) (.cons (.cast (congrArg T.B hg8) (.quiet rfl rfl rfl)) (.cons (.quiet rfl rfl rfl) (.cons (.quiet rfl rfl rfl) (.cons (.quiet rfl rfl rfl) (.cons (.indexO (sz := 1) hx4 rfl rfl rfl rfl rfl rfl rfl rfl) (.cons (.loadY hx4 rfl rfl rfl rfl rfl rfl) (.cons (.quiet rfl rfl rfl) (.cons (.quiet rfl rfl rfl) (.cons (.quiet rfl rfl rfl) (.cons (.quiet rfl rfl rfl) (.cons (.cast (congrArg T.B hg10) (.quiet rfl rfl rfl)) (.cons (.quiet rfl rfl rfl) (.cons (.quiet rfl rfl rfl) (.cons (.cast (congrArg T.B hg11) (.quiet rfl rfl rfl)) (.cons (.quiet rfl rfl rfl) (.cons (.quiet rfl rfl rfl) (.cons (.quiet rfl rfl rfl) (.cons (.index hx5 rfl rfl rfl rfl rfl rfl (fun _ => rfl)) (.cons (.quiet rfl rfl rfl) (.cons (.quiet rfl rfl rfl) (.cons (.quiet rfl rfl rfl) (.cons (.quiet rfl rfl rfl) (.cons (.quiet rfl rfl rfl) (.cons (.cast (congrArg T.B hg13) (.quiet rfl rfl rfl)) (.cons (.quiet rfl rfl rfl) (.cons (.quiet rfl rfl rfl) (.cons (.quiet rfl rfl rfl) (.cons (.index hx5 rfl rfl rfl rfl rfl rfl (fun _ => rfl)) (.cons (.quiet rfl rfl rfl) (.cons (.quiet rfl rfl rfl) (.cons (.quiet rfl rfl rfl) (.cons (.quiet rfl rfl rfl) (.cons (.quiet rfl rfl rfl) (.cons (.cast (congrArg T.B hg15) (.quiet rfl rfl rfl)) (.cons (.skip rfl) (.cons (.skip rfl) (.cons (.skip rfl) (.cons (.skip rfl) (.cons (.skip rfl) (.cons (.skip rfl) (.cons (.skip rfl) (.cons (.skip rfl) (.cons (.skip rfl) (.cons (.quiet rfl rfl rfl) (.cons (.quiet rfl rfl rfl) (.cons (.quiet rfl rfl rfl) (.cons (.quiet rfl rfl rfl) (.nil))))))))))))))))))))))))))))))))))))))))))))))))))))))))))))))))))))))) ?_
                                  refine TieO.nil ?_
                                  exact TieS.leaf ⟨rfl, .of rfl rfl⟩
                            · refine TieS.draw 70 [.ptr 12 1, .t (tI x3.Channel), .t (tB (decide (x3.Channel < 0))), .t (tB false), .ptr 12 1, .t (tI x3.Channel), .own 2496, .t (tI (f4.length : Int)), .t (tB (decide (x3.Channel ≥ (f4.length : Int)))), .t (tB (decide (x3.Channel ≥ (f4.length : Int)))), .t (tB false), .ptr 12 0, .t (tI x3.At), .ptr 2 0, .t (tI t2.Now), .t (tB (decide (x3.At ≤ t2.Now))), .t (tB (decide (x3.At ≤ t2.Now))), .t (tB false), .ptr 12 0, .t (tI x3.At), .t (tI v_to), .t (tB (decide (x3.At > v_to))), .t (tB (decide (x3.At > v_to))), .t (tB false), .own 2496, .ptr 12 1, .t (tI x3.Channel), .pe 2496 (Int.toNat x3.Channel) 1 0, .t (tB x4), .ptr 12 2, .t (tB x3.Level), .t (tB (x4 == x3.Level)), .t (tB (x4 == x3.Level)), .t (tB false), .t (tI i2), .t (tB (decide (i2 > 0))), .t (tB false), .t (.v undef), .t (.v undef), .t (.v undef), .t (.v undef), .t (.v undef), .t (.v undef), .t (.v undef), .t (.v undef), .t (.v undef), .t (.v undef), .t (.v undef), .t (.v undef), .t (.v undef), .t (.v undef), .t (.v undef), .t (.v undef), .t (.v undef), .t (.v undef), .t (.v undef), .t (.v undef), .t (.v undef), .t (.v undef), .t (.v undef), .t (.v undef), .t (.v undef), .t (.v undef), .t (.v undef), .t (.v undef), .t (.v undef), .t (.v undef), .t (.v undef), .t (tB false), .t (tB false)] [(1, .t (tI v_to)), (2, .ptr 2 0), (5, .ptr 5 0), (6, .t (tS enc_SSwitch r2.2.1)), (8, .own 2496), (11, .t (tI i2)), (12, .ptr 12 0), (77, .t (tS enc_SSwitch r2.2.1)), (78, .t (tI (r2.2.1.length : Int))), (79, .t (tI i2))] [(2, .box [.t (tI t2.Now), .t (tS enc_SChannel t2.Channels)]), (5, .box [.t (tI r2.1.Now), .t (tS enc_SChannel r2.1.Channels)]), (12, .box [.t (tI x3.At), .t (tI x3.Channel), .t (tB x3.Level)]), (2496, .rows 4 1 f4.length (f4.map Pv.encB))] mixed (.of rfl rfl) rfl rfl rfl rfl (.cons (.quiet rfl rfl rfl) (.cons (.quiet rfl rfl rfl) (.cons (.quiet rfl rfl rfl) (.cons (.cast (congrArg T.B hg2) (.quiet rfl rfl rfl)) (.cons (.quiet rfl rfl rfl) (.cons (.quiet rfl rfl rfl) (.cons (.quiet rfl rfl rfl) (.cons (.quiet rfl rfl rfl) (.cons (.quiet rfl rfl rfl) (.cons (.quiet rfl rfl rfl) (.cons (.cast (congrArg T.B hg4) (.quiet rfl rfl rfl)) (.cons (.quiet rfl rfl rfl) (.cons (.quiet rfl rfl rfl) (.cons (.quiet rfl rfl rfl) (.cons (.quiet rfl rfl rfl) (.cons (.quiet rfl rfl rfl) (.cons (.quiet rfl rfl rfl) (.cons (.cast (congrArg T.B hg6) (.quiet rfl rfl rfl)) (.cons (.quiet rfl rfl rfl) (.cons (.quiet rfl rfl rfl) (.cons (.quiet rfl rfl rfl) (.cons (.quiet rfl rfl rfl) (.cons (.quiet rfl rfl rfl) (.cons (.cast (congrArg T.B hg8) (.quiet rfl rfl rfl)) (.cons (.quiet rfl rfl rfl) (.cons (.quiet rfl rfl rfl) (.cons (.quiet rfl rfl rfl) (.cons (.indexO (sz := 1) hx4 rfl rfl rfl rfl rfl rfl rfl rfl) (.cons (.loadY hx4 rfl rfl rfl rfl rfl rfl) (.cons (.quiet rfl rfl rfl) (.cons (.quiet rfl rfl rfl) (.cons (.quiet rfl rfl rfl) (.cons (.quiet rfl rfl rfl) (.cons (.cast (congrArg T.B hg10) (.quiet rfl rfl rfl)) (.cons (.quiet rfl rfl rfl) (.cons (.quiet rfl rfl rfl) (.cons (.cast (congrArg T.B hg16) (.quiet rfl rfl rfl)) (.cons (.skip rfl) (.cons (.skip rfl) (.cons (.skip rfl) (.cons (.skip rfl) (.cons (.skip rfl) (.cons (.skip rfl) (.cons (.skip rfl) (.cons (.skip rfl) (.cons (.skip rfl) (.cons (.skip rfl) (.cons (.skip rfl) (.cons (.skip rfl) (.cons (.skip rfl) (.cons (.skip rfl) (.cons (.skip rfl) (.cons (.skip rfl) (.cons (.skip rfl) (.cons (.skip rfl) (.cons (.skip rfl) (.cons (.skip rfl) (.cons (.skip rfl) (.cons (.skip rfl) (.cons (.skip rfl) (.cons (.skip rfl) (.cons (.skip rfl) (.cons (.skip rfl) (.cons (.skip rfl) (.cons (.skip rfl) (.cons (.skip rfl) (.cons (.skip rfl) (.cons (.skip rfl) (.cons (.quiet rfl rfl rfl) (.cons (.quiet rfl rfl rfl) (.nil))))))))))))))))))))))))))))))))))))))))))))))))))))))))))))))))))))))) ?_
                              refine TieO.nil ?_
                              exact TieS.leaf ⟨rfl, .of rfl rfl⟩
                rintro v5 e σ' _ ⟨rfl, hs⟩
                refine TieX.sub hs ?_
                refine TieS.cond rfl ?_ ?_
                · refine TieS.seq ?_
                  refine TieS.region ?_
                  refine TieO.run 1 rfl ?_
                  refine TieO.nil ?_
                  exact TieS.ret ⟨rfl, rfl⟩
                · refine TieS.skip ?_
                  refine TieS.seq ?_
                  refine TieS.region ?_
                  refine TieO.run 5 rfl ?_
                  refine TieO.indexO rfl rfl rfl rfl rfl rfl rfl rfl rfl rfl fun x6 hx6 => ?_
                  refine TieO.storeY x3.Level [tB x3.Level] hx6 rfl rfl rfl rfl rfl rfl rfl rfl rfl rfl rfl rfl fun l3 hl3 => ?_
                  refine TieO.nil ?_
                  refine TieS.seq ?_
                  refine TieS.region ?_
                  refine TieO.run 4 rfl ?_
                  refine TieO.index rfl rfl rfl rfl rfl rfl rfl rfl (fun _ => rfl) fun x7 hx7 => ?_
                  refine TieO.run 3 rfl ?_
                  refine TieO.nil ?_
                  refine TieS.seq ?_
                  refine TieS.region ?_
                  refine TieO.run 4 rfl ?_
                  refine TieO.selOr (v := (x7.At != x3.At)) 6 169 (fun b => ⟨[(1, .t (tI v_to)), (2, .ptr 2 0), (5, .ptr 5 0), (6, .t (tS enc_SSwitch r2.2.1)), (8, .own 2496), (12, .ptr 12 0), (13, .ptr 13 0), (77, .t (tS enc_SSwitch r2.2.1)), (78, .t (tI (r2.2.1.length : Int))), (79, .t (tI i2)), (175, .t (tB b))], [(2, .box [.t (tI t2.Now), .t (tS enc_SChannel t2.Channels)]), (5, .box [.t (tI r2.1.Now), .t (tS enc_SChannel r2.1.Channels)]), (12, .box [.t (tI x3.At), .t (tI x3.Channel), .t (tB x3.Level)]), (13, .box [.t (tB x7.Armed), .t (tI x7.At), .t (tB x7.Next), .t (tB x7.Level)]), (2496, .rows 4 1 l3.length (l3.map Pv.encB))]⟩) rfl ?_ ?_ ?_
                  · refine TieO.run 6 rfl ?_
                    refine TieO.nil ?_
                    exact TieS.leaf ⟨rfl, .of rfl rfl⟩
                  · refine TieO.run 6 rfl ?_
                    refine TieO.nil ?_
                    exact TieS.leaf ⟨rfl, .of rfl rfl⟩
                  refine TieO.run 1 rfl ?_
                  refine TieO.selOr (v := (!(x7.Next == x3.Level))) 6 176 (fun b => ⟨[(1, .t (tI v_to)), (2, .ptr 2 0), (5, .ptr 5 0), (6, .t (tS enc_SSwitch r2.2.1)), (8, .own 2496), (77, .t (tS enc_SSwitch r2.2.1)), (78, .t (tI (r2.2.1.length : Int))), (79, .t (tI i2)), (182, .t (tB b))], [(2, .box [.t (tI t2.Now), .t (tS enc_SChannel t2.Channels)]), (5, .box [.t (tI r2.1.Now), .t (tS enc_SChannel r2.1.Channels)]), (2496, .rows 4 1 l3.length (l3.map Pv.encB))]⟩) rfl ?_ ?_ ?_
                  · refine TieO.run 6 rfl ?_
                    refine TieO.nil ?_
                    exact TieS.leaf ⟨rfl, .of rfl rfl⟩
                  · refine TieO.run 6 rfl ?_
                    refine TieO.nil ?_
                    exact TieS.leaf ⟨rfl, .of rfl rfl⟩
                  refine TieO.nil ?_
                  refine TieS.cond rfl ?_ ?_
                  · refine TieS.seq ?_
                    refine TieS.region ?_
                    refine TieO.run 1 rfl ?_
                    refine TieO.nil ?_
                    exact TieS.ret ⟨rfl, rfl⟩
                  · refine TieS.skip ?_
                    refine TieS.endb ?_
                    exact TieS.leaf ⟨rfl, .of rfl rfl⟩
              rintro (t | t | t) e σ' _ hq
              · obtain ⟨rfl, hs⟩ := hq
                refine TieX.sub hs ?_
                refine TieS.region ?_
                refine TieO.run 2 rfl ?_
                refine TieO.nil ?_
                exact TieS.leaf ⟨rfl, .of rfl rfl⟩
              · obtain ⟨rfl, hs⟩ := hq
                exact TieX.exitOut rfl ⟨(fun h => by cases h), rfl, hs⟩
              · obtain ⟨rfl, hs⟩ := hq
                exact TieX.ret ⟨(fun h => by cases h), rfl, hs⟩
            · exact TieS.exitOut rfl ⟨(fun h => by cases h), rfl, .of rfl rfl⟩
          rintro (f5 | r4) e σ' _ hq
          · obtain ⟨rfl, hs⟩ := hq
            refine TieX.exit rfl (TieX.sub hs ?_)
            refine TieS.seq ?_
            refine TieS.seq ?_
            refine TieS.region ?_
            refine TieO.run 4 rfl ?_
            refine TieO.nil ?_
            refine TieS.block ?_
            refine TieS.loop (fun p => ⟨[(1, .t (tI v_to)), (2, .ptr 2 0), (8, .own 2496), (185, .t (tS enc_SChannel r2.1.Channels)), (186, .t (tI (r2.1.Channels.length : Int))), (187, .t (tI p.1))], [(2, .box [.t (tI t2.Now), .t (tS enc_SChannel t2.Channels)]), (2496, .rows 4 1 f5.length (f5.map Pv.encB))]⟩) (fun b e σ' => match b with | .inl t => e = .exit 4 ∧ Sub ⟨[], []⟩ σ' | .inr t => e = .ret ∧ retT tab σ' [.tmp 4] = some (((fun r => .t (tB r)) : Bool → T) t)) (.of rfl rfl) ?_ ?_
            · rintro ⟨i3, s⟩
              refine TieS.seq ?_
              refine TieS.region ?_
              refine TieO.run 1 rfl ?_
              refine TieO.nil ?_
              refine TieS.seq ?_
              refine TieS.cond rfl ?_ ?_
              · refine TieS.skip ?_
                refine TieS.seq ?_
                refine TieX.sub (σ' := ⟨[(1, .t (tI v_to)), (2, .ptr 2 0), (8, .own 2496), (185, .t (tS enc_SChannel r2.1.Channels)), (186, .t (tI (r2.1.Channels.length : Int))), (187, .t (tI i3))], [(2, .box [.t (tI t2.Now), .t (tS enc_SChannel t2.Channels)]), (2496, .rows 4 1 f5.length (f5.map Pv.encB))]⟩) (.of rfl rfl) ?_
                refine TieS.bind (Q₁ := fun f e σ' => match f with | .next t => e = .normal ∧ Sub ⟨[(1, .t (tI v_to)), (2, .ptr 2 0), (8, .own 2496), (185, .t (tS enc_SChannel r2.1.Channels)), (186, .t (tI (r2.1.Channels.length : Int))), (187, .t (tI i3))], [(2, .box [.t (tI t2.Now), .t (tS enc_SChannel t2.Channels)]), (2496, .rows 4 1 f5.length (f5.map Pv.encB))]⟩ σ' | .brk t => e = .exit 4 ∧ Sub ⟨[], []⟩ σ' | .ret t => e = .ret ∧ retT tab σ' [.tmp 4] = some (((fun r => .t (tB r)) : Bool → T) t)) ?_ ?_
                · refine TieS.block ?_
                  refine TieS.seq ?_
                  refine TieS.region ?_
                  refine TieO.run 1 rfl ?_
                  refine TieO.index rfl rfl rfl rfl rfl rfl rfl rfl (fun _ => rfl) fun x8 hx8 => ?_
                  refine TieO.run 4 rfl ?_
                  refine TieO.nil ?_
                  refine TieS.seq ?_
                  refine TieX.pre fun x9 hx9 => ?_
                  refine TieX.split (fun hg17 => ?_) (fun hg18 => ?_)
                  · refine TieS.draw 28 [.ptr 15 3, .t (tB x8.Level), .own 2496, .t (tI i3), .pe 2496 (Int.toNat i3) 1 0, .t (tB x9), .t (tB (!(x8.Level == x9))), .t (tB true), .t (.v undef), .t (.v undef), .t (.v undef), .t (.v undef), .t (.v undef), .t (.v undef), .t (.v undef), .t (.v undef), .t (.v undef), .t (.v undef), .t (.v undef), .t (.v undef), .t (.v undef), .t (.v undef), .t (.v undef), .t (.v undef), .t (.v undef), .t (.v undef), .t (.v undef), .t (tB true)] [(1, .t (tI v_to)), (2, .ptr 2 0), (8, .own 2496), (14, .t (tI i3)), (15, .ptr 15 0), (185, .t (tS enc_SChannel r2.1.Channels)), (186, .t (tI (r2.1.Channels.length : Int))), (187, .t (tI i3))] [(2, .box [.t (tI t2.Now), .t (tS enc_SChannel t2.Channels)]), (15, .box [.t (tB x8.Armed), .t (tI x8.At), .t (tB x8.Next), .t (tB x8.Level)]), (2496, .rows 4 1 f5.length (f5.map Pv.encB))] mixed (.of rfl rfl) rfl rfl rfl rfl (.cons (.quiet rfl rfl rfl) (.cons (.quiet rfl rfl rfl) (.cons (.quiet rfl rfl rfl) (.cons (.quiet rfl rfl rfl) (.cons (.indexO (sz := 1) hx9 rfl rfl rfl rfl rfl rfl rfl rfl) (.cons (.loadY hx9 rfl rfl rfl rfl rfl rfl) (.cons (.quiet rfl rfl rfl) (.cons (.cast (congrArg T.B hg17) (.quiet rfl rfl rfl)) (.cons (.skip rfl) (.cons (.skip rfl) (.cons (.skip rfl) (.cons (.skip rfl) (.cons (.skip rfl) (.cons (.skip rfl) (.cons (.skip rfl) (.cons (.skip rfl) (.cons (.skip rfl) (.cons (.skip rfl) (.cons (.skip rfl) (.cons (.skip rfl) (.cons (.skip rfl) (.cons (.skip rfl) (.cons (.skip rfl) (.cons (.skip rfl) (.cons (.skip rfl) (.cons (.skip rfl) (.cons (.skip rfl) (.cons (.quiet rfl rfl rfl) (.nil))))))))))))))))))))))))))))) ?_
                    refine TieO.nil ?_
                    refine TieS.condL rfl ?_
                    refine TieS.seq ?_
                    refine TieS.region ?_
                    refine TieO.run 1 rfl ?_
                    refine TieO.nil ?_
                    exact TieS.ret ⟨rfl, rfl⟩
                  · refine TieX.pre fun x10 hx10 => ?_
                    refine TieX.split (fun hg19 => ?_) (fun hg20 => ?_)
                    · refine TieS.draw 28 [.ptr 15 3, .t (tB x8.Level), .own 2496, .t (tI i3), .pe 2496 (Int.toNat i3) 1 0, .t (tB x9), .t (tB (!(x8.Level == x9))), .t (tB false), .ptr 15 0, .t (tB x8.Armed), .ptr 2 1, .t (tS enc_SChannel t2.Channels), .t (tI i3), .el (enc_SChannel x10), .el (List.drop 0 (enc_SChannel x10)), .t (tB x10.Armed), .t (tB true), .ptr 2 1, .t (tS enc_SChannel t2.Channels), .t (tI i3), .el (enc_SChannel x10), .el (List.drop 1 (enc_SChannel x10)), .t (tI x10.At), .t (tI v_to), .t (tB (decide (x10.At > v_to))), .t (tB (decide (x10.At > v_to))), .t (tB (!(x8.Armed == (decide (x10.At > v_to))))), .t (tB (!(x8.Armed == (decide (x10.At > v_to)))))] [(1, .t (tI v_to)), (2, .ptr 2 0), (8, .own 2496), (14, .t (tI i3)), (15, .ptr 15 0), (185, .t (tS enc_SChannel r2.1.Channels)), (186, .t (tI (r2.1.Channels.length : Int))), (187, .t (tI i3))] [(2, .box [.t (tI t2.Now), .t (tS enc_SChannel t2.Channels)]), (15, .box [.t (tB x8.Armed), .t (tI x8.At), .t (tB x8.Next), .t (tB x8.Level)]), (2496, .rows 4 1 f5.length (f5.map Pv.encB))] mixed (.of rfl rfl) rfl rfl rfl rfl (.cons (.quiet rfl rfl rfl) (.cons (.quiet rfl rfl rfl) (.cons (.quiet rfl rfl rfl) (.cons (.quiet rfl rfl rfl) (.cons (.indexO (sz := 1) hx9 rfl rfl rfl rfl rfl rfl rfl rfl) (.cons (.loadY hx9 rfl rfl rfl rfl rfl rfl) (.cons (.quiet rfl rfl rfl) (.cons (.cast (congrArg T.B hg18) (.quiet rfl rfl rfl)) (.cons (.quiet rfl rfl rfl) (.cons (.quiet rfl rfl rfl) (.cons (.quiet rfl rfl rfl) (.cons (.quiet rfl rfl rfl) (.cons (.quiet rfl rfl rfl) (.cons (.index hx10 rfl rfl rfl rfl rfl rfl (fun _ => rfl)) (.cons (.quiet rfl rfl rfl) (.cons (.quiet rfl rfl rfl) (.cons (.cast (congrArg T.B hg19) (.quiet rfl rfl rfl)) (.cons (.quiet rfl rfl rfl) (.cons (.quiet rfl rfl rfl) (.cons (.quiet rfl rfl rfl) (.cons (.index hx10 rfl rfl rfl rfl rfl rfl (fun _ => rfl)) (.cons (.quiet rfl rfl rfl) (.cons (.quiet rfl rfl rfl) (.cons (.quiet rfl rfl rfl) (.cons (.quiet rfl rfl rfl) (.cons (.quiet rfl rfl rfl) (.cons (.quiet rfl rfl rfl) (.cons (.quiet rfl rfl rfl) (.nil))))))))))))))))))))))))))))) ?_
                      refine TieO.nil ?_
                      refine TieS.cond rfl ?_ ?_
                      · refine TieS.seq ?_
                        refine TieS.region ?_
                        refine TieO.run 1 rfl ?_
                        refine TieO.nil ?_
                        exact TieS.ret ⟨rfl, rfl⟩
                      · refine TieS.skip ?_
                        refine TieS.endb ?_
                        exact TieS.leaf ⟨rfl, .of rfl rfl⟩
                    · refine TieS.draw 28 [.ptr 15 3, .t (tB x8.Level), .own 2496, .t (tI i3), .pe 2496 (Int.toNat i3) 1 0, .t (tB x9), .t (tB (!(x8.Level == x9))), .t (tB false), .ptr 15 0, .t (tB x8.Armed), .ptr 2 1, .t (tS enc_SChannel t2.Channels), .t (tI i3), .el (enc_SChannel x10), .el (List.drop 0 (enc_SChannel x10)), .t (tB x10.Armed), .t (tB false), .t (.v undef), .t (.v undef), .t (.v undef), .t (.v undef), .t (.v undef), .t (.v undef), .t (.v undef), .t (.v undef), .t (tB false), .t (tB (!(x8.Armed == false))), .t (tB (!(x8.Armed == false)))] [(1, .t (tI v_to)), (2, .ptr 2 0), (8, .own 2496), (14, .t (tI i3)), (15, .ptr 15 0), (185, .t (tS enc_SChannel r2.1.Channels)), (186, .t (tI (r2.1.Channels.length : Int))), (187, .t (tI i3))] [(2, .box [.t (tI t2.Now), .t (tS enc_SChannel t2.Channels)]), (15, .box [.t (tB x8.Armed), .t (tI x8.At), .t (tB x8.Next), .t (tB x8.Level)]), (2496, .rows 4 1 f5.length (f5.map Pv.encB))] mixed (.of rfl rfl) rfl rfl rfl rfl (.cons (.quiet rfl rfl rfl) (.cons (.quiet rfl rfl rfl) (.cons (.quiet rfl rfl rfl) (.cons (.quiet rfl rfl rfl) (.cons (.indexO (sz := 1) hx9 rfl rfl rfl rfl rfl rfl rfl rfl) (.cons (.loadY hx9 rfl rfl rfl rfl rfl rfl) (.cons (.quiet rfl rfl rfl) (.cons (.cast (congrArg T.B hg18) (.quiet rfl rfl rfl)) (.cons (.quiet rfl rfl rfl) (.cons (.quiet rfl rfl rfl) (.cons (.quiet rfl rfl rfl) (.cons (.quiet rfl rfl rfl) (.cons (.quiet rfl rfl rfl) (.cons (.index hx10 rfl rfl rfl rfl rfl rfl (fun _ => rfl)) (.cons (.quiet rfl rfl rfl) (.cons (.quiet rfl rfl rfl) (.cons (.cast (congrArg T.B hg20) (.quiet rfl rfl rfl)) (.cons (.skip rfl) (.cons (.skip rfl) (.cons (.skip rfl) (.cons (.skip rfl) (.cons (.skip rfl) (.cons (.skip rfl) (.cons (.skip rfl) (.cons (.skip rfl) (.cons (.quiet rfl rfl rfl) (.cons (.quiet rfl rfl rfl) (.cons (.quiet rfl rfl rfl) (.nil))))))))))))))))))))))))))))) ?_
                      refine TieO.nil ?_
                      refine TieS.cond rfl ?_ ?_
                      · refine TieS.seq ?_
                        refine TieS.region ?_
                        refine TieO.run 1 rfl ?_
                        refine TieO.nil ?_
                        exact TieS.ret ⟨rfl, rfl⟩
                      · refine TieS.skip ?_
                        refine TieS.endb ?_
                        exact TieS.leaf ⟨rfl, .of rfl rfl⟩
                rintro (t | t | t) e σ' _ hq
                · obtain ⟨rfl, hs⟩ := hq
                  refine TieX.sub hs ?_
                  refine TieS.region ?_
                  refine TieO.run 2 rfl ?_
                  refine TieO.nil ?_
                  exact TieS.leaf ⟨rfl, .of rfl rfl⟩
                · obtain ⟨rfl, hs⟩ := hq
                  exact TieX.exitOut rfl ⟨(fun h => by cases h), rfl, hs⟩
                · obtain ⟨rfl, hs⟩ := hq
                  exact TieX.ret ⟨(fun h => by cases h), rfl, hs⟩
              · exact TieS.exitOut rfl ⟨(fun h => by cases h), rfl, .of rfl rfl⟩
            rintro (s2 | r3) e σ' _ hq
            · obtain ⟨rfl, hs⟩ := hq
              refine TieX.exit rfl (TieX.sub hs ?_)
              refine TieS.seq ?_
              refine TieS.region ?_
              refine TieO.run 1 rfl ?_
              refine TieO.nil ?_
              exact TieS.ret ⟨.inl rfl, rfl⟩
            · obtain ⟨rfl, hs⟩ := hq
              exact TieX.ret ⟨.inl rfl, hs⟩
          · obtain ⟨rfl, hs⟩ := hq
            exact TieX.ret ⟨.inl rfl, hs⟩
        · exact hq.elim
-- magneto/timer.Next
set_option maxRecDepth 100000 in
theorem tie_timer_Next (t2 : STimer) : TieF Try.prog 23 [A_STimer t2] (timer_Next t2) (fun r => .tup [.t (tI r.1), .t (tB r.2)]) := by
  refine TieF.intro htab 35 [.tmp 2, .tmp 3] Try.call23 Try.func23 rfl rfl rfl (Nat.le_of_ble_eq_true rfl) fun w0 L => ?_
  refine TieS.seq ?_
  refine TieS.region ?_
  refine TieO.run 3 rfl ?_
  refine TieO.nil ?_
  refine TieS.seq ?_
  refine TieS.seq ?_
  refine TieS.region ?_
  refine TieO.run 1 rfl ?_
  refine TieO.call _ rfl rfl rfl (tie_timer_Valid t2) (fun _ => rfl) fun v => ?_
  refine TieO.run 1 rfl ?_
  refine TieO.nil ?_
  refine TieS.cond rfl ?_ ?_
  · refine TieS.seq ?_
    refine TieS.region ?_
    refine TieO.run 2 rfl ?_
    refine TieO.nil ?_
    exact TieS.ret ⟨.inl rfl, rfl⟩
  · refine TieS.skip ?_
    refine TieS.seq ?_
    refine TieS.region ?_
    refine TieO.run 2 rfl ?_
    refine TieO.nil ?_
    refine TieS.seq ?_
    refine TieS.seq ?_
    refine TieS.region ?_
    refine TieO.run 4 rfl ?_
    refine TieO.nil ?_
    refine TieS.block ?_
    refine TieS.loop (fun p => ⟨[(4, .t (tI p.2.1)), (5, .t (tB p.2.2)), (12, .t (tS enc_SChannel t2.Channels)), (13, .t (tI (t2.Channels.length : Int))), (14, .t (tI p.1))], []⟩) (fun b e σ' => match b with | .inl t => e = .exit 0 ∧ Sub ⟨[(4, .t (tI t.1)), (5, .t (tB t.2))], []⟩ σ' | .inr t => False) (.of rfl rfl) ?_ ?_
    · rintro ⟨i, s⟩
      refine TieS.seq ?_
      refine TieS.region ?_
      refine TieO.run 1 rfl ?_
      refine TieO.nil ?_
      refine TieS.seq ?_
      refine TieS.cond rfl ?_ ?_
      · refine TieS.skip ?_
        refine TieS.seq ?_
        refine TieX.pre fun x hx => ?_
        refine TieX.sub (σ' := ⟨[(4, .t (tI s.1)), (5, .t (tB s.2)), (12, .t (tS enc_SChannel t2.Channels)), (13, .t (tI (t2.Channels.length : Int))), (14, .t (tI i))], []⟩) (.of rfl rfl) ?_
        refine TieS.bind (Q₁ := fun f e σ' => match f with | .next t => e = .normal ∧ Sub ⟨[(4, .t (tI t.1)), (5, .t (tB t.2)), (12, .t (tS enc_SChannel t2.Channels)), (13, .t (tI (t2.Channels.length : Int))), (14, .t (tI i))], []⟩ σ' | .brk t => e = .exit 0 ∧ Sub ⟨[(4, .t (tI t.1)), (5, .t (tB t.2))], []⟩ σ' | .ret r => False) ?_ ?_
        · refine TieS.block ?_
          refine TieS.seq ?_
          refine TieS.region ?_
          refine TieO.indexH hx rfl rfl rfl rfl rfl rfl rfl rfl (fun _ => rfl) ?_
          refine TieO.run 3 rfl ?_
          refine TieO.nil ?_
          refine TieS.seq ?_
          refine TieS.region ?_
          refine TieO.run 3 rfl ?_
          refine TieO.frzBox 7 rfl rfl ?_
          refine TieO.bind 9 (fun b2 => ⟨[(4, .t (tI s.1)), (5, .t (tB s.2)), (7, .el (enc_SChannel x)), (12, .t (tS enc_SChannel t2.Channels)), (13, .t (tI (t2.Channels.length : Int))), (14, .t (tI i)), (29, .t (tB b2))], []⟩) (TieO.split 20 rfl ?_ ?_) fun b2 _ => ?_
          · refine TieO.run 3 rfl ?_
            refine TieO.selOr (v := decide (x.At < s.1)) 5 23 (fun b => ⟨[(4, .t (tI s.1)), (5, .t (tB s.2)), (7, .el (enc_SChannel x)), (12, .t (tS enc_SChannel t2.Channels)), (13, .t (tI (t2.Channels.length : Int))), (14, .t (tI i)), (20, .t (tB true)), (28, .t (tB b))], []⟩) rfl ?_ ?_ ?_
            · refine TieO.run 5 rfl ?_
              refine TieO.nil ?_
              exact TieS.leaf ⟨rfl, .of rfl rfl⟩
            · refine TieO.run 5 rfl ?_
              refine TieO.nil ?_
              exact TieS.leaf ⟨rfl, .of rfl rfl⟩
            refine TieO.run 1 rfl ?_
            refine TieO.nil ?_
            exact TieS.leaf ⟨rfl, .of rfl rfl⟩
          · refine TieO.run 9 rfl ?_
            refine TieO.nil ?_
            exact TieS.leaf ⟨rfl, .of rfl rfl⟩
          refine TieO.nil ?_
          refine TieS.cond rfl ?_ ?_
          · refine TieS.region ?_
            refine TieO.run 4 rfl ?_
            refine TieO.nil ?_
            refine TieS.endb ?_
            exact TieS.leaf ⟨rfl, .of rfl rfl⟩
          · refine TieS.skip ?_
            refine TieS.endb ?_
            exact TieS.leaf ⟨rfl, .of rfl rfl⟩
        rintro (t | t | r) e σ' _ hq
        · obtain ⟨rfl, hs⟩ := hq
          refine TieX.sub hs ?_
          refine TieS.region ?_
          refine TieO.run 2 rfl ?_
          refine TieO.nil ?_
          exact TieS.leaf ⟨rfl, .of rfl rfl⟩
        · obtain ⟨rfl, hs⟩ := hq
          exact TieX.exitOut rfl ⟨(fun h => by cases h), rfl, hs⟩
        · exact hq.elim
      · exact TieS.exitOut rfl ⟨(fun h => by cases h), rfl, .of rfl rfl⟩
    rintro (s2 | r) e σ' _ hq
    · obtain ⟨rfl, hs⟩ := hq
      refine TieX.exit rfl (TieX.sub hs ?_)
      refine TieS.seq ?_
      refine TieS.region ?_
      refine TieO.run 4 rfl ?_
      refine TieO.nil ?_
      exact TieS.ret ⟨.inl rfl, rfl⟩
    · exact hq.elim
-- slices.Equal[[]magneto/api.Channel,magneto/api.Channel]
set_option maxRecDepth 100000 in
theorem tie_slices_Equal_sChannel (s1 : List SChannel) (s2 : List SChannel) : TieF Try.prog 26 [.t (tS enc_SChannel s1), .t (tS enc_SChannel s2)] (slices_Equal_sChannel s1 s2) (fun r => .t (tB r)) := by
  refine TieF.intro htab 26 [.tmp 4] Try.call26 Try.func26 rfl rfl rfl (Nat.le_of_ble_eq_true rfl) fun w0 L => ?_
  refine TieS.seq ?_
  refine TieS.region ?_
  refine TieO.run 1 rfl ?_
  refine TieO.nil ?_
  refine TieS.seq ?_
  refine TieS.seq ?_
  refine TieS.region ?_
  refine TieO.run 5 rfl ?_
  refine TieO.nil ?_
  refine TieS.cond rfl ?_ ?_
  · refine TieS.seq ?_
    refine TieS.region ?_
    refine TieO.run 1 rfl ?_
    refine TieO.nil ?_
    exact TieS.ret ⟨.inl rfl, rfl⟩
  · refine TieS.skip ?_
    refine TieS.seq ?_
    refine TieS.seq ?_
    refine TieS.region ?_
    refine TieO.run 3 rfl ?_
    refine TieO.nil ?_
    refine TieS.block ?_
    refine TieS.loop (fun p => ⟨[(0, .t (tS enc_SChannel s1)), (1, .t (tS enc_SChannel s2)), (12, .t (tI (s1.length : Int))), (13, .t (tI p.1))], []⟩) (fun b e σ' => match b with | .inl t => e = .exit 0 ∧ Sub ⟨[], []⟩ σ' | .inr t => e = .ret ∧ retT tab σ' [.tmp 4] = some (((fun r => .t (tB r)) : Bool → T) t)) (.of rfl rfl) ?_ ?_
    · rintro ⟨i, s⟩
      refine TieS.seq ?_
      refine TieS.region ?_
      refine TieO.run 1 rfl ?_
      refine TieO.nil ?_
      refine TieS.seq ?_
      refine TieS.cond rfl ?_ ?_
      · refine TieS.skip ?_
        refine TieS.seq ?_
        refine TieX.sub (σ' := ⟨[(0, .t (tS enc_SChannel s1)), (1, .t (tS enc_SChannel s2)), (12, .t (tI (s1.length : Int))), (13, .t (tI i))], []⟩) (.of rfl rfl) ?_
        refine TieS.bind (Q₁ := fun f e σ' => match f with | .next t => e = .normal ∧ Sub ⟨[(0, .t (tS enc_SChannel s1)), (1, .t (tS enc_SChannel s2)), (12, .t (tI (s1.length : Int))), (13, .t (tI i))], []⟩ σ' | .brk t => e = .exit 0 ∧ Sub ⟨[], []⟩ σ' | .ret t => e = .ret ∧ retT tab σ' [.tmp 4] = some (((fun r => .t (tB r)) : Bool → T) t)) ?_ ?_
        · refine TieS.block ?_
          refine TieS.seq ?_
          refine TieS.region ?_
          refine TieO.run 2 rfl ?_
          refine TieO.nil ?_
          refine TieS.seq ?_
          refine TieX.pre fun x hx => ?_
          refine TieX.pre fun x2 hx2 => ?_
          refine TieS.draw 9 [.t (tS enc_SChannel s1), .t (tI i), .el (enc_SChannel x), .agg [.t (tB x.Armed), .t (tI x.At), .t (tB x.Next), .t (tB x.Level)], .t (tS enc_SChannel s2), .t (tI i), .el (enc_SChannel x2), .agg [.t (tB x2.Armed), .t (tI x2.At), .t (tB x2.Next), .t (tB x2.Level)], .t (tB (!((x.Armed == x2.Armed) && ((x.At == x2.At) && ((x.Next == x2.Next) && ((x.Level == x2.Level) && true))))))] [(0, .t (tS enc_SChannel s1)), (1, .t (tS enc_SChannel s2)), (5, .t (tI i)), (12, .t (tI (s1.length : Int))), (13, .t (tI i))] [] mixed (.of rfl rfl) rfl rfl rfl rfl (.cons (.quiet rfl rfl rfl) (.cons (.quiet rfl rfl rfl) (.cons (.index hx rfl rfl rfl rfl rfl rfl (fun _ => rfl)) (.cons (.quiet rfl rfl rfl) (.cons (.quiet rfl rfl rfl) (.cons (.quiet rfl rfl rfl) (.cons (.index hx2 rfl rfl rfl rfl rfl rfl (fun _ => rfl)) (.cons (.quiet rfl rfl rfl) (.cons (.neS [.bool x.Armed, .int .i64 x.At, .bool x.Next, .bool x.Level] [.bool x2.Armed, .int .i64 x2.At, .bool x2.Next, .bool x2.Level] (eqv_33 x.Armed x.At x.Next x.Level x2.Armed x2.At x2.Next x2.Level) rfl rfl rfl rfl) (.nil)))))))))) ?_
          refine TieO.nil ?_
          refine TieS.cond rfl ?_ ?_
          · refine TieS.seq ?_
            refine TieS.region ?_
            refine TieO.run 1 rfl ?_
            refine TieO.nil ?_
            exact TieS.ret ⟨rfl, rfl⟩
          · refine TieS.skip ?_
            refine TieS.endb ?_
            exact TieS.leaf ⟨rfl, .of rfl rfl⟩
        rintro (t | t | t) e σ' _ hq
        · obtain ⟨rfl, hs⟩ := hq
          refine TieX.sub hs ?_
          refine TieS.region ?_
          refine TieO.run 2 rfl ?_
          refine TieO.nil ?_
          exact TieS.leaf ⟨rfl, .of rfl rfl⟩
        · obtain ⟨rfl, hs⟩ := hq
          exact TieX.exitOut rfl ⟨(fun h => by cases h), rfl, hs⟩
        · obtain ⟨rfl, hs⟩ := hq
          exact TieX.ret ⟨(fun h => by cases h), rfl, hs⟩
      · exact TieS.exitOut rfl ⟨(fun h => by cases h), rfl, .of rfl rfl⟩
    rintro (s3 | r2) e σ' _ hq
    · obtain ⟨rfl, hs⟩ := hq
      refine TieX.exit rfl (TieX.sub hs ?_)
      refine TieS.seq ?_
      refine TieS.region ?_
      refine TieO.run 1 rfl ?_
      refine TieO.nil ?_
      exact TieS.ret ⟨.inl rfl, rfl⟩
    · obtain ⟨rfl, hs⟩ := hq
      exact TieX.ret ⟨.inl rfl, hs⟩
-- magneto/magnetolaw24.TimerQuiet
set_option maxRecDepth 100000 in
theorem tie_magnetolaw24_TimerQuiet (t2 : STimer) (v_to : Int) : TieF Try.prog 8 [A_STimer t2, .t (tI v_to)] (magnetolaw24_TimerQuiet t2 v_to) (fun r => .t (tB r)) := by
  refine TieF.intro htab 119 [.tmp 4] Try.call8 Try.func8 rfl rfl rfl (Nat.le_of_ble_eq_true rfl) fun w0 L => ?_
  refine TieS.seq ?_
  refine TieS.region ?_
  refine TieO.run 2 rfl ?_
  refine TieO.nil ?_
  refine TieS.seq ?_
  refine TieS.seq ?_
  refine TieS.region ?_
  refine TieO.call _ rfl rfl rfl (tie_magnetolaw24_awake) (fun _ => rfl) fun v => ?_
  refine TieO.run 2 rfl ?_
  refine TieO.selOr (v := decide ((t2.Channels.length : Int) > 100)) 5 21 (fun b => ⟨[(1, .t (tI v_to)), (2, .ptr 2 0), (26, .t (tB b))], [(2, .box [.t (tI t2.Now), .t (tS enc_SChannel t2.Channels)])]⟩) rfl ?_ ?_ ?_
  · refine TieO.run 5 rfl ?_
    refine TieO.nil ?_
    exact TieS.leaf ⟨rfl, .of rfl rfl⟩
  · refine TieO.run 5 rfl ?_
    refine TieO.nil ?_
    exact TieS.leaf ⟨rfl, .of rfl rfl⟩
  refine TieO.run 1 rfl ?_
  refine TieO.bind 4 (fun b2 => ⟨[(1, .t (tI v_to)), (2, .ptr 2 0), (31, .t (tB b2))], [(2, .box [.t (tI t2.Now), .t (tS enc_SChannel t2.Channels)])]⟩) (TieO.split 27 rfl ?_ ?_) fun b2 _ => ?_
  · refine TieO.run 4 rfl ?_
    refine TieO.nil ?_
    exact TieS.leaf ⟨rfl, .of rfl rfl⟩
  · refine TieO.run 1 rfl ?_
    refine TieO.call _ rfl rfl rfl (tie_timer_Valid t2) (fun _ => rfl) fun v2 => ?_
    refine TieO.run 2 rfl ?_
    refine TieO.nil ?_
    exact TieS.leaf ⟨rfl, .of rfl rfl⟩
  refine TieO.nil ?_
  refine TieS.cond rfl ?_ ?_
  · refine TieS.seq ?_
    refine TieS.region ?_
    refine TieO.call _ rfl rfl rfl (tie_magnetolaw24_awake) (fun _ => rfl) fun v3 => ?_
    refine TieO.run 1 rfl ?_
    refine TieO.nil ?_
    exact TieS.ret ⟨.inl rfl, rfl⟩
  · refine TieS.skip ?_
    refine TieS.seq ?_
    refine TieS.region ?_
    refine TieO.run 1 rfl ?_
    refine TieO.call _ rfl rfl rfl (tie_timer_Next t2) (fun _ => rfl) fun r2 => ?_
    refine TieO.run 5 rfl ?_
    refine TieO.nil ?_
    refine TieS.seq ?_
    refine TieS.seq ?_
    refine TieS.region ?_
    refine TieO.run 1 rfl ?_
    refine TieO.nil ?_
    refine TieS.bind (Q₁ := fun t e σ' => match t with | .inl t => e = .normal ∧ Sub ⟨[(1, .t (tI v_to)), (2, .ptr 2 0)], [(2, .box [.t (tI t2.Now), .t (tS enc_SChannel t2.Channels)])]⟩ σ' | .inr t => e = .ret ∧ retT tab σ' [.tmp 4] = some (((fun r => .t (tB r)) : Bool → T) t)) ?_ ?_
    · refine TieS.cond rfl ?_ ?_
      · refine TieS.seq ?_
        refine TieS.region ?_
        refine TieO.run 3 rfl ?_
        refine TieO.call _ rfl rfl rfl (tie_timer_Advance t2 (w64 (r2.1 - 1))) (fun _ => rfl) fun r3 => ?_
        refine TieO.run 8 rfl ?_
        refine TieO.nil ?_
        refine TieS.seq ?_
        refine TieS.region ?_
        refine TieO.run 1 rfl ?_
        refine TieO.call _ rfl rfl rfl (tie_timer_Next r3.1) (fun _ => rfl) fun r4 => ?_
        refine TieO.run 5 rfl ?_
        refine TieO.nil ?_
        refine TieS.seq ?_
        refine TieS.region ?_
        refine TieO.run 3 rfl ?_
        refine TieO.selOr (v := ((r3.2.1.length : Int) != 0)) 4 54 (fun b => ⟨[(1, .t (tI v_to)), (2, .ptr 2 0), (5, .t (tI r2.1)), (7, .ptr 7 0), (10, .t (tI r4.1)), (11, .t (tB r4.2)), (58, .t (tB b))], [(2, .box [.t (tI t2.Now), .t (tS enc_SChannel t2.Channels)]), (7, .box [.t (tI r3.1.Now), .t (tS enc_SChannel r3.1.Channels)])]⟩) rfl ?_ ?_ ?_
        · refine TieO.run 4 rfl ?_
          refine TieO.nil ?_
          exact TieS.leaf ⟨rfl, .of rfl rfl⟩
        · refine TieO.run 4 rfl ?_
          refine TieO.nil ?_
          exact TieS.leaf ⟨rfl, .of rfl rfl⟩
        refine TieO.run 1 rfl ?_
        refine TieO.selOr (v := (!r4.2)) 3 59 (fun b => ⟨[(1, .t (tI v_to)), (2, .ptr 2 0), (5, .t (tI r2.1)), (7, .ptr 7 0), (10, .t (tI r4.1)), (62, .t (tB b))], [(2, .box [.t (tI t2.Now), .t (tS enc_SChannel t2.Channels)]), (7, .box [.t (tI r3.1.Now), .t (tS enc_SChannel r3.1.Channels)])]⟩) rfl ?_ ?_ ?_
        · refine TieO.run 3 rfl ?_
          refine TieO.nil ?_
          exact TieS.leaf ⟨rfl, .of rfl rfl⟩
        · refine TieO.run 3 rfl ?_
          refine TieO.nil ?_
          exact TieS.leaf ⟨rfl, .of rfl rfl⟩
        refine TieO.run 1 rfl ?_
        refine TieO.selOr (v := (r4.1 != r2.1)) 4 63 (fun b => ⟨[(1, .t (tI v_to)), (2, .ptr 2 0), (7, .ptr 7 0), (67, .t (tB b))], [(2, .box [.t (tI t2.Now), .t (tS enc_SChannel t2.Channels)]), (7, .box [.t (tI r3.1.Now), .t (tS enc_SChannel r3.1.Channels)])]⟩) rfl ?_ ?_ ?_
        · refine TieO.run 4 rfl ?_
          refine TieO.nil ?_
          exact TieS.leaf ⟨rfl, .of rfl rfl⟩
        · refine TieO.run 4 rfl ?_
          refine TieO.nil ?_
          exact TieS.leaf ⟨rfl, .of rfl rfl⟩
        refine TieO.run 1 rfl ?_
        refine TieO.bind 7 (fun b3 => ⟨[(1, .t (tI v_to)), (2, .ptr 2 0), (75, .t (tB b3))], [(2, .box [.t (tI t2.Now), .t (tS enc_SChannel t2.Channels)])]⟩) (TieO.split 68 rfl ?_ ?_) fun b3 _ => ?_
        · refine TieO.run 7 rfl ?_
          refine TieO.nil ?_
          exact TieS.leaf ⟨rfl, .of rfl rfl⟩
        · refine TieO.run 4 rfl ?_
          refine TieO.call _ rfl rfl rfl (tie_slices_Equal_sChannel r3.1.Channels t2.Channels) (fun _ => rfl) fun v4 => ?_
          refine TieO.run 2 rfl ?_
          refine TieO.nil ?_
          exact TieS.leaf ⟨rfl, .of rfl rfl⟩
        refine TieO.nil ?_
        refine TieS.cond rfl ?_ ?_
        · refine TieS.seq ?_
          refine TieS.region ?_
          refine TieO.run 1 rfl ?_
          refine TieO.nil ?_
          exact TieS.ret ⟨rfl, rfl⟩
        · refine TieS.skip ?_
          exact TieS.leaf ⟨rfl, .of rfl rfl⟩
      · refine TieS.skip ?_
        exact TieS.leaf ⟨rfl, .of rfl rfl⟩
    rintro (s | r9) e σ' _ hq
    · obtain ⟨rfl, hs⟩ := hq
      refine TieX.sub hs ?_
      refine TieS.seq ?_
      refine TieS.seq ?_
      refine TieS.region ?_
      refine TieO.run 4 rfl ?_
      refine TieO.nil ?_
      refine TieS.block ?_
      refine TieS.loop (fun p => ⟨[(1, .t (tI v_to)), (2, .ptr 2 0), (78, .t (tI (t2.Channels.length : Int))), (79, .t (tI p.1))], [(2, .box [.t (tI p.2.Now), .t (tS enc_SChannel p.2.Channels)])]⟩) (fun b e σ' => match b with | .inl t => e = .exit 0 ∧ Sub ⟨[(1, .t (tI v_to)), (2, .ptr 2 0)], [(2, .box [.t (tI t.Now), .t (tS enc_SChannel t.Channels)])]⟩ σ' | .inr t => e = .ret ∧ retT tab σ' [.tmp 4] = some (((fun r => .t (tB r)) : Bool → T) t)) (.of rfl rfl) ?_ ?_
      · rintro ⟨i, f2⟩
        refine TieS.seq ?_
        refine TieS.region ?_
        refine TieO.run 1 rfl ?_
        refine TieO.nil ?_
        refine TieS.seq ?_
        refine TieS.cond rfl ?_ ?_
        · refine TieS.skip ?_
          refine TieS.seq ?_
          refine TieX.sub (σ' := ⟨[(1, .t (tI v_to)), (2, .ptr 2 0), (78, .t (tI (t2.Channels.length : Int))), (79, .t (tI i))], [(2, .box [.t (tI f2.Now), .t (tS enc_SChannel f2.Channels)])]⟩) (.of rfl rfl) ?_
          refine TieS.bind (Q₁ := fun f e σ' => match f with | .next t => e = .normal ∧ Sub ⟨[(1, .t (tI v_to)), (2, .ptr 2 0), (78, .t (tI (t2.Channels.length : Int))), (79, .t (tI i))], [(2, .box [.t (tI t.Now), .t (tS enc_SChannel t.Channels)])]⟩ σ' | .brk t => e = .exit 0 ∧ Sub ⟨[(1, .t (tI v_to)), (2, .ptr 2 0)], [(2, .box [.t (tI t.Now), .t (tS enc_SChannel t.Channels)])]⟩ σ' | .ret t => e = .ret ∧ retT tab σ' [.tmp 4] = some (((fun r => .t (tB r)) : Bool → T) t)) ?_ ?_
          · refine TieS.block ?_
            refine TieS.seq ?_
            refine TieS.region ?_
            refine TieO.run 2 rfl ?_
            refine TieO.nil ?_
            refine TieS.seq ?_
            refine TieS.region ?_
            refine TieO.run 1 rfl ?_
            refine TieO.nil ?_
            refine TieS.seq ?_
            refine TieS.region ?_
            refine TieO.run 2 rfl ?_
            refine TieO.call _ rfl rfl rfl (tie_timer_Disarm f2 i) (fun _ => rfl) fun r5 => ?_
            refine TieO.run 5 rfl ?_
            refine TieO.nil ?_
            refine TieS.seq ?_
            refine TieS.region ?_
            refine TieO.run 2 rfl ?_
            refine TieO.nil ?_
            refine TieS.cond rfl ?_ ?_
            · refine TieS.seq ?_
              refine TieS.region ?_
              refine TieO.run 1 rfl ?_
              refine TieO.nil ?_
              exact TieS.ret ⟨rfl, rfl⟩
            · refine TieS.skip ?_
              refine TieS.endb ?_
              exact TieS.leaf ⟨rfl, .of rfl rfl⟩
          rintro (t | t | t) e σ' _ hq
          · obtain ⟨rfl, hs⟩ := hq
            refine TieX.sub hs ?_
            refine TieS.region ?_
            refine TieO.run 2 rfl ?_
            refine TieO.nil ?_
            exact TieS.leaf ⟨rfl, .of rfl rfl⟩
          · obtain ⟨rfl, hs⟩ := hq
            exact TieX.exitOut rfl ⟨(fun h => by cases h), rfl, hs⟩
          · obtain ⟨rfl, hs⟩ := hq
            exact TieX.ret ⟨(fun h => by cases h), rfl, hs⟩
        · exact TieS.exitOut rfl ⟨(fun h => by cases h), rfl, .of rfl rfl⟩
      rintro (f3 | r8) e σ' _ hq
      · obtain ⟨rfl, hs⟩ := hq
        refine TieX.exit rfl (TieX.sub hs ?_)
        refine TieS.seq ?_
        refine TieS.seq ?_
        refine TieS.region ?_
        refine TieO.run 1 rfl ?_
        refine TieO.call _ rfl rfl rfl (tie_timer_Next f3) (fun _ => rfl) fun r6 => ?_
        refine TieO.run 5 rfl ?_
        refine TieO.nil ?_
        refine TieS.seq ?_
        refine TieS.region ?_
        refine TieO.run 1 rfl ?_
        refine TieO.nil ?_
        refine TieS.cond rfl ?_ ?_
        · refine TieS.seq ?_
          refine TieS.region ?_
          refine TieO.run 1 rfl ?_
          refine TieO.nil ?_
          exact TieS.ret ⟨.inl rfl, rfl⟩
        · refine TieS.skip ?_
          refine TieS.seq ?_
          refine TieS.region ?_
          refine TieO.run 2 rfl ?_
          refine TieO.call _ rfl rfl rfl (tie_timer_Advance f3 v_to) (fun _ => rfl) fun r7 => ?_
          refine TieO.run 8 rfl ?_
          refine TieO.nil ?_
          refine TieS.seq ?_
          refine TieS.region ?_
          refine TieO.run 3 rfl ?_
          refine TieO.bind 3 (fun b4 => ⟨[(17, .t (tS enc_SSwitch r7.2.1)), (18, .t (tI r7.2.2)), (109, .t (tB b4))], []⟩) (TieO.split 106 rfl ?_ ?_) fun b4 _ => ?_
          · refine TieO.run 1 rfl ?_
            refine TieO.call _ rfl rfl rfl (tie_magnetolaw24_none r7.1) (fun _ => rfl) fun v5 => ?_
            refine TieO.run 1 rfl ?_
            refine TieO.nil ?_
            exact TieS.leaf ⟨rfl, .of rfl rfl⟩
          · refine TieO.run 3 rfl ?_
            refine TieO.nil ?_
            exact TieS.leaf ⟨rfl, .of rfl rfl⟩
          refine TieO.run 1 rfl ?_
          refine TieO.bind 8 (fun b5 => ⟨[(118, .t (tB b5))], []⟩) (TieO.split 110 rfl ?_ ?_) fun b5 _ => ?_
          · refine TieO.run 8 rfl ?_
            refine TieO.nil ?_
            exact TieS.leaf ⟨rfl, .of rfl rfl⟩
          · refine TieO.run 3 rfl ?_
            refine TieO.selAnd (v := ((r7.2.1.length : Int) == 0)) 4 113 (fun b => ⟨[(110, .t (tB false)), (117, .t (tB b))], []⟩) rfl ?_ ?_ ?_
            · refine TieO.run 4 rfl ?_
              refine TieO.nil ?_
              exact TieS.leaf ⟨rfl, .of rfl rfl⟩
            · refine TieO.run 4 rfl ?_
              refine TieO.nil ?_
              exact TieS.leaf ⟨rfl, .of rfl rfl⟩
            refine TieO.run 1 rfl ?_
            refine TieO.nil ?_
            exact TieS.leaf ⟨rfl, .of rfl rfl⟩
          refine TieO.run 1 rfl ?_
          refine TieO.nil ?_
          exact TieS.ret ⟨.inl rfl, rfl⟩
      · obtain ⟨rfl, hs⟩ := hq
        exact TieX.ret ⟨.inl rfl, hs⟩
    · obtain ⟨rfl, hs⟩ := hq
      exact TieX.ret ⟨.inl rfl, hs⟩
-- magneto/magnetoref24.Next
set_option maxRecDepth 100000 in
theorem tie_magnetoref24_Next (t2 : STimer) : TieF Try.prog 24 [A_STimer t2] (magnetoref24_Next t2) (fun r => .tup [.t (tI r.1), .t (tB r.2)]) := by
  refine TieF.intro htab 42 [.tmp 2, .tmp 3] Try.call24 Try.func24 rfl rfl rfl (Nat.le_of_ble_eq_true rfl) fun w0 L => ?_
  refine TieS.seq ?_
  refine TieS.region ?_
  refine TieO.run 3 rfl ?_
  refine TieO.nil ?_
  refine TieS.seq ?_
  refine TieS.region ?_
  refine TieO.run 2 rfl ?_
  refine TieO.nil ?_
  refine TieS.seq ?_
  refine TieS.seq ?_
  refine TieS.region ?_
  refine TieO.run 1 rfl ?_
  refine TieO.nil ?_
  refine TieS.block ?_
  refine TieX.frzBox 1 rfl rfl ?_
  refine TieS.loop (fun t => ⟨[(1, .el (enc_STimer t2)), (4, .t (tI t.1)), (5, .t (tB t.2.1)), (6, .t (tI t.2.2))], []⟩) (fun b e σ' => match b with | .inl t => e = .exit 0 ∧ Sub ⟨[(4, .t (tI t.1)), (5, .t (tB t.2.1))], []⟩ σ' | .inr t => False) (.of rfl rfl) ?_ ?_
  · intro s
    refine TieS.seq ?_
    refine TieS.seq ?_
    refine TieS.region ?_
    refine TieO.run 5 rfl ?_
    refine TieO.nil ?_
    refine TieS.cond rfl ?_ ?_
    · refine TieS.skip ?_
      refine TieS.seq ?_
      refine TieS.block ?_
      refine TieS.seq ?_
      refine TieS.region ?_
      refine TieO.run 3 rfl ?_
      refine TieO.index rfl rfl rfl rfl rfl rfl rfl rfl (fun _ => rfl) fun x hx => ?_
      refine TieO.run 3 rfl ?_
      refine TieO.bind 13 (fun b3 => ⟨[(1, .el (enc_STimer t2)), (4, .t (tI s.1)), (5, .t (tB s.2.1)), (6, .t (tI s.2.2)), (33, .t (tB b3))], []⟩) (TieO.split 20 rfl ?_ ?_) fun b3 _ => ?_
      · refine TieO.run 3 rfl ?_
        refine TieO.bind 9 (fun b2 => ⟨[(1, .el (enc_STimer t2)), (4, .t (tI s.1)), (5, .t (tB s.2.1)), (6, .t (tI s.2.2)), (20, .t (tB true)), (32, .t (tB b2))], []⟩) (TieO.split 23 rfl ?_ ?_) fun b2 _ => ?_
        · refine TieO.run 9 rfl ?_
          refine TieO.nil ?_
          exact TieS.leaf ⟨rfl, .of rfl rfl⟩
        · refine TieO.run 3 rfl ?_
          refine TieO.indexH hx rfl rfl rfl rfl rfl rfl rfl rfl (fun _ => rfl) ?_
          refine TieO.run 5 rfl ?_
          refine TieO.nil ?_
          exact TieS.leaf ⟨rfl, .of rfl rfl⟩
        refine TieO.run 1 rfl ?_
        refine TieO.nil ?_
        exact TieS.leaf ⟨rfl, .of rfl rfl⟩
      · refine TieO.run 13 rfl ?_
        refine TieO.nil ?_
        exact TieS.leaf ⟨rfl, .of rfl rfl⟩
      refine TieO.nil ?_
      refine TieS.cond rfl ?_ ?_
      · refine TieS.region ?_
        refine TieO.run 3 rfl ?_
        refine TieO.indexH hx rfl rfl rfl rfl rfl rfl rfl rfl (fun _ => rfl) ?_
        refine TieO.run 4 rfl ?_
        refine TieO.nil ?_
        refine TieS.endb ?_
        refine TieS.region ?_
        refine TieO.run 3 rfl ?_
        refine TieO.nil ?_
        exact TieS.leaf ⟨rfl, .of rfl rfl⟩
      · refine TieS.skip ?_
        refine TieS.endb ?_
        refine TieS.region ?_
        refine TieO.run 3 rfl ?_
        refine TieO.nil ?_
        exact TieS.leaf ⟨rfl, .of rfl rfl⟩
    · exact TieS.exitOut rfl ⟨(fun h => by cases h), rfl, .of rfl rfl⟩
  rintro (s2 | r) e σ' _ hq
  · obtain ⟨rfl, hs⟩ := hq
    refine TieX.exit rfl (TieX.sub hs ?_)
    refine TieS.seq ?_
    refine TieS.region ?_
    refine TieO.run 4 rfl ?_
    refine TieO.nil ?_
    exact TieS.ret ⟨.inl rfl, rfl⟩
  · exact hq.elim
-- magneto/magnetoref24.Advance
set_option maxRecDepth 100000 in
theorem tie_magnetoref24_Advance (t2 : STimer) (v_to : Int) : TieF Try.prog 25 [A_STimer t2, .t (tI v_to)] (magnetoref24_Advance t2 v_to) (fun r => .tup [A_STimer r.1, .t (tS enc_SSwitch r.2)]) := by
  refine TieF.intro htab 74 [.cell 4 24, .tmp 5] Try.call25 Try.func25 rfl rfl rfl (Nat.le_of_ble_eq_true rfl) fun w0 L => ?_
  refine TieS.seq ?_
  refine TieS.region ?_
  refine TieO.run 3 rfl ?_
  refine TieO.nil ?_
  refine TieS.seq ?_
  refine TieS.region ?_
  refine TieO.run 1 rfl ?_
  refine TieO.callG [] [(900000, 2096)] (fun v => ⟨[(0, .agg [.t (tI t2.Now), .t (tS enc_SChannel t2.Channels)]), (1, .t (tI v_to)), (2, .ptr 2 0), (4, .ptr 4 0), (5, .t (.v (.slice none 0 0))), (11, .agg [.t (tI t2.Now), .t (tS enc_SChannel t2.Channels)]), (12, .agg [.t (tI v.Now), .own 2096])], [(2, .box [.t (tI t2.Now), .t (tS enc_SChannel t2.Channels)]), (4, .box [.t (tI 0), .t (.v (.slice none 0 0))]), (2096, .rows 33 4 v.Channels.length (v.Channels.map enc_SChannel))]⟩) (tie_magnetoref24_Copy t2) rfl rfl rfl rfl rfl rfl rfl (fun _ => rfl) (fun _ => rfl) (fun _ => rfl) (fun _ => .of rfl rfl) fun v hv => ?_
  refine TieO.run 1 rfl ?_
  refine TieO.nil ?_
  refine TieS.seq ?_
  refine TieS.region ?_
  refine TieO.run 1 rfl ?_
  refine TieO.nil ?_
  refine TieS.seq ?_
  refine TieS.region ?_
  refine TieO.run 1 rfl ?_
  refine TieO.callS _ rfl rfl rfl (tie_magnetoref24_Next v) (fun _ => rfl) (fun _ => rfl) fun r2 => ?_
  refine TieO.run 5 rfl ?_
  refine TieO.nil ?_
  refine TieS.seq ?_
  refine TieS.block ?_
  refine TieX.nilP 6 2456 35 3 [] rfl rfl rfl rfl rfl ?_
  refine TieS.loop (fun t => ⟨[(1, .t (tI v_to)), (2, .ptr 2 0), (4, .ptr 4 0), (6, .own 2456), (7, .t (tI t.2.1)), (8, .t (tB t.2.2.1))], [(2, .box [.t (tI v.Now), .own 2096]), (4, .box [.t (tI 0), .t (.v (.slice none 0 0))]), (2096, .rows 33 4 t.2.2.2.length (t.2.2.2.map enc_SChannel)), (2456, .rows 35 3 t.1.length (t.1.map enc_SSwitch))]⟩) (fun b e σ' => match b with | .inl t => e = .exit 0 ∧ Sub ⟨[(1, .t (tI v_to)), (2, .ptr 2 0), (4, .ptr 4 0), (6, .own 2456)], [(2, .box [.t (tI v.Now), .own 2096]), (4, .box [.t (tI 0), .t (.v (.slice none 0 0))]), (2096, .rows 33 4 t.2.2.2.length (t.2.2.2.map enc_SChannel)), (2456, .rows 35 3 t.1.length (t.1.map enc_SSwitch))]⟩ σ' | .inr t => False) (.of rfl rfl) ?_ ?_
  · intro s
    refine TieS.seq ?_
    refine TieS.seq ?_
    refine TieS.region ?_
    refine TieO.run 2 rfl ?_
    refine TieO.selAnd (v := decide (s.2.1 ≤ v_to)) 4 19 (fun b => ⟨[(1, .t (tI v_to)), (2, .ptr 2 0), (4, .ptr 4 0), (6, .own 2456), (7, .t (tI s.2.1)), (23, .t (tB b))], [(2, .box [.t (tI v.Now), .own 2096]), (4, .box [.t (tI 0), .t (.v (.slice none 0 0))]), (2096, .rows 33 4 s.2.2.2.length (s.2.2.2.map enc_SChannel)), (2456, .rows 35 3 s.1.length (s.1.map enc_SSwitch))]⟩) rfl ?_ ?_ ?_
    · refine TieO.run 4 rfl ?_
      refine TieO.nil ?_
      exact TieS.leaf ⟨rfl, .of rfl rfl⟩
    · refine TieO.run 4 rfl ?_
      refine TieO.nil ?_
      exact TieS.leaf ⟨rfl, .of rfl rfl⟩
    refine TieO.nil ?_
    refine TieS.cond rfl ?_ ?_
    · refine TieS.skip ?_
      refine TieS.block ?_
      refine TieS.seq ?_
      refine TieS.seq ?_
      refine TieS.region ?_
      refine TieO.run 1 rfl ?_
      refine TieO.nil ?_
      refine TieS.block ?_
      refine TieS.loop (fun t => ⟨[(1, .t (tI v_to)), (2, .ptr 2 0), (4, .ptr 4 0), (6, .own 2456), (7, .t (tI s.2.1)), (9, .t (tI t.1))], [(2, .box [.t (tI v.Now), .own 2096]), (4, .box [.t (tI 0), .t (.v (.slice none 0 0))]), (2096, .rows 33 4 t.2.1.length (t.2.1.map enc_SChannel)), (2456, .rows 35 3 t.2.2.length (t.2.2.map enc_SSwitch))]⟩) (fun b e σ' => match b with | .inl t => e = .exit 2 ∧ Sub ⟨[(1, .t (tI v_to)), (2, .ptr 2 0), (4, .ptr 4 0), (6, .own 2456)], [(2, .box [.t (tI v.Now), .own 2096]), (4, .box [.t (tI 0), .t (.v (.slice none 0 0))]), (2096, .rows 33 4 t.2.1.length (t.2.1.map enc_SChannel)), (2456, .rows 35 3 t.2.2.length (t.2.2.map enc_SSwitch))]⟩ σ' | .inr t => False) (.of rfl rfl) ?_ ?_
      · intro s2
        refine TieS.seq ?_
        refine TieS.seq ?_
        refine TieS.region ?_
        refine TieO.run 5 rfl ?_
        refine TieO.nil ?_
        refine TieS.cond rfl ?_ ?_
        · refine TieS.skip ?_
          refine TieS.seq ?_
          refine TieS.block ?_
          refine TieS.seq ?_
          refine TieS.region ?_
          refine TieO.run 3 rfl ?_
          refine TieO.indexO rfl rfl rfl rfl rfl rfl rfl rfl rfl rfl fun x hx => ?_
          refine TieO.loadY hx rfl rfl rfl rfl rfl rfl rfl rfl ?_
          refine TieO.run 2 rfl ?_
          refine TieO.nil ?_
          refine TieS.seq ?_
          refine TieS.seq ?_
          refine TieS.region ?_
          refine TieO.run 4 rfl ?_
          refine TieO.selOr (v := (x.At != s.2.1)) 5 39 (fun b => ⟨[(1, .t (tI v_to)), (2, .ptr 2 0), (4, .ptr 4 0), (6, .own 2456), (7, .t (tI s.2.1)), (9, .t (tI s2.1)), (10, .ptr 10 0), (44, .t (tB b))], [(2, .box [.t (tI v.Now), .own 2096]), (4, .box [.t (tI 0), .t (.v (.slice none 0 0))]), (10, .box [.t (tB x.Armed), .t (tI x.At), .t (tB x.Next), .t (tB x.Level)]), (2096, .rows 33 4 s2.2.1.length (s2.2.1.map enc_SChannel)), (2456, .rows 35 3 s2.2.2.length (s2.2.2.map enc_SSwitch))]⟩) rfl ?_ ?_ ?_
          · refine TieO.run 5 rfl ?_
            refine TieO.nil ?_
            exact TieS.leaf ⟨rfl, .of rfl rfl⟩
          · refine TieO.run 5 rfl ?_
            refine TieO.nil ?_
            exact TieS.leaf ⟨rfl, .of rfl rfl⟩
          refine TieO.nil ?_
          refine TieS.cond rfl ?_ ?_
          · refine TieS.exit rfl ?_
            refine TieS.region ?_
            refine TieO.run 3 rfl ?_
            refine TieO.nil ?_
            exact TieS.leaf ⟨rfl, .of rfl rfl⟩
          · refine TieS.skip ?_
            refine TieS.seq ?_
            refine TieS.seq ?_
            refine TieS.region ?_
            refine TieO.run 5 rfl ?_
            refine TieO.nil ?_
            refine TieS.bind (Q₁ := fun t e σ' => e = .normal ∧ Sub ⟨[(1, .t (tI v_to)), (2, .ptr 2 0), (4, .ptr 4 0), (6, .own 2456), (7, .t (tI s.2.1)), (9, .t (tI s2.1)), (10, .ptr 10 0)], [(2, .box [.t (tI v.Now), .own 2096]), (4, .box [.t (tI 0), .t (.v (.slice none 0 0))]), (10, .box [.t (tB x.Armed), .t (tI x.At), .t (tB x.Next), .t (tB x.Level)]), (2096, .rows 33 4 s2.2.1.length (s2.2.1.map enc_SChannel)), (2456, .rows 35 3 t.length (t.map enc_SSwitch))]⟩ σ') ?_ ?_
            · refine TieS.cond rfl ?_ ?_
              · refine TieS.region ?_
                refine TieO.run 7 rfl ?_
                refine TieO.appendY (id := 2456) (l := s2.2.2) (r := ([(⟨s.2.1, s2.1, x.Next⟩ : SSwitch)] : List SSwitch)) (tm' := [(1, .t (tI v_to)), (2, .ptr 2 0), (4, .ptr 4 0), (7, .t (tI s.2.1)), (9, .t (tI s2.1)), (10, .ptr 10 0), (44, .t (tB ((!x.Armed) || (x.At != s.2.1)))), (45, .ptr 10 3), (46, .t (tB x.Level)), (47, .ptr 10 2), (48, .t (tB x.Next)), (49, .t (tB (!(x.Level == x.Next)))), (51, .t (tI s.2.1)), (52, .t (tI s2.1)), (53, .ptr 10 2), (54, .t (tB x.Next)), (55, .agg [.t (tI s.2.1), .t (tI s2.1), .t (tB x.Next)]), (56, .own 56)]) (hp' := [(2, .box [.t (tI v.Now), .own 2096]), (4, .box [.t (tI 0), .t (.v (.slice none 0 0))]), (10, .box [.t (tB x.Armed), .t (tI x.At), .t (tB x.Next), .t (tB x.Level)]), (56, .rows 35 3 ([(⟨s.2.1, s2.1, x.Next⟩ : SSwitch)] : List SSwitch).length (([(⟨s.2.1, s2.1, x.Next⟩ : SSwitch)] : List SSwitch).map enc_SSwitch)), (2096, .rows 33 4 s2.2.1.length (s2.2.1.map enc_SChannel))]) rfl rfl rfl rfl rfl rfl rfl (fun _ => rfl) (fun _ => rfl) (.inl ⟨rfl, rfl⟩) (.inr ⟨_, rfl, rfl⟩) (.of rfl rfl) rfl rfl rfl fun l => ?_
                refine TieO.run 1 rfl ?_
                refine TieO.nil ?_
                exact TieS.leaf ⟨rfl, .of rfl rfl⟩
              · refine TieS.skip ?_
                exact TieS.leaf ⟨rfl, .of rfl rfl⟩
            rintro f2 e σ' _ ⟨rfl, hs⟩
            refine TieX.sub hs ?_
            refine TieS.region ?_
            refine TieO.run 6 rfl ?_
            refine TieO.indexOH hx rfl rfl rfl rfl rfl rfl rfl rfl rfl rfl ?_
            refine TieO.storeY (⟨false, 0, false, x.Next⟩ : SChannel) [tB false, tI 0, tB false, tB x.Next] hx rfl rfl rfl rfl rfl rfl rfl rfl rfl rfl rfl rfl fun l2 hl2 => ?_
            refine TieO.nil ?_
            refine TieS.endb ?_
            refine TieS.region ?_
            refine TieO.run 3 rfl ?_
            refine TieO.nil ?_
            exact TieS.leaf ⟨rfl, .of rfl rfl⟩
        · exact TieS.exitOut rfl ⟨(fun h => by cases h), rfl, .of rfl rfl⟩
      rintro (s3 | r) e σ' _ hq
      · obtain ⟨rfl, hs⟩ := hq
        refine TieX.exit rfl (TieX.sub hs ?_)
        refine TieS.region ?_
        refine TieO.run 1 rfl ?_
        refine TieO.callS _ rfl rfl rfl (tie_magnetoref24_Next (⟨v.Now, s3.2.1⟩ : STimer)) (fun _ => rfl) (fun _ => rfl) fun r3 => ?_
        refine TieO.run 5 rfl ?_
        refine TieO.nil ?_
        refine TieS.endb ?_
        exact TieS.leaf ⟨rfl, .of rfl rfl⟩
      · exact hq.elim
    · exact TieS.exitOut rfl ⟨(fun h => by cases h), rfl, .of rfl rfl⟩
  rintro (s4 | r) e σ' _ hq
  · obtain ⟨rfl, hs⟩ := hq
    refine TieX.exit rfl (TieX.sub hs ?_)
    refine TieS.seq ?_
    refine TieS.region ?_
    refine TieO.run 3 rfl ?_
    refine TieO.nil ?_
    refine TieS.seq ?_
    refine TieS.region ?_
    refine TieO.run 4 rfl ?_
    refine TieO.nil ?_
    exact TieS.ret ⟨.inl rfl, rfl⟩
  · exact hq.elim
-- magneto/magnetolaw24.TimerAdvances
set_option maxRecDepth 100000 in
theorem tie_magnetolaw24_TimerAdvances (t2 : STimer) (v_to : Int) : TieF Try.prog 6 [A_STimer t2, .t (tI v_to)] (magnetolaw24_TimerAdvances t2 v_to) (fun r => .t (tB r)) := by
  refine TieF.intro htab 118 [.tmp 4] Try.call6 Try.func6 rfl rfl rfl (Nat.le_of_ble_eq_true rfl) fun w0 L => ?_
  refine TieS.seq ?_
  refine TieS.region ?_
  refine TieO.run 2 rfl ?_
  refine TieO.nil ?_
  refine TieS.seq ?_
  refine TieS.seq ?_
  refine TieS.region ?_
  refine TieO.call _ rfl rfl rfl (tie_magnetolaw24_awake) (fun _ => rfl) fun v => ?_
  refine TieO.run 2 rfl ?_
  refine TieO.selOr (v := decide ((t2.Channels.length : Int) > 100)) 5 16 (fun b => ⟨[(1, .t (tI v_to)), (2, .ptr 2 0), (21, .t (tB b))], [(2, .box [.t (tI t2.Now), .t (tS enc_SChannel t2.Channels)])]⟩) rfl ?_ ?_ ?_
  · refine TieO.run 5 rfl ?_
    refine TieO.nil ?_
    exact TieS.leaf ⟨rfl, .of rfl rfl⟩
  · refine TieO.run 5 rfl ?_
    refine TieO.nil ?_
    exact TieS.leaf ⟨rfl, .of rfl rfl⟩
  refine TieO.nil ?_
  refine TieS.cond rfl ?_ ?_
  · refine TieS.seq ?_
    refine TieS.region ?_
    refine TieO.call _ rfl rfl rfl (tie_magnetolaw24_awake) (fun _ => rfl) fun v2 => ?_
    refine TieO.run 1 rfl ?_
    refine TieO.nil ?_
    exact TieS.ret ⟨.inl rfl, rfl⟩
  · refine TieS.skip ?_
    refine TieS.seq ?_
    refine TieS.region ?_
    refine TieO.run 2 rfl ?_
    refine TieO.call _ rfl rfl rfl (tie_timer_Advance t2 v_to) (fun _ => rfl) fun r2 => ?_
    refine TieO.run 8 rfl ?_
    refine TieO.nil ?_
    refine TieS.seq ?_
    refine TieS.region ?_
    refine TieO.run 1 rfl ?_
    refine TieO.call _ rfl rfl rfl (tie_timer_Next t2) (fun _ => rfl) fun r3 => ?_
    refine TieO.run 5 rfl ?_
    refine TieO.nil ?_
    refine TieS.seq ?_
    refine TieS.seq ?_
    refine TieS.region ?_
    refine TieO.run 1 rfl ?_
    refine TieO.call _ rfl rfl rfl (tie_magnetoref24_Valid t2) (fun _ => rfl) fun v3 => ?_
    refine TieO.run 1 rfl ?_
    refine TieO.nil ?_
    refine TieS.cond rfl ?_ ?_
    · refine TieS.seq ?_
      refine TieS.region ?_
      refine TieO.run 1 rfl ?_
      refine TieO.call _ rfl rfl rfl (tie_magnetolaw24_none r2.1) (fun _ => rfl) fun v4 => ?_
      refine TieO.run 1 rfl ?_
      refine TieO.selAnd (v := ((r2.2.1.length : Int) == 0)) 4 40 (fun b => ⟨[(7, .t (tI r2.2.2)), (8, .t (tI r3.1)), (9, .t (tB r3.2)), (44, .t (tB b))], []⟩) rfl ?_ ?_ ?_
      · refine TieO.run 4 rfl ?_
        refine TieO.nil ?_
        exact TieS.leaf ⟨rfl, .of rfl rfl⟩
      · refine TieO.run 4 rfl ?_
        refine TieO.nil ?_
        exact TieS.leaf ⟨rfl, .of rfl rfl⟩
      refine TieO.run 1 rfl ?_
      refine TieO.selAnd (v := (r2.2.2 == 1)) 3 45 (fun b => ⟨[(8, .t (tI r3.1)), (9, .t (tB r3.2)), (48, .t (tB b))], []⟩) rfl ?_ ?_ ?_
      · refine TieO.run 3 rfl ?_
        refine TieO.nil ?_
        exact TieS.leaf ⟨rfl, .of rfl rfl⟩
      · refine TieO.run 3 rfl ?_
        refine TieO.nil ?_
        exact TieS.leaf ⟨rfl, .of rfl rfl⟩
      refine TieO.run 1 rfl ?_
      refine TieO.selAnd (v := (r3.1 == 0)) 3 49 (fun b => ⟨[(9, .t (tB r3.2)), (52, .t (tB b))], []⟩) rfl ?_ ?_ ?_
      · refine TieO.run 3 rfl ?_
        refine TieO.nil ?_
        exact TieS.leaf ⟨rfl, .of rfl rfl⟩
      · refine TieO.run 3 rfl ?_
        refine TieO.nil ?_
        exact TieS.leaf ⟨rfl, .of rfl rfl⟩
      refine TieO.run 1 rfl ?_
      refine TieO.selAnd (v := (!r3.2)) 3 53 (fun b => ⟨[(56, .t (tB b))], []⟩) rfl ?_ ?_ ?_
      · refine TieO.run 3 rfl ?_
        refine TieO.nil ?_
        exact TieS.leaf ⟨rfl, .of rfl rfl⟩
      · refine TieO.run 3 rfl ?_
        refine TieO.nil ?_
        exact TieS.leaf ⟨rfl, .of rfl rfl⟩
      refine TieO.run 1 rfl ?_
      refine TieO.nil ?_
      exact TieS.ret ⟨.inl rfl, rfl⟩
    · refine TieS.skip ?_
      refine TieS.seq ?_
      refine TieS.seq ?_
      refine TieS.region ?_
      refine TieO.run 1 rfl ?_
      refine TieO.call _ rfl rfl rfl (tie_magnetoref24_Next t2) (fun _ => rfl) fun r4 => ?_
      refine TieO.run 5 rfl ?_
      refine TieO.nil ?_
      refine TieS.seq ?_
      refine TieS.region ?_
      refine TieO.run 4 rfl ?_
      refine TieO.selOr (v := (!(r3.2 == r4.2))) 4 65 (fun b => ⟨[(1, .t (tI v_to)), (2, .ptr 2 0), (5, .ptr 5 0), (6, .t (tS enc_SSwitch r2.2.1)), (7, .t (tI r2.2.2)), (69, .t (tB b))], [(2, .box [.t (tI t2.Now), .t (tS enc_SChannel t2.Channels)]), (5, .box [.t (tI r2.1.Now), .t (tS enc_SChannel r2.1.Channels)])]⟩) rfl ?_ ?_ ?_
      · refine TieO.run 4 rfl ?_
        refine TieO.nil ?_
        exact TieS.leaf ⟨rfl, .of rfl rfl⟩
      · refine TieO.run 4 rfl ?_
        refine TieO.nil ?_
        exact TieS.leaf ⟨rfl, .of rfl rfl⟩
      refine TieO.nil ?_
      refine TieS.cond rfl ?_ ?_
      · refine TieS.seq ?_
        refine TieS.region ?_
        refine TieO.run 1 rfl ?_
        refine TieO.nil ?_
        exact TieS.ret ⟨.inl rfl, rfl⟩
      · refine TieS.skip ?_
        refine TieS.seq ?_
        refine TieS.block ?_
        refine TieS.seq ?_
        refine TieS.region ?_
        refine TieO.run 5 rfl ?_
        refine TieO.nil ?_
        refine TieS.cond rfl ?_ ?_
        · refine TieS.seq ?_
          refine TieS.region ?_
          refine TieO.run 1 rfl ?_
          refine TieO.call _ rfl rfl rfl (tie_magnetolaw24_none r2.1) (fun _ => rfl) fun v5 => ?_
          refine TieO.run 1 rfl ?_
          refine TieO.selAnd (v := ((r2.2.1.length : Int) == 0)) 4 77 (fun b => ⟨[(7, .t (tI r2.2.2)), (81, .t (tB b))], []⟩) rfl ?_ ?_ ?_
          · refine TieO.run 4 rfl ?_
            refine TieO.nil ?_
            exact TieS.leaf ⟨rfl, .of rfl rfl⟩
          · refine TieO.run 4 rfl ?_
            refine TieO.nil ?_
            exact TieS.leaf ⟨rfl, .of rfl rfl⟩
          refine TieO.run 1 rfl ?_
          refine TieO.selAnd (v := (r2.2.2 == 16)) 3 82 (fun b => ⟨[(85, .t (tB b))], []⟩) rfl ?_ ?_ ?_
          · refine TieO.run 3 rfl ?_
            refine TieO.nil ?_
            exact TieS.leaf ⟨rfl, .of rfl rfl⟩
          · refine TieO.run 3 rfl ?_
            refine TieO.nil ?_
            exact TieS.leaf ⟨rfl, .of rfl rfl⟩
          refine TieO.run 1 rfl ?_
          refine TieO.nil ?_
          exact TieS.ret ⟨.inl rfl, rfl⟩
        · refine TieS.seq ?_
          refine TieS.region ?_
          refine TieO.run 3 rfl ?_
          refine TieO.nil ?_
          refine TieS.cond rfl ?_ ?_
          · refine TieS.seq ?_
            refine TieS.region ?_
            refine TieO.run 1 rfl ?_
            refine TieO.call _ rfl rfl rfl (tie_magnetolaw24_none r2.1) (fun _ => rfl) fun v6 => ?_
            refine TieO.run 1 rfl ?_
            refine TieO.selAnd (v := ((r2.2.1.length : Int) == 0)) 4 91 (fun b => ⟨[(7, .t (tI r2.2.2)), (95, .t (tB b))], []⟩) rfl ?_ ?_ ?_
            · refine TieO.run 4 rfl ?_
              refine TieO.nil ?_
              exact TieS.leaf ⟨rfl, .of rfl rfl⟩
            · refine TieO.run 4 rfl ?_
              refine TieO.nil ?_
              exact TieS.leaf ⟨rfl, .of rfl rfl⟩
            refine TieO.run 1 rfl ?_
            refine TieO.selAnd (v := (r2.2.2 == 2)) 3 96 (fun b => ⟨[(99, .t (tB b))], []⟩) rfl ?_ ?_ ?_
            · refine TieO.run 3 rfl ?_
              refine TieO.nil ?_
              exact TieS.leaf ⟨rfl, .of rfl rfl⟩
            · refine TieO.run 3 rfl ?_
              refine TieO.nil ?_
              exact TieS.leaf ⟨rfl, .of rfl rfl⟩
            refine TieO.run 1 rfl ?_
            refine TieO.nil ?_
            exact TieS.ret ⟨.inl rfl, rfl⟩
          · refine TieS.skip ?_
            refine TieS.endb ?_
            refine TieS.seq ?_
            refine TieS.region ?_
            refine TieO.run 2 rfl ?_
            refine TieO.call _ rfl rfl rfl (tie_magnetoref24_Advance t2 v_to) (fun _ => rfl) fun r5 => ?_
            refine TieO.run 6 rfl ?_
            refine TieO.nil ?_
            refine TieS.seq ?_
            refine TieS.region ?_
            refine TieO.run 2 rfl ?_
            refine TieO.call _ rfl rfl rfl (tie_magnetoref24_Same r2.1 r5.1) (fun _ => rfl) fun v7 => ?_
            refine TieO.run 1 rfl ?_
            refine TieO.bind 4 (fun b2 => ⟨[(7, .t (tI r2.2.2)), (113, .t (tB b2))], []⟩) (TieO.split 109 rfl ?_ ?_) fun b2 _ => ?_
            · refine TieO.run 2 rfl ?_
              refine TieO.call _ rfl rfl rfl (tie_slices_Equal_sSwitch r2.2.1 r5.2) (fun _ => rfl) fun v8 => ?_
              refine TieO.run 1 rfl ?_
              refine TieO.nil ?_
              exact TieS.leaf ⟨rfl, .of rfl rfl⟩
            · refine TieO.run 4 rfl ?_
              refine TieO.nil ?_
              exact TieS.leaf ⟨rfl, .of rfl rfl⟩
            refine TieO.run 1 rfl ?_
            refine TieO.selAnd (v := (r2.2.2 == 0)) 3 114 (fun b => ⟨[(117, .t (tB b))], []⟩) rfl ?_ ?_ ?_
            · refine TieO.run 3 rfl ?_
              refine TieO.nil ?_
              exact TieS.leaf ⟨rfl, .of rfl rfl⟩
            · refine TieO.run 3 rfl ?_
              refine TieO.nil ?_
              exact TieS.leaf ⟨rfl, .of rfl rfl⟩
            refine TieO.run 1 rfl ?_
            refine TieO.nil ?_
            exact TieS.ret ⟨.inl rfl, rfl⟩
-- magneto/magnetolaw24.TimerScripts
set_option maxRecDepth 100000 in
set_option maxHeartbeats 4000000 in
theorem tie_magnetolaw24_TimerScripts (n2 : Int) (script : List Smagnetolaw24_Op) : TieF Try.prog 7 [.t (tK .u8 n2), .t (tS enc_Smagnetolaw24_Op script)] (magnetolaw24_TimerScripts n2 script) (fun r => .t (tB r)) := by
  refine TieF.intro htab 190 [.tmp 4] Try.call7 Try.func7 rfl rfl rfl (Nat.le_of_ble_eq_true rfl) fun w0 L => ?_
  refine TieS.seq ?_
  refine TieS.region ?_
  refine TieO.run 1 rfl ?_
  refine TieO.nil ?_
  refine TieS.seq ?_
  refine TieS.seq ?_
  refine TieS.region ?_
  refine TieO.call _ rfl rfl rfl (tie_magnetolaw24_awake) (fun _ => rfl) fun v => ?_
  refine TieO.run 2 rfl ?_
  refine TieO.selOr (v := decide ((script.length : Int) > 60)) 4 21 (fun b => ⟨[(0, .t (tK .u8 n2)), (1, .t (tS enc_Smagnetolaw24_Op script)), (25, .t (tB b))], []⟩) rfl ?_ ?_ ?_
  · refine TieO.run 4 rfl ?_
    refine TieO.nil ?_
    exact TieS.leaf ⟨rfl, .of rfl rfl⟩
  · refine TieO.run 4 rfl ?_
    refine TieO.nil ?_
    exact TieS.leaf ⟨rfl, .of rfl rfl⟩
  refine TieO.nil ?_
  refine TieS.cond rfl ?_ ?_
  · refine TieS.seq ?_
    refine TieS.region ?_
    refine TieO.call _ rfl rfl rfl (tie_magnetolaw24_awake) (fun _ => rfl) fun v2 => ?_
    refine TieO.run 1 rfl ?_
    refine TieO.nil ?_
    exact TieS.ret ⟨.inl rfl, rfl⟩
  · refine TieS.skip ?_
    refine TieS.seq ?_
    refine TieS.region ?_
    refine TieO.run 5 rfl ?_
    refine TieO.nil ?_
    refine TieS.seq ?_
    refine TieS.region ?_
    refine TieO.run 1 rfl ?_
    refine TieO.call _ rfl rfl rfl (tie_timer_New (w64 (1 + (Int.tmod (w64 n2) 16)))) (fun _ => rfl) fun r2 => ?_
    refine TieO.run 6 rfl ?_
    refine TieO.nil ?_
    refine TieS.seq ?_
    refine TieS.seq ?_
    refine TieS.region ?_
    refine TieO.run 3 rfl ?_
    refine TieO.selOr (v := ((r2.1.Channels.length : Int) != (w64 (1 + (Int.tmod (w64 n2) 16))))) 6 38 (fun b => ⟨[(1, .t (tS enc_Smagnetolaw24_Op script)), (5, .t (tI (w64 (1 + (Int.tmod (w64 n2) 16))))), (6, .ptr 6 0), (44, .t (tB b))], [(6, .box [.t (tI r2.1.Now), .t (tS enc_SChannel r2.1.Channels)])]⟩) rfl ?_ ?_ ?_
    · refine TieO.run 6 rfl ?_
      refine TieO.nil ?_
      exact TieS.leaf ⟨rfl, .of rfl rfl⟩
    · refine TieO.run 6 rfl ?_
      refine TieO.nil ?_
      exact TieS.leaf ⟨rfl, .of rfl rfl⟩
    refine TieO.nil ?_
    refine TieS.cond rfl ?_ ?_
    · refine TieS.seq ?_
      refine TieS.region ?_
      refine TieO.run 1 rfl ?_
      refine TieO.nil ?_
      exact TieS.ret ⟨.inl rfl, rfl⟩
    · refine TieS.skip ?_
      refine TieS.seq ?_
      refine TieS.region ?_
      refine TieO.run 1 rfl ?_
      refine TieO.makeO (enc := Pv.encB) 2368 false rfl rfl rfl rfl rfl rfl rfl rfl rfl rfl rfl rfl rfl fun l hl => ?_
      refine TieO.run 1 rfl ?_
      refine TieO.nil ?_
      refine TieS.seq ?_
      refine TieS.region ?_
      refine TieO.run 1 rfl ?_
      refine TieO.nil ?_
      refine TieS.seq ?_
      refine TieS.seq ?_
      refine TieS.region ?_
      refine TieO.run 3 rfl ?_
      refine TieO.nil ?_
      refine TieS.block ?_
      refine TieS.loop (fun p => ⟨[(5, .t (tI (w64 (1 + (Int.tmod (w64 n2) 16))))), (6, .ptr 6 0), (8, .own 2368), (9, .t (tI p.2.1)), (47, .t (tS enc_Smagnetolaw24_Op script)), (48, .t (tI (script.length : Int))), (49, .t (tI p.1))], [(6, .box [.t (tI p.2.2.1.Now), .t (tS enc_SChannel p.2.2.1.Channels)]), (2368, .rows 4 1 p.2.2.2.length (p.2.2.2.map Pv.encB))]⟩) (fun b e σ' => match b with | .inl t => e = .exit 0 ∧ Sub ⟨[], []⟩ σ' | .inr t => e = .ret ∧ retT tab σ' [.tmp 4] = some (((fun r => .t (tB r)) : Bool → T) t)) (.of rfl rfl) ?_ ?_
      · rintro ⟨i, s⟩
        refine TieS.seq ?_
        refine TieS.region ?_
        refine TieO.run 1 rfl ?_
        refine TieO.nil ?_
        refine TieS.seq ?_
        refine TieS.cond rfl ?_ ?_
        · refine TieS.skip ?_
          refine TieS.seq ?_
          refine TieX.pre fun x hx => ?_
          refine TieX.sub (σ' := ⟨[(5, .t (tI (w64 (1 + (Int.tmod (w64 n2) 16))))), (6, .ptr 6 0), (8, .own 2368), (9, .t (tI s.1)), (47, .t (tS enc_Smagnetolaw24_Op script)), (48, .t (tI (script.length : Int))), (49, .t (tI i))], [(6, .box [.t (tI s.2.1.Now), .t (tS enc_SChannel s.2.1.Channels)]), (2368, .rows 4 1 s.2.2.length (s.2.2.map Pv.encB))]⟩) (.of rfl rfl) ?_
          refine TieS.bind (Q₁ := fun f e σ' => match f with | .next t => e = .normal ∧ Sub ⟨[(5, .t (tI (w64 (1 + (Int.tmod (w64 n2) 16))))), (6, .ptr 6 0), (8, .own 2368), (9, .t (tI t.1)), (47, .t (tS enc_Smagnetolaw24_Op script)), (48, .t (tI (script.length : Int))), (49, .t (tI i))], [(6, .box [.t (tI t.2.1.Now), .t (tS enc_SChannel t.2.1.Channels)]), (2368, .rows 4 1 t.2.2.length (t.2.2.map Pv.encB))]⟩ σ' | .brk t => e = .exit 0 ∧ Sub ⟨[], []⟩ σ' | .ret t => e = .ret ∧ retT tab σ' [.tmp 4] = some (((fun r => .t (tB r)) : Bool → T) t)) ?_ ?_
          · refine TieS.block ?_
            refine TieS.seq ?_
            refine TieS.region ?_
            refine TieO.indexH hx rfl rfl rfl rfl rfl rfl rfl rfl (fun _ => rfl) ?_
            refine TieO.run 3 rfl ?_
            refine TieO.nil ?_
            refine TieS.seq ?_
            refine TieS.region ?_
            refine TieO.run 5 rfl ?_
            refine TieO.nil ?_
            refine TieS.seq ?_
            refine TieS.seq ?_
            refine TieS.region ?_
            refine TieO.run 2 rfl ?_
            refine TieO.nil ?_
            refine TieS.bind (Q₁ := fun t e σ' => e = .normal ∧ Sub ⟨[(5, .t (tI (w64 (1 + (Int.tmod (w64 n2) 16))))), (6, .ptr 6 0), (8, .own 2368), (9, .t (tI s.1)), (11, .ptr 11 0), (12, .ptr 12 0), (13, .t (tS enc_SSwitch t.1)), (14, .t (tI t.2.1)), (47, .t (tS enc_Smagnetolaw24_Op script)), (48, .t (tI (script.length : Int))), (49, .t (tI i))], [(6, .box [.t (tI s.2.1.Now), .t (tS enc_SChannel s.2.1.Channels)]), (11, .box [.t (tI x.Kind), .t (tI x.Channel), .t (tI x.At), .t (tB x.Level)]), (12, .box [.t (tI t.2.2.Now), .t (tS enc_SChannel t.2.2.Channels)]), (2368, .rows 4 1 s.2.2.length (s.2.2.map Pv.encB))]⟩ σ') ?_ ?_
            · refine TieS.block ?_
              refine TieS.seq ?_
              refine TieS.region ?_
              refine TieO.run 2 rfl ?_
              refine TieO.nil ?_
              refine TieS.cond rfl ?_ ?_
              · refine TieS.region ?_
                refine TieO.run 7 rfl ?_
                refine TieO.call _ rfl rfl rfl (tie_timer_Arm s.2.1 x.Channel x.At x.Level) (fun _ => rfl) fun r3 => ?_
                refine TieO.run 5 rfl ?_
                refine TieO.nil ?_
                refine TieS.endb ?_
                exact TieS.leaf ⟨rfl, .of rfl rfl⟩
              · refine TieS.seq ?_
                refine TieS.region ?_
                refine TieO.run 2 rfl ?_
                refine TieO.nil ?_
                refine TieS.cond rfl ?_ ?_
                · refine TieS.region ?_
                  refine TieO.run 3 rfl ?_
                  refine TieO.call _ rfl rfl rfl (tie_timer_Disarm s.2.1 x.Channel) (fun _ => rfl) fun r4 => ?_
                  refine TieO.run 5 rfl ?_
                  refine TieO.nil ?_
                  refine TieS.endb ?_
                  exact TieS.leaf ⟨rfl, .of rfl rfl⟩
                · refine TieS.seq ?_
                  refine TieS.region ?_
                  refine TieO.run 2 rfl ?_
                  refine TieO.nil ?_
                  refine TieS.cond rfl ?_ ?_
                  · refine TieS.region ?_
                    refine TieO.run 3 rfl ?_
                    refine TieO.call _ rfl rfl rfl (tie_timer_Advance s.2.1 x.At) (fun _ => rfl) fun r5 => ?_
                    refine TieO.run 7 rfl ?_
                    refine TieO.nil ?_
                    refine TieS.endb ?_
                    exact TieS.leaf ⟨rfl, .of rfl rfl⟩
                  · refine TieS.seq ?_
                    refine TieS.region ?_
                    refine TieO.run 2 rfl ?_
                    refine TieO.nil ?_
                    refine TieS.cond rfl ?_ ?_
                    · refine TieS.region ?_
                      refine TieO.run 5 rfl ?_
                      refine TieO.call _ rfl rfl rfl (tie_timer_Force s.2.1 x.Channel x.Level) (fun _ => rfl) fun r6 => ?_
                      refine TieO.run 7 rfl ?_
                      refine TieO.nil ?_
                      refine TieS.endb ?_
                      exact TieS.leaf ⟨rfl, .of rfl rfl⟩
                    · refine TieS.skip ?_
                      refine TieS.endb ?_
                      exact TieS.leaf ⟨rfl, .of rfl rfl⟩
            rintro s2 e σ' _ ⟨rfl, hs⟩
            refine TieX.sub hs ?_
            refine TieS.seq ?_
            refine TieS.seq ?_
            refine TieS.region ?_
            refine TieO.run 2 rfl ?_
            refine TieO.nil ?_
            refine TieS.cond rfl ?_ ?_
            · refine TieS.seq ?_
              refine TieS.seq ?_
              refine TieS.region ?_
              refine TieO.run 4 rfl ?_
              refine TieO.selAnd (v := decide (x.Kind ≥ 0)) 4 105 (fun b => ⟨[(5, .t (tI (w64 (1 + (Int.tmod (w64 n2) 16))))), (6, .ptr 6 0), (8, .own 2368), (9, .t (tI s.1)), (12, .ptr 12 0), (47, .t (tS enc_Smagnetolaw24_Op script)), (48, .t (tI (script.length : Int))), (49, .t (tI i)), (109, .t (tB b))], [(6, .box [.t (tI s.2.1.Now), .t (tS enc_SChannel s.2.1.Channels)]), (12, .box [.t (tI s2.2.2.Now), .t (tS enc_SChannel s2.2.2.Channels)]), (2368, .rows 4 1 s.2.2.length (s.2.2.map Pv.encB))]⟩) rfl ?_ ?_ ?_
              · refine TieO.run 4 rfl ?_
                refine TieO.nil ?_
                exact TieS.leaf ⟨rfl, .of rfl rfl⟩
              · refine TieO.run 4 rfl ?_
                refine TieO.nil ?_
                exact TieS.leaf ⟨rfl, .of rfl rfl⟩
              refine TieO.run 1 rfl ?_
              refine TieO.bind 4 (fun b2 => ⟨[(5, .t (tI (w64 (1 + (Int.tmod (w64 n2) 16))))), (6, .ptr 6 0), (8, .own 2368), (9, .t (tI s.1)), (47, .t (tS enc_Smagnetolaw24_Op script)), (48, .t (tI (script.length : Int))), (49, .t (tI i)), (114, .t (tB b2))], [(6, .box [.t (tI s.2.1.Now), .t (tS enc_SChannel s.2.1.Channels)]), (2368, .rows 4 1 s.2.2.length (s.2.2.map Pv.encB))]⟩) (TieO.split 110 rfl ?_ ?_) fun b2 _ => ?_
              · refine TieO.run 1 rfl ?_
                refine TieO.call _ rfl rfl rfl (tie_magnetolaw24_none s2.2.2) (fun _ => rfl) fun v3 => ?_
                refine TieO.run 2 rfl ?_
                refine TieO.nil ?_
                exact TieS.leaf ⟨rfl, .of rfl rfl⟩
              · refine TieO.run 4 rfl ?_
                refine TieO.nil ?_
                exact TieS.leaf ⟨rfl, .of rfl rfl⟩
              refine TieO.nil ?_
              refine TieS.cond rfl ?_ ?_
              · refine TieS.seq ?_
                refine TieS.region ?_
                refine TieO.run 1 rfl ?_
                refine TieO.nil ?_
                exact TieS.ret ⟨rfl, rfl⟩
              · refine TieS.skip ?_
                refine TieS.exit rfl ?_
                exact TieS.leaf ⟨rfl, .of rfl rfl⟩
            · refine TieS.skip ?_
              refine TieS.seq ?_
              refine TieS.region ?_
              refine TieO.run 2 rfl ?_
              refine TieO.nil ?_
              refine TieS.seq ?_
              refine TieS.seq ?_
              refine TieS.region ?_
              refine TieO.run 1 rfl ?_
              refine TieO.call _ rfl rfl rfl (tie_timer_Valid s2.2.2) (fun _ => rfl) fun v4 => ?_
              refine TieO.run 2 rfl ?_
              refine TieO.selOr (v := ((s2.2.2.Channels.length : Int) != (w64 (1 + (Int.tmod (w64 n2) 16))))) 6 119 (fun b => ⟨[(5, .t (tI (w64 (1 + (Int.tmod (w64 n2) 16))))), (6, .ptr 6 0), (8, .own 2368), (9, .t (tI s.1)), (13, .t (tS enc_SSwitch s2.1)), (47, .t (tS enc_Smagnetolaw24_Op script)), (48, .t (tI (script.length : Int))), (49, .t (tI i)), (125, .t (tB b))], [(6, .box [.t (tI s2.2.2.Now), .t (tS enc_SChannel s2.2.2.Channels)]), (2368, .rows 4 1 s.2.2.length (s.2.2.map Pv.encB))]⟩) rfl ?_ ?_ ?_
              · refine TieO.run 6 rfl ?_
                refine TieO.nil ?_
                exact TieS.leaf ⟨rfl, .of rfl rfl⟩
              · refine TieO.run 6 rfl ?_
                refine TieO.nil ?_
                exact TieS.leaf ⟨rfl, .of rfl rfl⟩
              refine TieO.nil ?_
              refine TieS.cond rfl ?_ ?_
              · refine TieS.seq ?_
                refine TieS.region ?_
                refine TieO.run 1 rfl ?_
                refine TieO.nil ?_
                exact TieS.ret ⟨rfl, rfl⟩
              · refine TieS.skip ?_
                refine TieS.seq ?_
                refine TieS.seq ?_
                refine TieS.region ?_
                refine TieO.run 3 rfl ?_
                refine TieO.nil ?_
                refine TieS.block ?_
                refine TieS.loop (fun p => ⟨[(5, .t (tI (w64 (1 + (Int.tmod (w64 n2) 16))))), (6, .ptr 6 0), (8, .own 2368), (9, .t (tI p.2.1)), (47, .t (tS enc_Smagnetolaw24_Op script)), (48, .t (tI (script.length : Int))), (49, .t (tI i)), (126, .t (tS enc_SSwitch s2.1)), (127, .t (tI (s2.1.length : Int))), (128, .t (tI p.1))], [(6, .box [.t (tI s2.2.2.Now), .t (tS enc_SChannel s2.2.2.Channels)]), (2368, .rows 4 1 p.2.2.length (p.2.2.map Pv.encB))]⟩) (fun b e σ' => match b with | .inl t => e = .exit 3 ∧ Sub ⟨[(5, .t (tI (w64 (1 + (Int.tmod (w64 n2) 16))))), (6, .ptr 6 0), (8, .own 2368), (9, .t (tI t.1)), (47, .t (tS enc_Smagnetolaw24_Op script)), (48, .t (tI (script.length : Int))), (49, .t (tI i))], [(6, .box [.t (tI s2.2.2.Now), .t (tS enc_SChannel s2.2.2.Channels)]), (2368, .rows 4 1 t.2.length (t.2.map Pv.encB))]⟩ σ' | .inr t => e = .ret ∧ retT tab σ' [.tmp 4] = some (((fun r => .t (tB r)) : Bool → T) t)) (.of rfl rfl) ?_ ?_
                · rintro ⟨i2, s3⟩
                  refine TieS.seq ?_
                  refine TieS.region ?_
                  refine TieO.run 1 rfl ?_
                  refine TieO.nil ?_
                  refine TieS.seq ?_
                  refine TieS.cond rfl ?_ ?_
                  · refine TieS.skip ?_
                    refine TieS.seq ?_
                    refine TieX.pre fun x2 hx2 => ?_
                    refine TieX.sub (σ' := ⟨[(5, .t (tI (w64 (1 + (Int.tmod (w64 n2) 16))))), (6, .ptr 6 0), (8, .own 2368), (9, .t (tI s3.1)), (47, .t (tS enc_Smagnetolaw24_Op script)), (48, .t (tI (script.length : Int))), (49, .t (tI i)), (126, .t (tS enc_SSwitch s2.1)), (127, .t (tI (s2.1.length : Int))), (128, .t (tI i2))], [(6, .box [.t (tI s2.2.2.Now), .t (tS enc_SChannel s2.2.2.Channels)]), (2368, .rows 4 1 s3.2.length (s3.2.map Pv.encB))]⟩) (.of rfl rfl) ?_
                    refine TieS.bind (Q₁ := fun f e σ' => match f with | .next t => e = .normal ∧ Sub ⟨[(5, .t (tI (w64 (1 + (Int.tmod (w64 n2) 16))))), (6, .ptr 6 0), (8, .own 2368), (9, .t (tI t.1)), (47, .t (tS enc_Smagnetolaw24_Op script)), (48, .t (tI (script.length : Int))), (49, .t (tI i)), (126, .t (tS enc_SSwitch s2.1)), (127, .t (tI (s2.1.length : Int))), (128, .t (tI i2))], [(6, .box [.t (tI s2.2.2.Now), .t (tS enc_SChannel s2.2.2.Channels)]), (2368, .rows 4 1 t.2.length (t.2.map Pv.encB))]⟩ σ' | .brk t => e = .exit 3 ∧ Sub ⟨[(5, .t (tI (w64 (1 + (Int.tmod (w64 n2) 16))))), (6, .ptr 6 0), (8, .own 2368), (9, .t (tI t.1)), (47, .t (tS enc_Smagnetolaw24_Op script)), (48, .t (tI (script.length : Int))), (49, .t (tI i))], [(6, .box [.t (tI s2.2.2.Now), .t (tS enc_SChannel s2.2.2.Channels)]), (2368, .rows 4 1 t.2.length (t.2.map Pv.encB))]⟩ σ' | .ret t => e = .ret ∧ retT tab σ' [.tmp 4] = some (((fun r => .t (tB r)) : Bool → T) t)) ?_ ?_
                    · refine TieS.block ?_
                      refine TieS.seq ?_
                      refine TieS.region ?_
                      refine TieO.indexH hx2 rfl rfl rfl rfl rfl rfl rfl rfl (fun _ => rfl) ?_
                      refine TieO.run 3 rfl ?_
                      refine TieO.nil ?_
                      refine TieS.seq ?_
                      refine TieS.seq ?_
                      refine TieS.bind (Q₁ := fun t e σ' => e = .normal ∧ Sub ⟨[(5, .t (tI (w64 (1 + (Int.tmod (w64 n2) 16))))), (6, .ptr 6 0), (8, .own 2368), (16, .ptr 16 0), (47, .t (tS enc_Smagnetolaw24_Op script)), (48, .t (tI (script.length : Int))), (49, .t (tI i)), (126, .t (tS enc_SSwitch s2.1)), (127, .t (tI (s2.1.length : Int))), (128, .t (tI i2)), (163, .t (tB t))], [(6, .box [.t (tI s2.2.2.Now), .t (tS enc_SChannel s2.2.2.Channels)]), (16, .box [.t (tI x2.At), .t (tI x2.Channel), .t (tB x2.Level)]), (2368, .rows 4 1 s3.2.length (s3.2.map Pv.encB))]⟩ σ') ?_ ?_
                      · refine TieX.split (fun hg => ?_) (fun hg2 => ?_)
                        · refine TieS.draw 32 [.ptr 16 1, .t (tI x2.Channel), .t (tB (decide (x2.Channel < 0))), .t (tB true), .t (.v undef), .t (.v undef), .t (.v undef), .t (.v undef), .t (tB true), .t (tB true), .t (.v undef), .t (.v undef), .t (.v undef), .t (.v undef), .t (.v undef), .t (.v undef), .t (.v undef), .t (.v undef), .t (tB true), .t (tB true), .t (.v undef), .t (.v undef), .t (.v undef), .t (.v undef), .t (tB true), .t (tB true), .t (.v undef), .t (.v undef), .t (.v undef), .t (.v undef), .t (.v undef), .t (tB true)] [(5, .t (tI (w64 (1 + (Int.tmod (w64 n2) 16))))), (6, .ptr 6 0), (8, .own 2368), (9, .t (tI s3.1)), (16, .ptr 16 0), (47, .t (tS enc_Smagnetolaw24_Op script)), (48, .t (tI (script.length : Int))), (49, .t (tI i)), (126, .t (tS enc_SSwitch s2.1)), (127, .t (tI (s2.1.length : Int))), (128, .t (tI i2))] [(6, .box [.t (tI s2.2.2.Now), .t (tS enc_SChannel s2.2.2.Channels)]), (16, .box [.t (tI x2.At), .t (tI x2.Channel), .t (tB x2.Level)]), (2368, .rows 4 1 s3.2.length (s3.2.map Pv.encB))] mixed (.of rfl rfl) rfl rfl rfl rfl (.cons (.quiet rfl rfl rfl) (.cons (.quiet rfl rfl rfl) (.cons (.quiet rfl rfl rfl) (.cons (.cast (congrArg T.B hg) (.quiet rfl rfl rfl)) (.cons (.skip rfl) (.cons (.skip rfl) (.cons (.skip rfl) (.cons (.skip rfl) (.cons (.quiet rfl rfl rfl) (.cons (.quiet rfl rfl rfl) (.cons (.skip rfl) (.cons (.skip rfl) (.cons (.skip rfl) (.cons (.skip rfl) (.cons (.skip rfl) (.cons (.skip rfl) (.cons (.skip rfl) (.cons (.skip rfl) (.cons (.quiet rfl rfl rfl) (.cons (.quiet rfl rfl rfl) (.cons (.skip rfl) (.cons (.skip rfl) (.cons (.skip rfl) (.cons (.skip rfl) (.cons (.quiet rfl rfl rfl) (.cons (.quiet rfl rfl rfl) (.cons (.skip rfl) (.cons (.skip rfl) (.cons (.skip rfl) (.cons (.skip rfl) (.cons (.skip rfl) (.cons (.quiet rfl rfl rfl) (.nil))))))))))))))))))))))))))))))))) ?_
                          refine TieO.nil ?_
                          exact TieS.leaf ⟨rfl, .of rfl rfl⟩
                        · refine TieX.split (fun hg3 => ?_) (fun hg4 => ?_)
                          · refine TieS.draw 32 [.ptr 16 1, .t (tI x2.Channel), .t (tB (decide (x2.Channel < 0))), .t (tB false), .ptr 16 1, .t (tI x2.Channel), .t (tI (w64 (1 + (Int.tmod (w64 n2) 16)))), .t (tB (decide (x2.Channel ≥ (w64 (1 + (Int.tmod (w64 n2) 16)))))), .t (tB (decide (x2.Channel ≥ (w64 (1 + (Int.tmod (w64 n2) 16)))))), .t (tB true), .t (.v undef), .t (.v undef), .t (.v undef), .t (.v undef), .t (.v undef), .t (.v undef), .t (.v undef), .t (.v undef), .t (tB true), .t (tB true), .t (.v undef), .t (.v undef), .t (.v undef), .t (.v undef), .t (tB true), .t (tB true), .t (.v undef), .t (.v undef), .t (.v undef), .t (.v undef), .t (.v undef), .t (tB true)] [(5, .t (tI (w64 (1 + (Int.tmod (w64 n2) 16))))), (6, .ptr 6 0), (8, .own 2368), (9, .t (tI s3.1)), (16, .ptr 16 0), (47, .t (tS enc_Smagnetolaw24_Op script)), (48, .t (tI (script.length : Int))), (49, .t (tI i)), (126, .t (tS enc_SSwitch s2.1)), (127, .t (tI (s2.1.length : Int))), (128, .t (tI i2))] [(6, .box [.t (tI s2.2.2.Now), .t (tS enc_SChannel s2.2.2.Channels)]), (16, .box [.t (tI x2.At), .t (tI x2.Channel), .t (tB x2.Level)]), (2368, .rows 4 1 s3.2.length (s3.2.map Pv.encB))] mixed (.of rfl rfl) rfl rfl rfl rfl (.cons (.quiet rfl rfl rfl) (.cons (.quiet rfl rfl rfl) (.cons (.quiet rfl rfl rfl) (.cons (.cast (congrArg T.B hg2) (.quiet rfl rfl rfl)) (.cons (.quiet rfl rfl rfl) (.cons (.quiet rfl rfl rfl) (.cons (.quiet rfl rfl rfl) (.cons (.quiet rfl rfl rfl) (.cons (.quiet rfl rfl rfl) (.cons (.cast (congrArg T.B hg3) (.quiet rfl rfl rfl)) (.cons (.skip rfl) (.cons (.skip rfl) (.cons (.skip rfl) (.cons (.skip rfl) (.cons (.skip rfl) (.cons (.skip rfl) (.cons (.skip rfl) (.cons (.skip rfl) (.cons (.quiet rfl rfl rfl) (.cons (.quiet rfl rfl rfl) (.cons (.skip rfl) (.cons (.skip rfl) (.cons (.skip rfl) (.cons (.skip rfl) (.cons (.quiet rfl rfl rfl) (.cons (.quiet rfl rfl rfl) (.cons (.skip rfl) (.cons (.skip rfl) (.cons (.skip rfl) (.cons (.skip rfl) (.cons (.skip rfl) (.cons (.quiet rfl rfl rfl) (.nil))))))))))))))))))))))))))))))))) ?_
                            refine TieO.nil ?_
                            exact TieS.leaf ⟨rfl, .of rfl rfl⟩
                          · refine TieX.pre fun x3 hx3 => ?_
                            refine TieX.split (fun hg5 => ?_) (fun hg6 => ?_)
                            · refine TieS.draw 32 [.ptr 16 1, .t (tI x2.Channel), .t (tB (decide (x2.Channel < 0))), .t (tB false), .ptr 16 1, .t (tI x2.Channel), .t (tI (w64 (1 + (Int.tmod (w64 n2) 16)))), .t (tB (decide (x2.Channel ≥ (w64 (1 + (Int.tmod (w64 n2) 16)))))), .t (tB (decide (x2.Channel ≥ (w64 (1 + (Int.tmod (w64 n2) 16)))))), .t (tB false), .ptr 16 2, .t (tB x2.Level), .own 2368, .ptr 16 1, .t (tI x2.Channel), .pe 2368 (Int.toNat x2.Channel) 1 0, .t (tB x3), .t (tB (x2.Level == x3)), .t (tB (x2.Level == x3)), .t (tB true), .t (.v undef), .t (.v undef), .t (.v undef), .t (.v undef), .t (tB true), .t (tB true), .t (.v undef), .t (.v undef), .t (.v undef), .t (.v undef), .t (.v undef), .t (tB true)] [(5, .t (tI (w64 (1 + (Int.tmod (w64 n2) 16))))), (6, .ptr 6 0), (8, .own 2368), (9, .t (tI s3.1)), (16, .ptr 16 0), (47, .t (tS enc_Smagnetolaw24_Op script)), (48, .t (tI (script.length : Int))), (49, .t (tI i)), (126, .t (tS enc_SSwitch s2.1)), (127, .t (tI (s2.1.length : Int))), (128, .t (tI i2))] [(6, .box [.t (tI s2.2.2.Now), .t (tS enc_SChannel s2.2.2.Channels)]), (16, .box [.t (tI x2.At), .t (tI x2.Channel), .t (tB x2.Level)]), (2368, .rows 4 1 s3.2.length (s3.2.map Pv.encB))] mixed (.of rfl rfl) rfl rfl rfl rfl (.cons (.quiet rfl rfl rfl) (.cons (.quiet rfl rfl rfl) (.cons (.quiet rfl rfl rfl) (.cons (.cast (congrArg T.B hg2) (.quiet rfl rfl rfl)) (.cons (.quiet rfl rfl rfl) (.cons (.quiet rfl rfl rfl) (.cons (.quiet rfl rfl rfl) (.cons (.quiet rfl rfl rfl) (.cons (.quiet rfl rfl rfl) (.cons (.cast (congrArg T.B hg4) (.quiet rfl rfl rfl)) (.cons (.quiet rfl rfl rfl) (.cons (.quiet rfl rfl rfl) (.cons (.quiet rfl rfl rfl) (.cons (.quiet rfl rfl rfl) (.cons (.quiet rfl rfl rfl) (.cons (.indexO (sz := 1) hx3 rfl rfl rfl rfl rfl rfl rfl rfl) (.cons (.loadY hx3 rfl rfl rfl rfl rfl rfl) (.cons (.quiet rfl rfl rfl) (.cons (.quiet rfl rfl rfl) (.cons (.cast (congrArg T.B hg5) (.quiet rfl rfl rfl)) (.cons (.skip rfl) (.cons (.skip rfl) (.cons (.skip rfl) (.cons (.skip rfl) (.cons (.quiet rfl rfl rfl) (.cons (.quiet rfl rfl rfl) (.cons (.skip rfl) (.cons (.skip rfl) (.cons (.skip rfl) (.cons (.skip rfl) (.cons (.skip rfl) (.cons (.quiet rfl rfl rfl) (.nil))))))))))))))))))))))))))))))))) ?_
                              refine TieO.nil ?_
                              exact TieS.leaf ⟨rfl, .of rfl rfl⟩
                            · refine TieX.split (fun hg7 => ?_) (fun hg8 => ?_)
                              · refine TieS.draw 32 [.ptr 16 1, .t (tI x2.Channel), .t (tB (decide (x2.Channel < 0))), .t (tB false), .ptr 16 1, .t (tI x2.Channel), .t (tI (w64 (1 + (Int.tmod (w64 n2) 16)))), .t (tB (decide (x2.Channel ≥ (w64 (1 + (Int.tmod (w64 n2) 16)))))), .t (tB (decide (x2.Channel ≥ (w64 (1 + (Int.tmod (w64 n2) 16)))))), .t (tB false), .ptr 16 2, .t (tB x2.Level), .own 2368, .ptr 16 1, .t (tI x2.Channel), .pe 2368 (Int.toNat x2.Channel) 1 0, .t (tB x3), .t (tB (x2.Level == x3)), .t (tB (x2.Level == x3)), .t (tB false), .ptr 16 0, .t (tI x2.At), .t (tI s3.1), .t (tB (decide (x2.At < s3.1))), .t (tB (decide (x2.At < s3.1))), .t (tB true), .t (.v undef), .t (.v undef), .t (.v undef), .t (.v undef), .t (.v undef), .t (tB true)] [(5, .t (tI (w64 (1 + (Int.tmod (w64 n2) 16))))), (6, .ptr 6 0), (8, .own 2368), (9, .t (tI s3.1)), (16, .ptr 16 0), (47, .t (tS enc_Smagnetolaw24_Op script)), (48, .t (tI (script.length : Int))), (49, .t (tI i)), (126, .t (tS enc_SSwitch s2.1)), (127, .t (tI (s2.1.length : Int))), (128, .t (tI i2))] [(6, .box [.t (tI s2.2.2.Now), .t (tS enc_SChannel s2.2.2.Channels)]), (16, .box [.t (tI x2.At), .t (tI x2.Channel), .t (tB x2.Level)]), (2368, .rows 4 1 s3.2.length (s3.2.map Pv.encB))] mixed (.of rfl rfl) rfl rfl rfl rfl (.cons (.quiet rfl rfl rfl) (.cons (.quiet rfl rfl rfl) (.cons (.quiet rfl rfl rfl) (.cons (.cast (congrArg T.B hg2) (.quiet rfl rfl rfl)) (.cons (.quiet rfl rfl rfl) (.cons (.quiet rfl rfl rfl) (.cons (.quiet rfl rfl rfl) (.cons (.quiet rfl rfl rfl) (.cons (.quiet rfl rfl rfl) (.cons (.cast (congrArg T.B hg4) (.quiet rfl rfl rfl)) (.cons (.quiet rfl rfl rfl) (.cons (.quiet rfl rfl rfl) (.cons (.quiet rfl rfl rfl) (.cons (.quiet rfl rfl rfl) (.cons (.quiet rfl rfl rfl) (.cons (.indexO (sz := 1) hx3 rfl rfl rfl rfl rfl rfl rfl rfl) (.cons (.loadY hx3 rfl rfl rfl rfl rfl rfl) (.cons (.quiet rfl rfl rfl) (.cons (.quiet rfl rfl rfl) (.cons (.cast (congrArg T.B hg6) (.quiet rfl rfl rfl)) (.cons (.quiet rfl rfl rfl) (.cons (.quiet rfl rfl rfl) (.cons (.quiet rfl rfl rfl) (.cons (.quiet rfl rfl rfl) (.cons (.quiet rfl rfl rfl) (.cons (.cast (congrArg T.B hg7) (.quiet rfl rfl rfl)) (.cons (.skip rfl) (.cons (.skip rfl) (.cons (.skip rfl) (.cons (.skip rfl) (.cons (.skip rfl) (.cons (.quiet rfl rfl rfl) (.nil))))))))))))))))))))))))))))))))) ?_
                                refine TieO.nil ?_
                                exact TieS.leaf ⟨rfl, .of rfl rfl⟩
                              · refine TieS.draw 32 [.ptr 16 1, .t (tI x2.Channel), .t (tB (decide (x2.Channel < 0))), .t (tB false), .ptr 16 1, .t (tI x2.Channel), .t (tI (w64 (1 + (Int.tmod (w64 n2) 16)))), .t (tB (decide (x2.Channel ≥ (w64 (1 + (Int.tmod (w64 n2) 16)))))), .t (tB (decide (x2.Channel ≥ (w64 (1 + (Int.tmod (w64 n2) 16)))))), .t (tB false), .ptr 16 2, .t (tB x2.Level), .own 2368, .ptr 16 1, .t (tI x2.Channel), .pe 2368 (Int.toNat x2.Channel) 1 0, .t (tB x3), .t (tB (x2.Level == x3)), .t (tB (x2.Level == x3)), .t (tB false), .ptr 16 0, .t (tI x2.At), .t (tI s3.1), .t (tB (decide (x2.At < s3.1))), .t (tB (decide (x2.At < s3.1))), .t (tB false), .ptr 16 0, .t (tI x2.At), .ptr 6 0, .t (tI s2.2.2.Now), .t (tB (decide (x2.At > s2.2.2.Now))), .t (tB (decide (x2.At > s2.2.2.Now)))] [(5, .t (tI (w64 (1 + (Int.tmod (w64 n2) 16))))), (6, .ptr 6 0), (8, .own 2368), (9, .t (tI s3.1)), (16, .ptr 16 0), (47, .t (tS enc_Smagnetolaw24_Op script)), (48, .t (tI (script.length : Int))), (49, .t (tI i)), (126, .t (tS enc_SSwitch s2.1)), (127, .t (tI (s2.1.length : Int))), (128, .t (tI i2))] [(6, .box [.t (tI s2.2.2.Now), .t (tS enc_SChannel s2.2.2.Channels)]), (16, .box [.t (tI x2.At), .t (tI x2.Channel), .t (tB x2.Level)]), (2368, .rows 4 1 s3.2.length (s3.2.map Pv.encB))] mixed (.of rfl rfl) rfl rfl rfl rfl (.cons (.quiet rfl rfl rfl) (.cons (.quiet rfl rfl rfl) (.cons (.quiet rfl rfl rfl) (.cons (.cast (congrArg T.B hg2) (.quiet rfl rfl rfl)) (.cons (.quiet rfl rfl rfl) (.cons (.quiet rfl rfl rfl) (.cons (.quiet rfl rfl rfl) (.cons (.quiet rfl rfl rfl) (.cons (.quiet rfl rfl rfl) (.cons (.cast (congrArg T.B hg4) (.quiet rfl rfl rfl)) (.cons (.quiet rfl rfl rfl) (.cons (.quiet rfl rfl rfl) (.cons (.quiet rfl rfl rfl) (.cons (.quiet rfl rfl rfl) (.cons (.quiet rfl rfl rfl) (.cons (.indexO (sz := 1) hx3 rfl rfl rfl rfl rfl rfl rfl rfl) (.cons (.loadY hx3 rfl rfl rfl rfl rfl rfl) (.cons (.quiet rfl rfl rfl) (.cons (.quiet rfl rfl rfl) (.cons (.cast (congrArg T.B hg6) (.quiet rfl rfl rfl)) (.cons (.quiet rfl rfl rfl) (.cons (.quiet rfl rfl rfl) (.cons (.quiet rfl rfl rfl) (.cons (.quiet rfl rfl rfl) (.cons (.quiet rfl rfl rfl) (.cons (.cast (congrArg T.B hg8) (.quiet rfl rfl rfl)) (.cons (.quiet rfl rfl rfl) (.cons (.quiet rfl rfl rfl) (.cons (.quiet rfl rfl rfl) (.cons (.quiet rfl rfl rfl) (.cons (.quiet rfl rfl rfl) (.cons (.quiet rfl rfl rfl) (.nil))))))))))))))))))))))))))))))))) ?_
                                refine TieO.nil ?_
                                exact TieS.leaf ⟨rfl, .of rfl rfl⟩
                      rintro v5 e σ' _ ⟨rfl, hs⟩
                      refine TieX.sub hs ?_
                      refine TieS.cond rfl ?_ ?_
                      · refine TieS.seq ?_
                        refine TieS.region ?_
                        refine TieO.run 1 rfl ?_
                        refine TieO.nil ?_
                        exact TieS.ret ⟨rfl, rfl⟩
                      · refine TieS.skip ?_
                        refine TieS.bind (Q₁ := fun t e σ' => e = .normal ∧ Sub ⟨[(5, .t (tI (w64 (1 + (Int.tmod (w64 n2) 16))))), (6, .ptr 6 0), (8, .own 2368), (9, .t (tI t.1)), (47, .t (tS enc_Smagnetolaw24_Op script)), (48, .t (tI (script.length : Int))), (49, .t (tI i)), (126, .t (tS enc_SSwitch s2.1)), (127, .t (tI (s2.1.length : Int))), (128, .t (tI i2))], [(6, .box [.t (tI s2.2.2.Now), .t (tS enc_SChannel s2.2.2.Channels)]), (2368, .rows 4 1 t.2.length (t.2.map Pv.encB))]⟩ σ') ?_ ?_
                        · refine TieX.pre fun x4 hx4 => ?_
                          refine TieX.pre fun l2 hl2 => ?_
                          refine TieS.draws 9 [false, false, false, false, false, false, false, false, false, false] [true, true, true, true, true, true, true, true, true, false] ⟨[(5, .t (tI (w64 (1 + (Int.tmod (w64 n2) 16))))), (6, .ptr 6 0), (8, .own 2368), (16, .ptr 16 0), (47, .t (tS enc_Smagnetolaw24_Op script)), (48, .t (tI (script.length : Int))), (49, .t (tI i)), (126, .t (tS enc_SSwitch s2.1)), (127, .t (tI (s2.1.length : Int))), (128, .t (tI i2)), (164, .own 2368), (165, .ptr 16 1), (166, .t (tI x2.Channel)), (167, .ptr 16 2), (168, .t (tB x2.Level)), (169, .ptr 16 0), (170, .t (tI x2.At)), (171, .pe 2368 (Int.toNat x2.Channel) 1 0)], [(6, .box [.t (tI s2.2.2.Now), .t (tS enc_SChannel s2.2.2.Channels)]), (16, .box [.t (tI x2.At), .t (tI x2.Channel), .t (tB x2.Level)]), (2368, .rows 4 1 l2.length (l2.map Pv.encB))]⟩ mixed (fun _ _ _ h => by cases h.1) rfl rfl rfl rfl ?_ ?_
                          · refine TieA.have_ (fuel₁ := 1) (l₁ := [true, true, true, true, true, true, true, true, true, false]) (σ₁ := ⟨[(5, .t (tI (w64 (1 + (Int.tmod (w64 n2) 16))))), (6, .ptr 6 0), (8, .own 2368), (16, .ptr 16 0), (47, .t (tS enc_Smagnetolaw24_Op script)), (48, .t (tI (script.length : Int))), (49, .t (tI i)), (126, .t (tS enc_SSwitch s2.1)), (127, .t (tI (s2.1.length : Int))), (128, .t (tI i2)), (164, .own 2368), (165, .ptr 16 1), (166, .t (tI x2.Channel)), (167, .ptr 16 2), (168, .t (tB x2.Level)), (169, .ptr 16 0), (170, .t (tI x2.At)), (171, .pe 2368 (Int.toNat x2.Channel) 1 0)], [(6, .box [.t (tI s2.2.2.Now), .t (tS enc_SChannel s2.2.2.Channels)]), (16, .box [.t (tI x2.At), .t (tI x2.Channel), .t (tB x2.Level)]), (2368, .rows 4 1 l2.length (l2.map Pv.encB))]⟩) ?_ fun A_4 => ?_
                            · exact TieA.done (.of rfl rfl)
                            refine TieA.have_ (fuel₁ := 2) (l₁ := [true, true, true, true, true, true, true, true, false, false]) (σ₁ := ⟨[(5, .t (tI (w64 (1 + (Int.tmod (w64 n2) 16))))), (6, .ptr 6 0), (8, .own 2368), (16, .ptr 16 0), (47, .t (tS enc_Smagnetolaw24_Op script)), (48, .t (tI (script.length : Int))), (49, .t (tI i)), (126, .t (tS enc_SSwitch s2.1)), (127, .t (tI (s2.1.length : Int))), (128, .t (tI i2)), (164, .own 2368), (165, .ptr 16 1), (166, .t (tI x2.Channel)), (167, .ptr 16 2), (168, .t (tB x2.Level)), (169, .ptr 16 0), (170, .t (tI x2.At)), (171, .pe 2368 (Int.toNat x2.Channel) 1 0)], [(6, .box [.t (tI s2.2.2.Now), .t (tS enc_SChannel s2.2.2.Channels)]), (16, .box [.t (tI x2.At), .t (tI x2.Channel), .t (tB x2.Level)]), (2368, .rows 4 1 s3.2.length (s3.2.map Pv.encB))]⟩) ?_ fun A_3 => ?_
                            · refine TieA.all [8] (by kernel_rfl) rfl ?_
                              refine AllA.cons (σ₁ := ⟨[(5, .t (tI (w64 (1 + (Int.tmod (w64 n2) 16))))), (6, .ptr 6 0), (8, .own 2368), (16, .ptr 16 0), (47, .t (tS enc_Smagnetolaw24_Op script)), (48, .t (tI (script.length : Int))), (49, .t (tI i)), (126, .t (tS enc_SSwitch s2.1)), (127, .t (tI (s2.1.length : Int))), (128, .t (tI i2)), (164, .own 2368), (165, .ptr 16 1), (166, .t (tI x2.Channel)), (167, .ptr 16 2), (168, .t (tB x2.Level)), (169, .ptr 16 0), (170, .t (tI x2.At)), (171, .pe 2368 (Int.toNat x2.Channel) 1 0)], [(6, .box [.t (tI s2.2.2.Now), .t (tS enc_SChannel s2.2.2.Channels)]), (16, .box [.t (tI x2.At), .t (tI x2.Channel), .t (tB x2.Level)]), (2368, .rows 4 1 l2.length (l2.map Pv.encB))]⟩) [true, true, true, true, true, true, true, true, true, false] rfl rfl ?_ A_4 ?_
                              · refine TieO.withH hl2 (TieO.storeY x2.Level [tB x2.Level] hx4 rfl rfl rfl rfl rfl rfl rfl rfl rfl rfl rfl rfl (TieO.ifG ?_))
                                exact TieO.nil (TieS.leaf ⟨rfl, .of rfl rfl⟩)
                              exact AllA.nil
                            refine TieA.have_ (fuel₁ := 2) (l₁ := [true, true, true, true, true, true, false, true, true, false]) (σ₁ := ⟨[(5, .t (tI (w64 (1 + (Int.tmod (w64 n2) 16))))), (6, .ptr 6 0), (8, .own 2368), (16, .ptr 16 0), (47, .t (tS enc_Smagnetolaw24_Op script)), (48, .t (tI (script.length : Int))), (49, .t (tI i)), (126, .t (tS enc_SSwitch s2.1)), (127, .t (tI (s2.1.length : Int))), (128, .t (tI i2)), (164, .own 2368), (165, .ptr 16 1), (166, .t (tI x2.Channel)), (167, .ptr 16 2), (168, .t (tB x2.Level)), (169, .ptr 16 0), (171, .pe 2368 (Int.toNat x2.Channel) 1 0)], [(6, .box [.t (tI s2.2.2.Now), .t (tS enc_SChannel s2.2.2.Channels)]), (16, .box [.t (tI x2.At), .t (tI x2.Channel), .t (tB x2.Level)]), (2368, .rows 4 1 l2.length (l2.map Pv.encB))]⟩) ?_ fun A_5 => ?_
                            · refine TieA.all [6] (by kernel_rfl) rfl ?_
                              refine AllA.cons (σ₁ := ⟨[(5, .t (tI (w64 (1 + (Int.tmod (w64 n2) 16))))), (6, .ptr 6 0), (8, .own 2368), (16, .ptr 16 0), (47, .t (tS enc_Smagnetolaw24_Op script)), (48, .t (tI (script.length : Int))), (49, .t (tI i)), (126, .t (tS enc_SSwitch s2.1)), (127, .t (tI (s2.1.length : Int))), (128, .t (tI i2)), (164, .own 2368), (165, .ptr 16 1), (166, .t (tI x2.Channel)), (167, .ptr 16 2), (168, .t (tB x2.Level)), (169, .ptr 16 0), (170, .t (tI x2.At)), (171, .pe 2368 (Int.toNat x2.Channel) 1 0)], [(6, .box [.t (tI s2.2.2.Now), .t (tS enc_SChannel s2.2.2.Channels)]), (16, .box [.t (tI x2.At), .t (tI x2.Channel), .t (tB x2.Level)]), (2368, .rows 4 1 l2.length (l2.map Pv.encB))]⟩) [true, true, true, true, true, true, true, true, true, false] rfl rfl ?_ A_4 ?_
                              · refine TieO.run 1 rfl ?_
                                exact TieO.nil (TieS.leaf ⟨rfl, .of rfl rfl⟩)
                              exact AllA.nil
                            refine TieA.have_ (fuel₁ := 4) (l₁ := [true, true, true, true, true, true, false, false, false, false]) (σ₁ := ⟨[(5, .t (tI (w64 (1 + (Int.tmod (w64 n2) 16))))), (6, .ptr 6 0), (8, .own 2368), (16, .ptr 16 0), (47, .t (tS enc_Smagnetolaw24_Op script)), (48, .t (tI (script.length : Int))), (49, .t (tI i)), (126, .t (tS enc_SSwitch s2.1)), (127, .t (tI (s2.1.length : Int))), (128, .t (tI i2)), (164, .own 2368), (165, .ptr 16 1), (166, .t (tI x2.Channel)), (167, .ptr 16 2), (168, .t (tB x2.Level)), (169, .ptr 16 0)], [(6, .box [.t (tI s2.2.2.Now), .t (tS enc_SChannel s2.2.2.Channels)]), (16, .box [.t (tI x2.At), .t (tI x2.Channel), .t (tB x2.Level)]), (2368, .rows 4 1 s3.2.length (s3.2.map Pv.encB))]⟩) ?_ fun A_2 => ?_
                            · refine TieA.idx 7 [true, true, true, true, true, true, false, true, false, false] hx4 rfl rfl rfl rfl rfl rfl (by kernel_rfl) (by kernel_rfl) (by kernel_rfl) rfl rfl rfl rfl rfl rfl ?_
                              refine TieA.all [6, 8] (by kernel_rfl) rfl ?_
                              refine AllA.cons (σ₁ := ⟨[(5, .t (tI (w64 (1 + (Int.tmod (w64 n2) 16))))), (6, .ptr 6 0), (8, .own 2368), (16, .ptr 16 0), (47, .t (tS enc_Smagnetolaw24_Op script)), (48, .t (tI (script.length : Int))), (49, .t (tI i)), (126, .t (tS enc_SSwitch s2.1)), (127, .t (tI (s2.1.length : Int))), (128, .t (tI i2)), (164, .own 2368), (165, .ptr 16 1), (166, .t (tI x2.Channel)), (167, .ptr 16 2), (168, .t (tB x2.Level)), (169, .ptr 16 0), (170, .t (tI x2.At)), (171, .pe 2368 (Int.toNat x2.Channel) 1 0)], [(6, .box [.t (tI s2.2.2.Now), .t (tS enc_SChannel s2.2.2.Channels)]), (16, .box [.t (tI x2.At), .t (tI x2.Channel), .t (tB x2.Level)]), (2368, .rows 4 1 s3.2.length (s3.2.map Pv.encB))]⟩) [true, true, true, true, true, true, true, true, false, false] rfl rfl ?_ A_3 ?_
                              · refine TieO.run 1 rfl ?_
                                exact TieO.nil (TieS.leaf ⟨rfl, .of rfl rfl⟩)
                              refine AllA.cons (σ₁ := ⟨[(5, .t (tI (w64 (1 + (Int.tmod (w64 n2) 16))))), (6, .ptr 6 0), (8, .own 2368), (16, .ptr 16 0), (47, .t (tS enc_Smagnetolaw24_Op script)), (48, .t (tI (script.length : Int))), (49, .t (tI i)), (126, .t (tS enc_SSwitch s2.1)), (127, .t (tI (s2.1.length : Int))), (128, .t (tI i2)), (164, .own 2368), (165, .ptr 16 1), (166, .t (tI x2.Channel)), (167, .ptr 16 2), (168, .t (tB x2.Level)), (169, .ptr 16 0), (171, .pe 2368 (Int.toNat x2.Channel) 1 0)], [(6, .box [.t (tI s2.2.2.Now), .t (tS enc_SChannel s2.2.2.Channels)]), (16, .box [.t (tI x2.At), .t (tI x2.Channel), .t (tB x2.Level)]), (2368, .rows 4 1 l2.length (l2.map Pv.encB))]⟩) [true, true, true, true, true, true, false, true, true, false] rfl rfl ?_ A_5 ?_
                              · refine TieO.withH hl2 (TieO.storeY x2.Level [tB x2.Level] hx4 rfl rfl rfl rfl rfl rfl rfl rfl rfl rfl rfl rfl (TieO.ifG ?_))
                                exact TieO.nil (TieS.leaf ⟨rfl, .of rfl rfl⟩)
                              exact AllA.nil
                            refine TieA.have_ (fuel₁ := 3) (l₁ := [true, true, true, true, true, true, true, false, false, false]) (σ₁ := ⟨[(5, .t (tI (w64 (1 + (Int.tmod (w64 n2) 16))))), (6, .ptr 6 0), (8, .own 2368), (16, .ptr 16 0), (47, .t (tS enc_Smagnetolaw24_Op script)), (48, .t (tI (script.length : Int))), (49, .t (tI i)), (126, .t (tS enc_SSwitch s2.1)), (127, .t (tI (s2.1.length : Int))), (128, .t (tI i2)), (164, .own 2368), (165, .ptr 16 1), (166, .t (tI x2.Channel)), (167, .ptr 16 2), (168, .t (tB x2.Level)), (169, .ptr 16 0), (170, .t (tI x2.At))], [(6, .box [.t (tI s2.2.2.Now), .t (tS enc_SChannel s2.2.2.Channels)]), (16, .box [.t (tI x2.At), .t (tI x2.Channel), .t (tB x2.Level)]), (2368, .rows 4 1 s3.2.length (s3.2.map Pv.encB))]⟩) ?_ fun A_7 => ?_
                            · refine TieA.idx 7 [true, true, true, true, true, true, true, true, false, false] hx4 rfl rfl rfl rfl rfl rfl (by kernel_rfl) (by kernel_rfl) (by kernel_rfl) rfl rfl rfl rfl rfl rfl ?_
                              refine TieA.all [8] (by kernel_rfl) rfl ?_
                              refine AllA.cons (σ₁ := ⟨[(5, .t (tI (w64 (1 + (Int.tmod (w64 n2) 16))))), (6, .ptr 6 0), (8, .own 2368), (16, .ptr 16 0), (47, .t (tS enc_Smagnetolaw24_Op script)), (48, .t (tI (script.length : Int))), (49, .t (tI i)), (126, .t (tS enc_SSwitch s2.1)), (127, .t (tI (s2.1.length : Int))), (128, .t (tI i2)), (164, .own 2368), (165, .ptr 16 1), (166, .t (tI x2.Channel)), (167, .ptr 16 2), (168, .t (tB x2.Level)), (169, .ptr 16 0), (170, .t (tI x2.At)), (171, .pe 2368 (Int.toNat x2.Channel) 1 0)], [(6, .box [.t (tI s2.2.2.Now), .t (tS enc_SChannel s2.2.2.Channels)]), (16, .box [.t (tI x2.At), .t (tI x2.Channel), .t (tB x2.Level)]), (2368, .rows 4 1 l2.length (l2.map Pv.encB))]⟩) [true, true, true, true, true, true, true, true, true, false] rfl rfl ?_ A_4 ?_
                              · refine TieO.withH hl2 (TieO.storeY x2.Level [tB x2.Level] hx4 rfl rfl rfl rfl rfl rfl rfl rfl rfl rfl rfl rfl (TieO.ifG ?_))
                                exact TieO.nil (TieS.leaf ⟨rfl, .of rfl rfl⟩)
                              exact AllA.nil
                            refine TieA.have_ (fuel₁ := 4) (l₁ := [true, true, true, true, false, true, true, false, false, false]) (σ₁ := ⟨[(5, .t (tI (w64 (1 + (Int.tmod (w64 n2) 16))))), (6, .ptr 6 0), (8, .own 2368), (16, .ptr 16 0), (47, .t (tS enc_Smagnetolaw24_Op script)), (48, .t (tI (script.length : Int))), (49, .t (tI i)), (126, .t (tS enc_SSwitch s2.1)), (127, .t (tI (s2.1.length : Int))), (128, .t (tI i2)), (164, .own 2368), (165, .ptr 16 1), (166, .t (tI x2.Channel)), (167, .ptr 16 2), (169, .ptr 16 0), (170, .t (tI x2.At))], [(6, .box [.t (tI s2.2.2.Now), .t (tS enc_SChannel s2.2.2.Channels)]), (16, .box [.t (tI x2.At), .t (tI x2.Channel), .t (tB x2.Level)]), (2368, .rows 4 1 s3.2.length (s3.2.map Pv.encB))]⟩) ?_ fun A_6 => ?_
                            · refine TieA.all [4] (by kernel_rfl) rfl ?_
                              refine AllA.cons (σ₁ := ⟨[(5, .t (tI (w64 (1 + (Int.tmod (w64 n2) 16))))), (6, .ptr 6 0), (8, .own 2368), (16, .ptr 16 0), (47, .t (tS enc_Smagnetolaw24_Op script)), (48, .t (tI (script.length : Int))), (49, .t (tI i)), (126, .t (tS enc_SSwitch s2.1)), (127, .t (tI (s2.1.length : Int))), (128, .t (tI i2)), (164, .own 2368), (165, .ptr 16 1), (166, .t (tI x2.Channel)), (167, .ptr 16 2), (168, .t (tB x2.Level)), (169, .ptr 16 0), (170, .t (tI x2.At))], [(6, .box [.t (tI s2.2.2.Now), .t (tS enc_SChannel s2.2.2.Channels)]), (16, .box [.t (tI x2.At), .t (tI x2.Channel), .t (tB x2.Level)]), (2368, .rows 4 1 s3.2.length (s3.2.map Pv.encB))]⟩) [true, true, true, true, true, true, true, false, false, false] rfl rfl ?_ A_7 ?_
                              · refine TieO.run 1 rfl ?_
                                exact TieO.nil (TieS.leaf ⟨rfl, .of rfl rfl⟩)
                              exact AllA.nil
                            refine TieA.have_ (fuel₁ := 5) (l₁ := [true, true, true, true, false, true, false, false, false, false]) (σ₁ := ⟨[(5, .t (tI (w64 (1 + (Int.tmod (w64 n2) 16))))), (6, .ptr 6 0), (8, .own 2368), (16, .ptr 16 0), (47, .t (tS enc_Smagnetolaw24_Op script)), (48, .t (tI (script.length : Int))), (49, .t (tI i)), (126, .t (tS enc_SSwitch s2.1)), (127, .t (tI (s2.1.length : Int))), (128, .t (tI i2)), (164, .own 2368), (165, .ptr 16 1), (166, .t (tI x2.Channel)), (167, .ptr 16 2), (169, .ptr 16 0)], [(6, .box [.t (tI s2.2.2.Now), .t (tS enc_SChannel s2.2.2.Channels)]), (16, .box [.t (tI x2.At), .t (tI x2.Channel), .t (tB x2.Level)]), (2368, .rows 4 1 s3.2.length (s3.2.map Pv.encB))]⟩) ?_ fun A_1 => ?_
                            · refine TieA.all [4, 6] (by kernel_rfl) rfl ?_
                              refine AllA.cons (σ₁ := ⟨[(5, .t (tI (w64 (1 + (Int.tmod (w64 n2) 16))))), (6, .ptr 6 0), (8, .own 2368), (16, .ptr 16 0), (47, .t (tS enc_Smagnetolaw24_Op script)), (48, .t (tI (script.length : Int))), (49, .t (tI i)), (126, .t (tS enc_SSwitch s2.1)), (127, .t (tI (s2.1.length : Int))), (128, .t (tI i2)), (164, .own 2368), (165, .ptr 16 1), (166, .t (tI x2.Channel)), (167, .ptr 16 2), (168, .t (tB x2.Level)), (169, .ptr 16 0)], [(6, .box [.t (tI s2.2.2.Now), .t (tS enc_SChannel s2.2.2.Channels)]), (16, .box [.t (tI x2.At), .t (tI x2.Channel), .t (tB x2.Level)]), (2368, .rows 4 1 s3.2.length (s3.2.map Pv.encB))]⟩) [true, true, true, true, true, true, false, false, false, false] rfl rfl ?_ A_2 ?_
                              · refine TieO.run 1 rfl ?_
                                exact TieO.nil (TieS.leaf ⟨rfl, .of rfl rfl⟩)
                              refine AllA.cons (σ₁ := ⟨[(5, .t (tI (w64 (1 + (Int.tmod (w64 n2) 16))))), (6, .ptr 6 0), (8, .own 2368), (16, .ptr 16 0), (47, .t (tS enc_Smagnetolaw24_Op script)), (48, .t (tI (script.length : Int))), (49, .t (tI i)), (126, .t (tS enc_SSwitch s2.1)), (127, .t (tI (s2.1.length : Int))), (128, .t (tI i2)), (164, .own 2368), (165, .ptr 16 1), (166, .t (tI x2.Channel)), (167, .ptr 16 2), (169, .ptr 16 0), (170, .t (tI x2.At))], [(6, .box [.t (tI s2.2.2.Now), .t (tS enc_SChannel s2.2.2.Channels)]), (16, .box [.t (tI x2.At), .t (tI x2.Channel), .t (tB x2.Level)]), (2368, .rows 4 1 s3.2.length (s3.2.map Pv.encB))]⟩) [true, true, true, true, false, true, true, false, false, false] rfl rfl ?_ A_6 ?_
                              · refine TieO.run 1 rfl ?_
                                exact TieO.nil (TieS.leaf ⟨rfl, .of rfl rfl⟩)
                              exact AllA.nil
                            refine TieA.have_ (fuel₁ := 4) (l₁ := [true, true, false, true, true, true, true, false, false, false]) (σ₁ := ⟨[(5, .t (tI (w64 (1 + (Int.tmod (w64 n2) 16))))), (6, .ptr 6 0), (8, .own 2368), (16, .ptr 16 0), (47, .t (tS enc_Smagnetolaw24_Op script)), (48, .t (tI (script.length : Int))), (49, .t (tI i)), (126, .t (tS enc_SSwitch s2.1)), (127, .t (tI (s2.1.length : Int))), (128, .t (tI i2)), (164, .own 2368), (165, .ptr 16 1), (167, .ptr 16 2), (168, .t (tB x2.Level)), (169, .ptr 16 0), (170, .t (tI x2.At))], [(6, .box [.t (tI s2.2.2.Now), .t (tS enc_SChannel s2.2.2.Channels)]), (16, .box [.t (tI x2.At), .t (tI x2.Channel), .t (tB x2.Level)]), (2368, .rows 4 1 s3.2.length (s3.2.map Pv.encB))]⟩) ?_ fun A_9 => ?_
                            · refine TieA.all [2] (by kernel_rfl) rfl ?_
                              refine AllA.cons (σ₁ := ⟨[(5, .t (tI (w64 (1 + (Int.tmod (w64 n2) 16))))), (6, .ptr 6 0), (8, .own 2368), (16, .ptr 16 0), (47, .t (tS enc_Smagnetolaw24_Op script)), (48, .t (tI (script.length : Int))), (49, .t (tI i)), (126, .t (tS enc_SSwitch s2.1)), (127, .t (tI (s2.1.length : Int))), (128, .t (tI i2)), (164, .own 2368), (165, .ptr 16 1), (166, .t (tI x2.Channel)), (167, .ptr 16 2), (168, .t (tB x2.Level)), (169, .ptr 16 0), (170, .t (tI x2.At))], [(6, .box [.t (tI s2.2.2.Now), .t (tS enc_SChannel s2.2.2.Channels)]), (16, .box [.t (tI x2.At), .t (tI x2.Channel), .t (tB x2.Level)]), (2368, .rows 4 1 s3.2.length (s3.2.map Pv.encB))]⟩) [true, true, true, true, true, true, true, false, false, false] rfl rfl ?_ A_7 ?_
                              · refine TieO.run 1 rfl ?_
                                exact TieO.nil (TieS.leaf ⟨rfl, .of rfl rfl⟩)
                              exact AllA.nil
                            refine TieA.have_ (fuel₁ := 5) (l₁ := [true, true, false, true, true, true, false, false, false, false]) (σ₁ := ⟨[(5, .t (tI (w64 (1 + (Int.tmod (w64 n2) 16))))), (6, .ptr 6 0), (8, .own 2368), (16, .ptr 16 0), (47, .t (tS enc_Smagnetolaw24_Op script)), (48, .t (tI (script.length : Int))), (49, .t (tI i)), (126, .t (tS enc_SSwitch s2.1)), (127, .t (tI (s2.1.length : Int))), (128, .t (tI i2)), (164, .own 2368), (165, .ptr 16 1), (167, .ptr 16 2), (168, .t (tB x2.Level)), (169, .ptr 16 0)], [(6, .box [.t (tI s2.2.2.Now), .t (tS enc_SChannel s2.2.2.Channels)]), (16, .box [.t (tI x2.At), .t (tI x2.Channel), .t (tB x2.Level)]), (2368, .rows 4 1 s3.2.length (s3.2.map Pv.encB))]⟩) ?_ fun A_8 => ?_
                            · refine TieA.all [2, 6] (by kernel_rfl) rfl ?_
                              refine AllA.cons (σ₁ := ⟨[(5, .t (tI (w64 (1 + (Int.tmod (w64 n2) 16))))), (6, .ptr 6 0), (8, .own 2368), (16, .ptr 16 0), (47, .t (tS enc_Smagnetolaw24_Op script)), (48, .t (tI (script.length : Int))), (49, .t (tI i)), (126, .t (tS enc_SSwitch s2.1)), (127, .t (tI (s2.1.length : Int))), (128, .t (tI i2)), (164, .own 2368), (165, .ptr 16 1), (166, .t (tI x2.Channel)), (167, .ptr 16 2), (168, .t (tB x2.Level)), (169, .ptr 16 0)], [(6, .box [.t (tI s2.2.2.Now), .t (tS enc_SChannel s2.2.2.Channels)]), (16, .box [.t (tI x2.At), .t (tI x2.Channel), .t (tB x2.Level)]), (2368, .rows 4 1 s3.2.length (s3.2.map Pv.encB))]⟩) [true, true, true, true, true, true, false, false, false, false] rfl rfl ?_ A_2 ?_
                              · refine TieO.run 1 rfl ?_
                                exact TieO.nil (TieS.leaf ⟨rfl, .of rfl rfl⟩)
                              refine AllA.cons (σ₁ := ⟨[(5, .t (tI (w64 (1 + (Int.tmod (w64 n2) 16))))), (6, .ptr 6 0), (8, .own 2368), (16, .ptr 16 0), (47, .t (tS enc_Smagnetolaw24_Op script)), (48, .t (tI (script.length : Int))), (49, .t (tI i)), (126, .t (tS enc_SSwitch s2.1)), (127, .t (tI (s2.1.length : Int))), (128, .t (tI i2)), (164, .own 2368), (165, .ptr 16 1), (167, .ptr 16 2), (168, .t (tB x2.Level)), (169, .ptr 16 0), (170, .t (tI x2.At))], [(6, .box [.t (tI s2.2.2.Now), .t (tS enc_SChannel s2.2.2.Channels)]), (16, .box [.t (tI x2.At), .t (tI x2.Channel), .t (tB x2.Level)]), (2368, .rows 4 1 s3.2.length (s3.2.map Pv.encB))]⟩) [true, true, false, true, true, true, true, false, false, false] rfl rfl ?_ A_9 ?_
                              · refine TieO.run 1 rfl ?_
                                exact TieO.nil (TieS.leaf ⟨rfl, .of rfl rfl⟩)
                              exact AllA.nil
                            refine TieA.have_ (fuel₁ := 5) (l₁ := [true, true, false, true, false, true, true, false, false, false]) (σ₁ := ⟨[(5, .t (tI (w64 (1 + (Int.tmod (w64 n2) 16))))), (6, .ptr 6 0), (8, .own 2368), (16, .ptr 16 0), (47, .t (tS enc_Smagnetolaw24_Op script)), (48, .t (tI (script.length : Int))), (49, .t (tI i)), (126, .t (tS enc_SSwitch s2.1)), (127, .t (tI (s2.1.length : Int))), (128, .t (tI i2)), (164, .own 2368), (165, .ptr 16 1), (167, .ptr 16 2), (169, .ptr 16 0), (170, .t (tI x2.At))], [(6, .box [.t (tI s2.2.2.Now), .t (tS enc_SChannel s2.2.2.Channels)]), (16, .box [.t (tI x2.At), .t (tI x2.Channel), .t (tB x2.Level)]), (2368, .rows 4 1 s3.2.length (s3.2.map Pv.encB))]⟩) ?_ fun A_10 => ?_
                            · refine TieA.all [2, 4] (by kernel_rfl) rfl ?_
                              refine AllA.cons (σ₁ := ⟨[(5, .t (tI (w64 (1 + (Int.tmod (w64 n2) 16))))), (6, .ptr 6 0), (8, .own 2368), (16, .ptr 16 0), (47, .t (tS enc_Smagnetolaw24_Op script)), (48, .t (tI (script.length : Int))), (49, .t (tI i)), (126, .t (tS enc_SSwitch s2.1)), (127, .t (tI (s2.1.length : Int))), (128, .t (tI i2)), (164, .own 2368), (165, .ptr 16 1), (166, .t (tI x2.Channel)), (167, .ptr 16 2), (169, .ptr 16 0), (170, .t (tI x2.At))], [(6, .box [.t (tI s2.2.2.Now), .t (tS enc_SChannel s2.2.2.Channels)]), (16, .box [.t (tI x2.At), .t (tI x2.Channel), .t (tB x2.Level)]), (2368, .rows 4 1 s3.2.length (s3.2.map Pv.encB))]⟩) [true, true, true, true, false, true, true, false, false, false] rfl rfl ?_ A_6 ?_
                              · refine TieO.run 1 rfl ?_
                                exact TieO.nil (TieS.leaf ⟨rfl, .of rfl rfl⟩)
                              refine AllA.cons (σ₁ := ⟨[(5, .t (tI (w64 (1 + (Int.tmod (w64 n2) 16))))), (6, .ptr 6 0), (8, .own 2368), (16, .ptr 16 0), (47, .t (tS enc_Smagnetolaw24_Op script)), (48, .t (tI (script.length : Int))), (49, .t (tI i)), (126, .t (tS enc_SSwitch s2.1)), (127, .t (tI (s2.1.length : Int))), (128, .t (tI i2)), (164, .own 2368), (165, .ptr 16 1), (167, .ptr 16 2), (168, .t (tB x2.Level)), (169, .ptr 16 0), (170, .t (tI x2.At))], [(6, .box [.t (tI s2.2.2.Now), .t (tS enc_SChannel s2.2.2.Channels)]), (16, .box [.t (tI x2.At), .t (tI x2.Channel), .t (tB x2.Level)]), (2368, .rows 4 1 s3.2.length (s3.2.map Pv.encB))]⟩) [true, true, false, true, true, true, true, false, false, false] rfl rfl ?_ A_9 ?_
                              · refine TieO.run 1 rfl ?_
                                exact TieO.nil (TieS.leaf ⟨rfl, .of rfl rfl⟩)
                              exact AllA.nil
                            refine TieA.move 0 [true, false, false, false, false, false, false, false, false, false] rfl rfl (by first | exact .inl rfl | exact .inr rfl) rfl rfl rfl (by kernel_rfl) (by kernel_rfl) (by kernel_rfl) rfl ?_
                            refine TieA.fieldP 1 [true, true, false, false, false, false, false, false, false, false] rfl rfl rfl rfl rfl rfl (by kernel_rfl) (by kernel_rfl) (by kernel_rfl) rfl rfl rfl ?_
                            refine TieA.fieldP 3 [true, true, false, true, false, false, false, false, false, false] rfl rfl rfl rfl rfl rfl (by kernel_rfl) (by kernel_rfl) (by kernel_rfl) rfl rfl rfl ?_
                            refine TieA.fieldP 5 [true, true, false, true, false, true, false, false, false, false] rfl rfl rfl rfl rfl rfl (by kernel_rfl) (by kernel_rfl) (by kernel_rfl) rfl rfl rfl ?_
                            refine TieA.all [2, 4, 6] (by kernel_rfl) rfl ?_
                            refine AllA.cons (σ₁ := ⟨[(5, .t (tI (w64 (1 + (Int.tmod (w64 n2) 16))))), (6, .ptr 6 0), (8, .own 2368), (16, .ptr 16 0), (47, .t (tS enc_Smagnetolaw24_Op script)), (48, .t (tI (script.length : Int))), (49, .t (tI i)), (126, .t (tS enc_SSwitch s2.1)), (127, .t (tI (s2.1.length : Int))), (128, .t (tI i2)), (164, .own 2368), (165, .ptr 16 1), (166, .t (tI x2.Channel)), (167, .ptr 16 2), (169, .ptr 16 0)], [(6, .box [.t (tI s2.2.2.Now), .t (tS enc_SChannel s2.2.2.Channels)]), (16, .box [.t (tI x2.At), .t (tI x2.Channel), .t (tB x2.Level)]), (2368, .rows 4 1 s3.2.length (s3.2.map Pv.encB))]⟩) [true, true, true, true, false, true, false, false, false, false] rfl rfl ?_ A_1 ?_
                            · refine TieO.run 1 rfl ?_
                              exact TieO.nil (TieS.leaf ⟨rfl, .of rfl rfl⟩)
                            refine AllA.cons (σ₁ := ⟨[(5, .t (tI (w64 (1 + (Int.tmod (w64 n2) 16))))), (6, .ptr 6 0), (8, .own 2368), (16, .ptr 16 0), (47, .t (tS enc_Smagnetolaw24_Op script)), (48, .t (tI (script.length : Int))), (49, .t (tI i)), (126, .t (tS enc_SSwitch s2.1)), (127, .t (tI (s2.1.length : Int))), (128, .t (tI i2)), (164, .own 2368), (165, .ptr 16 1), (167, .ptr 16 2), (168, .t (tB x2.Level)), (169, .ptr 16 0)], [(6, .box [.t (tI s2.2.2.Now), .t (tS enc_SChannel s2.2.2.Channels)]), (16, .box [.t (tI x2.At), .t (tI x2.Channel), .t (tB x2.Level)]), (2368, .rows 4 1 s3.2.length (s3.2.map Pv.encB))]⟩) [true, true, false, true, true, true, false, false, false, false] rfl rfl ?_ A_8 ?_
                            · refine TieO.run 1 rfl ?_
                              exact TieO.nil (TieS.leaf ⟨rfl, .of rfl rfl⟩)
                            refine AllA.cons (σ₁ := ⟨[(5, .t (tI (w64 (1 + (Int.tmod (w64 n2) 16))))), (6, .ptr 6 0), (8, .own 2368), (16, .ptr 16 0), (47, .t (tS enc_Smagnetolaw24_Op script)), (48, .t (tI (script.length : Int))), (49, .t (tI i)), (126, .t (tS enc_SSwitch s2.1)), (127, .t (tI (s2.1.length : Int))), (128, .t (tI i2)), (164, .own 2368), (165, .ptr 16 1), (167, .ptr 16 2), (169, .ptr 16 0), (170, .t (tI x2.At))], [(6, .box [.t (tI s2.2.2.Now), .t (tS enc_SChannel s2.2.2.Channels)]), (16, .box [.t (tI x2.At), .t (tI x2.Channel), .t (tB x2.Level)]), (2368, .rows 4 1 s3.2.length (s3.2.map Pv.encB))]⟩) [true, true, false, true, false, true, true, false, false, false] rfl rfl ?_ A_10 ?_
                            · refine TieO.run 1 rfl ?_
                              exact TieO.nil (TieS.leaf ⟨rfl, .of rfl rfl⟩)
                            exact AllA.nil
                          refine TieO.run 1 rfl ?_
                          refine TieO.nil ?_
                          exact TieS.leaf ⟨rfl, .of rfl rfl⟩
                        rintro s4 e σ' _ ⟨rfl, hs⟩
                        refine TieX.sub hs ?_
                        refine TieS.endb ?_
                        exact TieS.leaf ⟨rfl, .of rfl rfl⟩
                    rintro (t | t | t) e σ' _ hq
                    · obtain ⟨rfl, hs⟩ := hq
                      refine TieX.sub hs ?_
                      refine TieS.region ?_
                      refine TieO.run 2 rfl ?_
                      refine TieO.nil ?_
                      exact TieS.leaf ⟨rfl, .of rfl rfl⟩
                    · obtain ⟨rfl, hs⟩ := hq
                      exact TieX.exitOut rfl ⟨(fun h => by cases h), rfl, hs⟩
                    · obtain ⟨rfl, hs⟩ := hq
                      exact TieX.ret ⟨(fun h => by cases h), rfl, hs⟩
                  · exact TieS.exitOut rfl ⟨(fun h => by cases h), rfl, .of rfl rfl⟩
                rintro (s5 | r8) e σ' _ hq
                · obtain ⟨rfl, hs⟩ := hq
                  refine TieX.exit rfl (TieX.sub hs ?_)
                  refine TieS.seq ?_
                  refine TieS.region ?_
                  refine TieO.run 4 rfl ?_
                  refine TieO.nil ?_
                  refine TieS.block ?_
                  refine TieS.loop (fun p => ⟨[(5, .t (tI (w64 (1 + (Int.tmod (w64 n2) 16))))), (6, .ptr 6 0), (8, .own 2368), (9, .t (tI s5.1)), (47, .t (tS enc_Smagnetolaw24_Op script)), (48, .t (tI (script.length : Int))), (49, .t (tI i)), (174, .t (tS enc_SChannel s2.2.2.Channels)), (175, .t (tI (s2.2.2.Channels.length : Int))), (176, .t (tI p.1))], [(6, .box [.t (tI s2.2.2.Now), .t (tS enc_SChannel s2.2.2.Channels)]), (2368, .rows 4 1 s5.2.length (s5.2.map Pv.encB))]⟩) (fun b e σ' => match b with | .inl t => e = .exit 5 ∧ Sub ⟨[(5, .t (tI (w64 (1 + (Int.tmod (w64 n2) 16))))), (6, .ptr 6 0), (8, .own 2368), (9, .t (tI s5.1)), (47, .t (tS enc_Smagnetolaw24_Op script)), (48, .t (tI (script.length : Int))), (49, .t (tI i))], [(6, .box [.t (tI s2.2.2.Now), .t (tS enc_SChannel s2.2.2.Channels)]), (2368, .rows 4 1 s5.2.length (s5.2.map Pv.encB))]⟩ σ' | .inr t => e = .ret ∧ retT tab σ' [.tmp 4] = some (((fun r => .t (tB r)) : Bool → T) t)) (.of rfl rfl) ?_ ?_
                  · rintro ⟨i3, s6⟩
                    refine TieS.seq ?_
                    refine TieS.region ?_
                    refine TieO.run 1 rfl ?_
                    refine TieO.nil ?_
                    refine TieS.seq ?_
                    refine TieS.cond rfl ?_ ?_
                    · refine TieS.skip ?_
                      refine TieS.seq ?_
                      refine TieX.sub (σ' := ⟨[(5, .t (tI (w64 (1 + (Int.tmod (w64 n2) 16))))), (6, .ptr 6 0), (8, .own 2368), (9, .t (tI s5.1)), (47, .t (tS enc_Smagnetolaw24_Op script)), (48, .t (tI (script.length : Int))), (49, .t (tI i)), (174, .t (tS enc_SChannel s2.2.2.Channels)), (175, .t (tI (s2.2.2.Channels.length : Int))), (176, .t (tI i3))], [(6, .box [.t (tI s2.2.2.Now), .t (tS enc_SChannel s2.2.2.Channels)]), (2368, .rows 4 1 s5.2.length (s5.2.map Pv.encB))]⟩) (.of rfl rfl) ?_
                      refine TieS.bind (Q₁ := fun f e σ' => match f with | .next t => e = .normal ∧ Sub ⟨[(5, .t (tI (w64 (1 + (Int.tmod (w64 n2) 16))))), (6, .ptr 6 0), (8, .own 2368), (9, .t (tI s5.1)), (47, .t (tS enc_Smagnetolaw24_Op script)), (48, .t (tI (script.length : Int))), (49, .t (tI i)), (174, .t (tS enc_SChannel s2.2.2.Channels)), (175, .t (tI (s2.2.2.Channels.length : Int))), (176, .t (tI i3))], [(6, .box [.t (tI s2.2.2.Now), .t (tS enc_SChannel s2.2.2.Channels)]), (2368, .rows 4 1 s5.2.length (s5.2.map Pv.encB))]⟩ σ' | .brk t => e = .exit 5 ∧ Sub ⟨[(5, .t (tI (w64 (1 + (Int.tmod (w64 n2) 16))))), (6, .ptr 6 0), (8, .own 2368), (9, .t (tI s5.1)), (47, .t (tS enc_Smagnetolaw24_Op script)), (48, .t (tI (script.length : Int))), (49, .t (tI i))], [(6, .box [.t (tI s2.2.2.Now), .t (tS enc_SChannel s2.2.2.Channels)]), (2368, .rows 4 1 s5.2.length (s5.2.map Pv.encB))]⟩ σ' | .ret t => e = .ret ∧ retT tab σ' [.tmp 4] = some (((fun r => .t (tB r)) : Bool → T) t)) ?_ ?_
                      · refine TieS.block ?_
                        refine TieS.seq ?_
                        refine TieS.region ?_
                        refine TieO.run 1 rfl ?_
                        refine TieO.index rfl rfl rfl rfl rfl rfl rfl rfl (fun _ => rfl) fun x5 hx5 => ?_
                        refine TieO.run 4 rfl ?_
                        refine TieO.nil ?_
                        refine TieS.seq ?_
                        refine TieX.pre fun x6 hx6 => ?_
                        refine TieS.draw 7 [.ptr 18 3, .t (tB x5.Level), .own 2368, .t (tI i3), .pe 2368 (Int.toNat i3) 1 0, .t (tB x6), .t (tB (!(x5.Level == x6)))] [(5, .t (tI (w64 (1 + (Int.tmod (w64 n2) 16))))), (6, .ptr 6 0), (8, .own 2368), (9, .t (tI s5.1)), (17, .t (tI i3)), (18, .ptr 18 0), (47, .t (tS enc_Smagnetolaw24_Op script)), (48, .t (tI (script.length : Int))), (49, .t (tI i)), (174, .t (tS enc_SChannel s2.2.2.Channels)), (175, .t (tI (s2.2.2.Channels.length : Int))), (176, .t (tI i3))] [(6, .box [.t (tI s2.2.2.Now), .t (tS enc_SChannel s2.2.2.Channels)]), (18, .box [.t (tB x5.Armed), .t (tI x5.At), .t (tB x5.Next), .t (tB x5.Level)]), (2368, .rows 4 1 s5.2.length (s5.2.map Pv.encB))] mixed (.of rfl rfl) rfl rfl rfl rfl (.cons (.quiet rfl rfl rfl) (.cons (.quiet rfl rfl rfl) (.cons (.quiet rfl rfl rfl) (.cons (.quiet rfl rfl rfl) (.cons (.indexO (sz := 1) hx6 rfl rfl rfl rfl rfl rfl rfl rfl) (.cons (.loadY hx6 rfl rfl rfl rfl rfl rfl) (.cons (.quiet rfl rfl rfl) (.nil)))))))) ?_
                        refine TieO.nil ?_
                        refine TieS.cond rfl ?_ ?_
                        · refine TieS.seq ?_
                          refine TieS.region ?_
                          refine TieO.run 1 rfl ?_
                          refine TieO.nil ?_
                          exact TieS.ret ⟨rfl, rfl⟩
                        · refine TieS.skip ?_
                          refine TieS.endb ?_
                          exact TieS.leaf ⟨rfl, .of rfl rfl⟩
                      rintro (t | t | t) e σ' _ hq
                      · obtain ⟨rfl, hs⟩ := hq
                        refine TieX.sub hs ?_
                        refine TieS.region ?_
                        refine TieO.run 2 rfl ?_
                        refine TieO.nil ?_
                        exact TieS.leaf ⟨rfl, .of rfl rfl⟩
                      · obtain ⟨rfl, hs⟩ := hq
                        exact TieX.exitOut rfl ⟨(fun h => by cases h), rfl, hs⟩
                      · obtain ⟨rfl, hs⟩ := hq
                        exact TieX.ret ⟨(fun h => by cases h), rfl, hs⟩
                    · exact TieS.exitOut rfl ⟨(fun h => by cases h), rfl, .of rfl rfl⟩
                  rintro (s7 | r7) e σ' _ hq
                  · obtain ⟨rfl, hs⟩ := hq
                    refine TieX.exit rfl (TieX.sub hs ?_)
                    refine TieS.endb ?_
                    exact TieS.leaf ⟨rfl, .of rfl rfl⟩
                  · obtain ⟨rfl, hs⟩ := hq
                    exact TieX.ret ⟨rfl, hs⟩
                · obtain ⟨rfl, hs⟩ := hq
                  exact TieX.ret ⟨rfl, hs⟩
          rintro (t | t | t) e σ' _ hq
          · obtain ⟨rfl, hs⟩ := hq
            refine TieX.sub hs ?_
            refine TieS.region ?_
            refine TieO.run 2 rfl ?_
            refine TieO.nil ?_
            exact TieS.leaf ⟨rfl, .of rfl rfl⟩
          · obtain ⟨rfl, hs⟩ := hq
            exact TieX.exitOut rfl ⟨(fun h => by cases h), rfl, hs⟩
          · obtain ⟨rfl, hs⟩ := hq
            exact TieX.ret ⟨(fun h => by cases h), rfl, hs⟩
        · exact TieS.exitOut rfl ⟨(fun h => by cases h), rfl, .of rfl rfl⟩
      rintro (s8 | r9) e σ' _ hq
      · obtain ⟨rfl, hs⟩ := hq
        refine TieX.exit rfl (TieX.sub hs ?_)
        refine TieS.seq ?_
        refine TieS.region ?_
        refine TieO.run 1 rfl ?_
        refine TieO.nil ?_
        exact TieS.ret ⟨.inl rfl, rfl⟩
      · obtain ⟨rfl, hs⟩ := hq
        exact TieX.ret ⟨.inl rfl, hs⟩
-- slices.Grow[[]magneto/api.Switch,magneto/api.Switch]
set_option maxRecDepth 100000 in
theorem tie_slices_Grow_sSwitch (n2 : Int) : TieG Try.prog 35 [.t (.v (.slice none 0 0)), .t (tI n2)] [] (slices_Grow_sSwitch n2) (fun _ => .own 900000) (fun r => [(900000, .rows 35 3 r.length (r.map enc_SSwitch))]) := by
  refine TieG.intro htab 27 [.tmp 4] Try.call35 Try.func35 rfl rfl rfl (Nat.le_of_ble_eq_true rfl) fun w0 L => ?_
  refine TieS.seq ?_
  refine TieS.region ?_
  refine TieO.run 1 rfl ?_
  refine TieO.nil ?_
  refine TieS.seq ?_
  refine TieS.seq ?_
  refine TieS.region ?_
  refine TieO.run 2 rfl ?_
  refine TieO.nil ?_
  refine TieS.bind (Q₁ := fun t e σ' => e = .normal ∧ Sub ⟨[(0, .t (.v (.slice none 0 0))), (1, .t (tI n2))], []⟩ σ') ?_ ?_
  · refine TieS.cond rfl ?_ ?_
    · refine TieS.region ?_
      exact TieO.fail
    · refine TieS.skip ?_
      exact TieS.leaf ⟨rfl, .of rfl rfl⟩
  rintro s e σ' _ ⟨rfl, hs⟩
  refine TieX.sub hs ?_
  refine TieS.seq ?_
  refine TieS.seq ?_
  refine TieS.region ?_
  refine TieO.run 2 rfl ?_
  refine TieO.capNil rfl rfl rfl rfl rfl rfl ?_
  refine TieO.run 5 rfl ?_
  refine TieO.nil ?_
  refine TieS.seq ?_
  refine TieS.region ?_
  refine TieO.run 2 rfl ?_
  refine TieO.nil ?_
  refine TieS.cond rfl ?_ ?_
  · refine TieS.region ?_
    refine TieO.run 2 rfl ?_
    refine TieO.capNil rfl rfl rfl rfl rfl rfl ?_
    refine TieO.sliceNil rfl rfl rfl rfl rfl rfl rfl rfl ?_
    refine TieO.run 1 rfl ?_
    refine TieO.appendN (enc := enc_SSwitch) 2176 (⟨0, 0, false⟩ : SSwitch) rfl rfl rfl rfl rfl rfl rfl rfl rfl rfl rfl rfl rfl rfl rfl fun l hl => ?_
    refine TieO.run 2 rfl ?_
    refine TieO.sliceO (id' := 2200) (tm' := [(0, .t (.v (.slice none 0 0))), (1, .t (tI (w64 (n2 - (w64 (0 - 0)))))), (8, .t (tI n2)), (9, .t (.v (.slice none 0 0))), (10, .t (tI 0)), (11, .t (.v (.slice none 0 0))), (12, .t (tI 0)), (13, .t (tI (w64 (0 - 0)))), (14, .t (tI (w64 (n2 - (w64 (0 - 0)))))), (15, .t (tI (w64 (n2 - (w64 (0 - 0)))))), (16, .t (tB (decide ((w64 (n2 - (w64 (0 - 0)))) > 0)))), (17, .t (.v (.slice none 0 0))), (18, .t (.v (.slice none 0 0))), (19, .t (tI 0)), (20, .t (.v (.slice none 0 0))), (21, .t (tI (w64 (n2 - (w64 (0 - 0)))))), (23, .t (.v (.slice none 0 0))), (24, .t (tI 0))]) (hp' := []) rfl rfl rfl rfl rfl rfl rfl rfl rfl (.of rfl rfl) rfl rfl rfl rfl fun l2 hl2 => ?_
    refine TieO.run 1 rfl ?_
    refine TieO.nil ?_
    refine TieS.seq ?_
    refine TieS.region ?_
    refine TieO.run 2 rfl ?_
    refine TieO.nil ?_
    exact TieS.ret ⟨.inl rfl, ⟨[(2200, 900000)], _, _, rfl, rfl, rfl, rfl, rfl⟩⟩
  · refine TieS.skip ?_
    refine TieS.seq ?_
    refine TieS.region ?_
    refine TieO.run 2 rfl ?_
    refine TieO.nil ?_
    refine TieX.nilP 4 70000 35 3 [] rfl rfl rfl rfl rfl ?_
    exact TieS.ret ⟨.inl rfl, ⟨[(70000, 900000)], _, _, rfl, rfl, rfl, rfl, rfl⟩⟩
-- slices.Concat[[]magneto/api.Switch,magneto/api.Switch]
set_option maxRecDepth 100000 in
theorem tie_slices_Concat_sSwitch (slices : List (List SSwitch)) : TieF Try.prog 27 [.t (tS (Pv.encS enc_SSwitch) slices)] (slices_Concat_sSwitch slices) (fun r => .t (tS enc_SSwitch r)) := by
  refine TieF.intro htab 36 [.tmp 2] Try.call27 Try.func27 rfl rfl rfl (Nat.le_of_ble_eq_true rfl) fun w0 L => ?_
  refine TieS.seq ?_
  refine TieS.region ?_
  refine TieO.run 1 rfl ?_
  refine TieO.nil ?_
  refine TieS.seq ?_
  refine TieS.region ?_
  refine TieO.run 1 rfl ?_
  refine TieO.nil ?_
  refine TieS.seq ?_
  refine TieS.seq ?_
  refine TieS.region ?_
  refine TieO.run 3 rfl ?_
  refine TieO.nil ?_
  refine TieS.block ?_
  refine TieS.loop (fun p => ⟨[(0, .t (tS (Pv.encS enc_SSwitch) slices)), (3, .t (tI p.2)), (9, .t (tS (Pv.encS enc_SSwitch) slices)), (10, .t (tI (slices.length : Int))), (11, .t (tI p.1))], []⟩) (fun b e σ' => match b with | .inl t => e = .exit 0 ∧ Sub ⟨[(0, .t (tS (Pv.encS enc_SSwitch) slices)), (3, .t (tI t))], []⟩ σ' | .inr t => False) (.of rfl rfl) ?_ ?_
  · rintro ⟨i, size⟩
    refine TieS.seq ?_
    refine TieS.region ?_
    refine TieO.run 1 rfl ?_
    refine TieO.nil ?_
    refine TieS.seq ?_
    refine TieS.cond rfl ?_ ?_
    · refine TieS.skip ?_
      refine TieS.seq ?_
      refine TieX.pre fun x hx => ?_
      refine TieX.sub (σ' := ⟨[(0, .t (tS (Pv.encS enc_SSwitch) slices)), (3, .t (tI size)), (9, .t (tS (Pv.encS enc_SSwitch) slices)), (10, .t (tI (slices.length : Int))), (11, .t (tI i))], []⟩) (.of rfl rfl) ?_
      refine TieS.bind (Q₁ := fun f e σ' => match f with | .next t => e = .normal ∧ Sub ⟨[(0, .t (tS (Pv.encS enc_SSwitch) slices)), (3, .t (tI t)), (9, .t (tS (Pv.encS enc_SSwitch) slices)), (10, .t (tI (slices.length : Int))), (11, .t (tI i))], []⟩ σ' | .brk t => e = .exit 0 ∧ Sub ⟨[(0, .t (tS (Pv.encS enc_SSwitch) slices)), (3, .t (tI t))], []⟩ σ' | .ret r => False) ?_ ?_
      · refine TieS.block ?_
        refine TieS.seq ?_
        refine TieS.region ?_
        refine TieO.indexH hx rfl rfl rfl rfl rfl rfl rfl rfl (fun _ => rfl) ?_
        refine TieO.run 2 rfl ?_
        refine TieO.nil ?_
        refine TieS.seq ?_
        refine TieS.region ?_
        refine TieO.run 5 rfl ?_
        refine TieO.nil ?_
        refine TieS.seq ?_
        refine TieS.region ?_
        refine TieO.run 2 rfl ?_
        refine TieO.nil ?_
        refine TieS.cond rfl ?_ ?_
        · refine TieS.region ?_
          exact TieO.fail
        · refine TieS.skip ?_
          refine TieS.endb ?_
          exact TieS.leaf ⟨rfl, .of rfl rfl⟩
      rintro (t | t | r) e σ' _ hq
      · obtain ⟨rfl, hs⟩ := hq
        refine TieX.sub hs ?_
        refine TieS.region ?_
        refine TieO.run 2 rfl ?_
        refine TieO.nil ?_
        exact TieS.leaf ⟨rfl, .of rfl rfl⟩
      · obtain ⟨rfl, hs⟩ := hq
        exact TieX.exitOut rfl ⟨(fun h => by cases h), rfl, hs⟩
      · exact hq.elim
    · exact TieS.exitOut rfl ⟨(fun h => by cases h), rfl, .of rfl rfl⟩
  rintro (size2 | r) e σ' _ hq
  · obtain ⟨rfl, hs⟩ := hq
    refine TieX.exit rfl (TieX.sub hs ?_)
    refine TieS.seq ?_
    refine TieS.region ?_
    refine TieO.run 1 rfl ?_
    refine TieO.callG [] [(900000, 2192)] (fun v => ⟨[(0, .t (tS (Pv.encS enc_SSwitch) slices)), (3, .t (tI size2)), (23, .t (tI size2)), (24, .own 2192)], [(2192, .rows 35 3 v.length (v.map enc_SSwitch))]⟩) (tie_slices_Grow_sSwitch size2) rfl rfl rfl rfl rfl rfl rfl (fun _ => rfl) (fun _ => rfl) (fun _ => rfl) (fun _ => .of rfl rfl) fun v hv => ?_
    refine TieO.run 1 rfl ?_
    refine TieO.nil ?_
    refine TieS.seq ?_
    refine TieS.seq ?_
    refine TieS.region ?_
    refine TieO.run 3 rfl ?_
    refine TieO.nil ?_
    refine TieS.block ?_
    refine TieS.loop (fun p => ⟨[(6, .own 2192), (25, .t (tS (Pv.encS enc_SSwitch) slices)), (26, .t (tI (slices.length : Int))), (27, .t (tI p.1))], [(2192, .rows 35 3 p.2.length (p.2.map enc_SSwitch))]⟩) (fun b e σ' => match b with | .inl t => e = .exit 2 ∧ Sub ⟨[(6, .own 2192)], [(2192, .rows 35 3 t.length (t.map enc_SSwitch))]⟩ σ' | .inr t => False) (.of rfl rfl) ?_ ?_
    · rintro ⟨i2, f2⟩
      refine TieS.seq ?_
      refine TieS.region ?_
      refine TieO.run 1 rfl ?_
      refine TieO.nil ?_
      refine TieS.seq ?_
      refine TieS.cond rfl ?_ ?_
      · refine TieS.skip ?_
        refine TieS.seq ?_
        refine TieX.pre fun x2 hx2 => ?_
        refine TieX.sub (σ' := ⟨[(6, .own 2192), (25, .t (tS (Pv.encS enc_SSwitch) slices)), (26, .t (tI (slices.length : Int))), (27, .t (tI i2))], [(2192, .rows 35 3 f2.length (f2.map enc_SSwitch))]⟩) (.of rfl rfl) ?_
        refine TieS.bind (Q₁ := fun f e σ' => match f with | .next t => e = .normal ∧ Sub ⟨[(6, .own 2192), (25, .t (tS (Pv.encS enc_SSwitch) slices)), (26, .t (tI (slices.length : Int))), (27, .t (tI i2))], [(2192, .rows 35 3 t.length (t.map enc_SSwitch))]⟩ σ' | .brk t => e = .exit 2 ∧ Sub ⟨[(6, .own 2192)], [(2192, .rows 35 3 t.length (t.map enc_SSwitch))]⟩ σ' | .ret r => False) ?_ ?_
        · refine TieS.block ?_
          refine TieS.seq ?_
          refine TieS.region ?_
          refine TieO.indexH hx2 rfl rfl rfl rfl rfl rfl rfl rfl (fun _ => rfl) ?_
          refine TieO.run 2 rfl ?_
          refine TieO.nil ?_
          refine TieS.region ?_
          refine TieO.run 2 rfl ?_
          refine TieO.appendY (id := 2192) (e' := 0) (l := f2) (r := x2) (tm' := [(8, .t (tS enc_SSwitch x2)), (25, .t (tS (Pv.encS enc_SSwitch) slices)), (26, .t (tI (slices.length : Int))), (27, .t (tI i2)), (29, .el ((Pv.encS enc_SSwitch) x2)), (30, .t (tS enc_SSwitch x2)), (32, .t (tS enc_SSwitch x2))]) (hp' := []) rfl rfl rfl rfl rfl rfl rfl (fun _ => rfl) (fun _ => rfl) (.inl ⟨rfl, rfl⟩) (.inl rfl) (.of rfl rfl) rfl rfl rfl fun l => ?_
          refine TieO.run 1 rfl ?_
          refine TieO.nil ?_
          refine TieS.endb ?_
          exact TieS.leaf ⟨rfl, .of rfl rfl⟩
        rintro (t | t | r) e σ' _ hq
        · obtain ⟨rfl, hs⟩ := hq
          refine TieX.sub hs ?_
          refine TieS.region ?_
          refine TieO.run 2 rfl ?_
          refine TieO.nil ?_
          exact TieS.leaf ⟨rfl, .of rfl rfl⟩
        · obtain ⟨rfl, hs⟩ := hq
          exact TieX.exitOut rfl ⟨(fun h => by cases h), rfl, hs⟩
        · exact hq.elim
      · exact TieS.exitOut rfl ⟨(fun h => by cases h), rfl, .of rfl rfl⟩
    rintro (f3 | r) e σ' _ hq
    · obtain ⟨rfl, hs⟩ := hq
      refine TieX.exit rfl (TieX.sub hs ?_)
      refine TieS.seq ?_
      refine TieS.region ?_
      refine TieO.run 2 rfl ?_
      refine TieO.nil ?_
      exact TieS.ret ⟨.inl rfl, rfl⟩
    · exact hq.elim
  · exact hq.elim
-- magneto/magnetolaw24.TimerSplits
set_option maxRecDepth 100000 in
theorem tie_magnetolaw24_TimerSplits (t2 : STimer) (a : Int) (b2 : Int) : TieF Try.prog 9 [A_STimer t2, .t (tI a), .t (tI b2)] (magnetolaw24_TimerSplits t2 a b2) (fun r => .t (tB r)) := by
  refine TieF.intro htab 79 [.tmp 6] Try.call9 Try.func9 rfl rfl rfl (Nat.le_of_ble_eq_true rfl) fun w0 L => ?_
  refine TieS.seq ?_
  refine TieS.region ?_
  refine TieO.run 2 rfl ?_
  refine TieO.nil ?_
  refine TieS.seq ?_
  refine TieS.seq ?_
  refine TieS.region ?_
  refine TieO.call _ rfl rfl rfl (tie_magnetolaw24_awake) (fun _ => rfl) fun v => ?_
  refine TieO.run 2 rfl ?_
  refine TieO.selOr (v := decide ((t2.Channels.length : Int) > 100)) 5 18 (fun b => ⟨[(1, .t (tI a)), (2, .t (tI b2)), (3, .ptr 3 0), (23, .t (tB b))], [(3, .box [.t (tI t2.Now), .t (tS enc_SChannel t2.Channels)])]⟩) rfl ?_ ?_ ?_
  · refine TieO.run 5 rfl ?_
    refine TieO.nil ?_
    exact TieS.leaf ⟨rfl, .of rfl rfl⟩
  · refine TieO.run 5 rfl ?_
    refine TieO.nil ?_
    exact TieS.leaf ⟨rfl, .of rfl rfl⟩
  refine TieO.nil ?_
  refine TieS.cond rfl ?_ ?_
  · refine TieS.seq ?_
    refine TieS.region ?_
    refine TieO.call _ rfl rfl rfl (tie_magnetolaw24_awake) (fun _ => rfl) fun v2 => ?_
    refine TieO.run 1 rfl ?_
    refine TieO.nil ?_
    exact TieS.ret ⟨.inl rfl, rfl⟩
  · refine TieS.skip ?_
    refine TieS.seq ?_
    refine TieS.region ?_
    refine TieO.run 2 rfl ?_
    refine TieO.call _ rfl rfl rfl (tie_timer_Advance t2 a) (fun _ => rfl) fun r2 => ?_
    refine TieO.run 8 rfl ?_
    refine TieO.nil ?_
    refine TieS.seq ?_
    refine TieS.seq ?_
    refine TieS.region ?_
    refine TieO.run 2 rfl ?_
    refine TieO.nil ?_
    refine TieS.cond rfl ?_ ?_
    · refine TieS.seq ?_
      refine TieS.region ?_
      refine TieO.run 1 rfl ?_
      refine TieO.call _ rfl rfl rfl (tie_magnetolaw24_none r2.1) (fun _ => rfl) fun v3 => ?_
      refine TieO.run 1 rfl ?_
      refine TieO.selAnd (v := ((r2.2.1.length : Int) == 0)) 4 36 (fun b => ⟨[(40, .t (tB b))], []⟩) rfl ?_ ?_ ?_
      · refine TieO.run 4 rfl ?_
        refine TieO.nil ?_
        exact TieS.leaf ⟨rfl, .of rfl rfl⟩
      · refine TieO.run 4 rfl ?_
        refine TieO.nil ?_
        exact TieS.leaf ⟨rfl, .of rfl rfl⟩
      refine TieO.run 1 rfl ?_
      refine TieO.nil ?_
      exact TieS.ret ⟨.inl rfl, rfl⟩
    · refine TieS.skip ?_
      refine TieS.seq ?_
      refine TieS.region ?_
      refine TieO.run 2 rfl ?_
      refine TieO.call _ rfl rfl rfl (tie_timer_Advance r2.1 b2) (fun _ => rfl) fun r3 => ?_
      refine TieO.run 8 rfl ?_
      refine TieO.nil ?_
      refine TieS.seq ?_
      refine TieS.region ?_
      refine TieO.run 2 rfl ?_
      refine TieO.call _ rfl rfl rfl (tie_timer_Advance t2 b2) (fun _ => rfl) fun r4 => ?_
      refine TieO.run 8 rfl ?_
      refine TieO.nil ?_
      refine TieS.seq ?_
      refine TieS.seq ?_
      refine TieS.region ?_
      refine TieO.run 2 rfl ?_
      refine TieO.nil ?_
      refine TieS.cond rfl ?_ ?_
      · refine TieS.seq ?_
        refine TieS.region ?_
        refine TieO.run 1 rfl ?_
        refine TieO.call _ rfl rfl rfl (tie_magnetolaw24_none r3.1) (fun _ => rfl) fun v4 => ?_
        refine TieO.run 1 rfl ?_
        refine TieO.selAnd (v := ((r3.2.1.length : Int) == 0)) 4 59 (fun b => ⟨[(63, .t (tB b))], []⟩) rfl ?_ ?_ ?_
        · refine TieO.run 4 rfl ?_
          refine TieO.nil ?_
          exact TieS.leaf ⟨rfl, .of rfl rfl⟩
        · refine TieO.run 4 rfl ?_
          refine TieO.nil ?_
          exact TieS.leaf ⟨rfl, .of rfl rfl⟩
        refine TieO.run 1 rfl ?_
        refine TieO.nil ?_
        exact TieS.ret ⟨.inl rfl, rfl⟩
      · refine TieS.skip ?_
        refine TieS.seq ?_
        refine TieS.region ?_
        refine TieO.run 3 rfl ?_
        refine TieO.bind 4 (fun b3 => ⟨[(8, .t (tS enc_SSwitch r2.2.1)), (11, .t (tS enc_SSwitch r3.2.1)), (14, .t (tS enc_SSwitch r4.2.1)), (70, .t (tB b3))], []⟩) (TieO.split 66 rfl ?_ ?_) fun b3 _ => ?_
        · refine TieO.run 2 rfl ?_
          refine TieO.call _ rfl rfl rfl (tie_magnetoref24_Same r3.1 r4.1) (fun _ => rfl) fun v5 => ?_
          refine TieO.run 1 rfl ?_
          refine TieO.nil ?_
          exact TieS.leaf ⟨rfl, .of rfl rfl⟩
        · refine TieO.run 4 rfl ?_
          refine TieO.nil ?_
          exact TieS.leaf ⟨rfl, .of rfl rfl⟩
        refine TieO.run 1 rfl ?_
        refine TieO.bind 7 (fun b4 => ⟨[(78, .t (tB b4))], []⟩) (TieO.split 71 rfl ?_ ?_) fun b4 _ => ?_
        · refine TieO.run 3 rfl ?_
          refine TieO.frz 74 rfl ?_
          refine TieO.call _ rfl rfl rfl (tie_slices_Concat_sSwitch ([r2.2.1, r3.2.1] : List (List SSwitch))) (fun _ => rfl) fun v6 => ?_
          refine TieO.run 1 rfl ?_
          refine TieO.call _ rfl rfl rfl (tie_slices_Equal_sSwitch v6 r4.2.1) (fun _ => rfl) fun v7 => ?_
          refine TieO.run 1 rfl ?_
          refine TieO.nil ?_
          exact TieS.leaf ⟨rfl, .of rfl rfl⟩
        · refine TieO.run 7 rfl ?_
          refine TieO.nil ?_
          exact TieS.leaf ⟨rfl, .of rfl rfl⟩
        refine TieO.run 1 rfl ?_
        refine TieO.nil ?_
        exact TieS.ret ⟨.inl rfl, rfl⟩
end Go.Proofs.Ytbkjebepjcnklaa

/- This file joins: The walk reckoned, part S: library functions on strings, by the kit's contracts. Models and ties of a few library functions, printed by gen3.py. Models that know their code, printed by gen3.py. ecu.Explain: its walk, and its contract for the machine (what it returns: exM). Models that know their code, printed by gen3.py. -/
import Derived.Test.YtjhedhnghldjbaaGreatDoorEcuExplainsI
import Derived.Shelf.Strconv.Itoa3
import Derived.Shelf.Strings.OnBuilder
import Derived.Shelf.Strings.Prefix
import Derived.Shelf.Strings.Count
import Derived.WalkKit
import Derived.LoopTactic
import Derived.BigCall
import Derived.Deep.RegionHeld3
import Derived.Lib.Hide
import Derived.Shelf.Strings.BuilderK
import Derived.Lib.OthersKept
import Derived.Laws.Concat
import Derived.Lib.Join
import Derived.Lib.ItoaLen
set_option linter.unusedSimpArgs false
set_option linter.unusedVariables false
namespace Go.Pv
open Go.RowKit Go.Shelf Go.Proofs Go.Sort
/-- strconv.Itoa -/
def itoaM (n : Int) : Option ByteArray := if -9223372036854775808 ≤ n ∧ n ≤ 9223372036854775807 then some ⟨(Lib.itoa n).toArray⟩ else none
theorem grow_keep (w : World) (k : Nat) (os : Array Obj) : Keep true (fun _ => False) w (grow (w.drewN k) os) := by
  refine ⟨rfl, rfl, rfl, ?_, fun i hi _ => ?_, ?_⟩
  · simp [grow, World.drewN]
  · simp [grow, World.drewN, Array.getElem?_append_left hi]
  · intro _; simp [grow, World.drewN]
theorem itoa_tie {P : Program} {ρ : Ren} (L : LaysM.n171 P ρ) (hc : ∀ vs w, (callFunc (ρ.f 171) vs).run P w = .ok (.enter (ρ.f 171) vs) w) {b : Nat} (hg : P.globalNamed glN = some b) (n : Int) :
    TieF P (ρ.f 171) [.t (tI n)] (itoaM n) (fun r => .t (.v (.string r))) := by
  refine ⟨hc, fun r hr w S E vs hgl hS hv => ?_⟩
  unfold itoaM at hr
  split at hr <;> try (cases hr; done)
  rename_i hn
  cases hr
  obtain rfl := hv.get1
  refine (Any.strconv_Itoa L n hn.1 hn.2 w (hgl b hg).2.2).mono fun e w' ⟨he, k, os, hw⟩ => ?_
  subst hw
  exact ⟨_, S, he, .t (.v _), grow_keep w k os, fun b hb => Nat.lt_of_lt_of_le (hS b hb) (grow_keep w k os).size, fun b hb => .inl hb⟩
theorem Keep.below {w w' : World} (h : Below w.heap.size w w') : Keep false (fun _ => False) w w' := ⟨h.os, h.tape, h.output, h.size, fun k hk _ => h.block k hk, fun h => by cases h⟩
end Go.Pv
namespace Go.Pv
open Go
noncomputable def math_bits_Mul64 (x : Int) (y : Int) : Option (Int × Int) :=
  mul64M x y
noncomputable def math_bits_Mul (x : Int) (y : Int) : Option (Int × Int) :=
  Option.bind (math_bits_Mul64 x y) fun r2 => some (r2.1, r2.2)
noncomputable def slices_Repeat_sKnock_b1 (s3 : Int × List SKnock) : Option ((Int × List SKnock) ⊕ ((Int × List SKnock) ⊕ Empty)) :=
  bif (decide (s3.1 < (s3.2.length : Int))) then (Option.bind (Option.bind (chkM s3.1 (s3.2.length : Int) s3.2.length) fun _ => Option.bind (chkM 0 s3.1 s3.2.length) fun _ => some (w64 (s3.1 + ((min (Int.toNat s3.1 - Int.toNat 0) (Int.toNat (s3.2.length : Int) - Int.toNat s3.1) : Nat) : Int)), copyVM s3.2 s3.1 (s3.2.length : Int) 0 s3.1)) fun (s4 : Int × List SKnock) => some (.inl (s4.1, s4.2))) else (some (.inr (.inl (s3.1, s3.2))))
noncomputable def slices_Repeat_sKnock (x : List SKnock) (count : Int) : Option (List SKnock) :=
  Option.bind (bif (decide (count < 0)) then none else (some ())) fun (_ : Unit) => Option.bind (math_bits_Mul (IntKind.u64.wrap (x.length : Int)) (IntKind.u64.wrap count)) fun r2 => Option.bind (bif ((decide (r2.1 > 0)) || (decide (r2.2 > 9223372036854775807))) then none else (some ())) fun (_ : Unit) => Option.bind (makeM (w64 r2.2) (⟨0, 0, 0⟩ : SKnock)) fun l => Option.bind (loopM (slices_Repeat_sKnock_b1) ((min (x).length (l).length : Nat), copyL l x)) fun (t : (Int × List SKnock) ⊕ Empty) => match t with | .inl s5 => (some s5.2) | .inr r => r.elim
noncomputable def slices_IndexFunc_sJob_b1 (s : List SJob) (f2 : SJob → Option Bool) (i : Int) (_ : Unit) : Option (Fl Unit Int) :=
  Option.bind (getI s i) fun x => Option.bind (f2 x) fun v => bif v then (some (.ret i)) else (some (.next ()))
noncomputable def slices_IndexFunc_sJob (s : List SJob) (f2 : SJob → Option Bool) : Option Int :=
  Option.bind (rangeN (s.length : Int) (slices_IndexFunc_sJob_b1 s f2) ()) fun (t : Unit ⊕ Int) => match t with | .inl _ => (some (-1)) | .inr r2 => some r2
noncomputable def slices_DeleteFunc_sJob_b1 (del : SJob → Option Bool) (s2 : Int × Int × List SJob) : Option ((Int × Int × List SJob) ⊕ ((Int × Int × List SJob) ⊕ Empty)) :=
  bif (decide (s2.2.1 < (s2.2.2.length : Int))) then (Option.bind (getI s2.2.2 s2.2.1) fun x => Option.bind (del x) fun v2 => bif (!v2) then (Option.bind (getI s2.2.2 s2.1) fun _ => Option.bind (setM s2.2.2 s2.1 x) fun l => some (.inl (w64 (s2.1 + 1), w64 (s2.2.1 + 1), l))) else (some (.inl (s2.1, w64 (s2.2.1 + 1), s2.2.2)))) else (some (.inr (.inl (s2.1, s2.2.1, s2.2.2))))
noncomputable def slices_DeleteFunc_sJob (s : List SJob) (del : SJob → Option Bool) : Option (List SJob) :=
  Option.bind (slices_IndexFunc_sJob s del) fun v => bif (v == (-1)) then (some s) else (Option.bind (loopM (slices_DeleteFunc_sJob_b1 del) (v, w64 (v + 1), s)) fun (t : (Int × Int × List SJob) ⊕ Empty) => match t with | .inl s3 => (Option.bind (chkM s3.1 (s3.2.2.length : Int) s3.2.2.length) fun _ => Option.bind (sliceM (clearVM s3.2.2 s3.1 (s3.2.2.length : Int) (⟨(⟨0, 0, 0, 0⟩ : SEvent), 0, false, 0⟩ : SJob)) 0 s3.1) fun l2 => some l2) | .inr r => r.elim)
noncomputable def slices_IndexFunc_sSwitch_b1 (s : List SSwitch) (f2 : SSwitch → Option Bool) (i : Int) (_ : Unit) : Option (Fl Unit Int) :=
  Option.bind (getI s i) fun x => Option.bind (f2 x) fun v => bif v then (some (.ret i)) else (some (.next ()))
noncomputable def slices_IndexFunc_sSwitch (s : List SSwitch) (f2 : SSwitch → Option Bool) : Option Int :=
  Option.bind (rangeN (s.length : Int) (slices_IndexFunc_sSwitch_b1 s f2) ()) fun (t : Unit ⊕ Int) => match t with | .inl _ => (some (-1)) | .inr r2 => some r2
noncomputable def slices_DeleteFunc_sSwitch_b1 (del : SSwitch → Option Bool) (s2 : Int × Int × List SSwitch) : Option ((Int × Int × List SSwitch) ⊕ ((Int × Int × List SSwitch) ⊕ Empty)) :=
  bif (decide (s2.2.1 < (s2.2.2.length : Int))) then (Option.bind (getI s2.2.2 s2.2.1) fun x => Option.bind (del x) fun v2 => bif (!v2) then (Option.bind (getI s2.2.2 s2.1) fun _ => Option.bind (setM s2.2.2 s2.1 x) fun l => some (.inl (w64 (s2.1 + 1), w64 (s2.2.1 + 1), l))) else (some (.inl (s2.1, w64 (s2.2.1 + 1), s2.2.2)))) else (some (.inr (.inl (s2.1, s2.2.1, s2.2.2))))
noncomputable def slices_DeleteFunc_sSwitch (s : List SSwitch) (del : SSwitch → Option Bool) : Option (List SSwitch) :=
  Option.bind (slices_IndexFunc_sSwitch s del) fun v => bif (v == (-1)) then (some s) else (Option.bind (loopM (slices_DeleteFunc_sSwitch_b1 del) (v, w64 (v + 1), s)) fun (t : (Int × Int × List SSwitch) ⊕ Empty) => match t with | .inl s3 => (Option.bind (chkM s3.1 (s3.2.2.length : Int) s3.2.2.length) fun _ => Option.bind (sliceM (clearVM s3.2.2 s3.1 (s3.2.2.length : Int) (⟨0, 0, false⟩ : SSwitch)) 0 s3.1) fun l2 => some l2) | .inr r => r.elim)
end Go.Pv
namespace Go.Proofs.YtjhedhnghldjbaaGreatDoor
open Go Go.Pv Go.Proofs
set_option maxRecDepth 100000
set_option maxHeartbeats 4000000
def mul64L316_ren : Go.Shelf.Ren := ⟨fun | 264 => 316 | n => n, fun | 46 => 265 | 53 => 413 | n => n, fun  | n => n⟩
open Go.Shelf in
theorem mul64L316 : Lays.n264 Tryz.prog mul64L316_ren := {
  mixed := by kernel_rfl,
  f264 := Tryz.func316.trans (congrArg some (by kernel_rfl)),
  t46 := Tryz.underlying265,
  a46 := Tryz.isAgg265,
  z46 := Tryz.sizeOf265,
  v46 := Tryz.zeroValue265,
  t53 := Tryz.underlying413,
  a53 := Tryz.isAgg413,
  z53 := Tryz.sizeOf413,
  v53 := Tryz.zeroValue413 }
theorem otie_math_bits_Mul64 (x y : Int) : TieF Tryz.prog 316 [.t (tK .u64 x), .t (tK .u64 y)] (math_bits_Mul64 x y) (fun r => .tup [.t (tK .u64 r.1), .t (tK .u64 r.2)]) :=
  mul64_tie (ρ := mul64L316_ren) mul64L316 Tryz.call316 x y
theorem otie_math_bits_Mul (x : Int) (y : Int) : TieF Tryz.prog 223 [.t (tK .u64 x), .t (tK .u64 y)] (math_bits_Mul x y) (fun r => .tup [.t (tK .u64 r.1), .t (tK .u64 r.2)]) := by
  refine TieF.intro htab 30 [.tmp 4, .tmp 5] Tryz.call223 Tryz.func223 rfl rfl rfl (Nat.le_of_ble_eq_true rfl) fun w0 L _ _ => ?_
  refine TieS.s 6 rfl ?_
  refine TieS.condR rfl (.o 5 rfl ?_)
  refine TieO.k (otie_math_bits_Mul64 x y) rfl fun r2 => .o 8 rfl ?_
  exact TieO.r 5 rfl (rt rfl)
theorem otie_slices_Repeat_sKnock (x : List SKnock) (count : Int) : TieF Tryz.prog 136 [NS enc_SKnock x, NI count] (slices_Repeat_sKnock x count) (fun r => NS enc_SKnock r) := by
  refine TieF.intro htab 48 [.tmp 4] Tryz.call136 Tryz.func136 rfl rfl rfl (Nat.le_of_ble_eq_true rfl) fun w0 L _ _ => ?_
  refine TieS.s 5 rfl ?_
  refine TieS.s 5 rfl (.bind (Q₁ := nrm fun t => ⟨[(0, NS enc_SKnock x), (1, NI count)], []⟩) ?_ ?_)
  · refine TieS.cond rfl ?_ ?_
    · exact TieS.o 1 rfl .fail
    · exact TieS.l 1 rfl (lf rfl rfl)
  rintro s e σ' _ ⟨rfl, hs⟩
  refine TieX.sub hs (TieS.o 7 rfl (.k (otie_math_bits_Mul (IntKind.u64.wrap (x.length : Int)) (IntKind.u64.wrap count)) rfl fun r2 => ?_))
  refine TieO.o 9 rfl ?_
  refine TieO.o 3 rfl (.selOr (v := decide (r2.2 > 9223372036854775807)) 3 23 (fun b => ⟨[(0, NS enc_SKnock x), (6, .t (tK .u64 r2.2)), (26, NB b)], []⟩) rfl ?_ ?_ ?_)
  · exact TieO.l 4 rfl (lf rfl rfl)
  · exact TieO.l 4 rfl (lf rfl rfl)
  refine TieO.s 1 rfl (.bind (Q₁ := nrm fun t => ⟨[(0, NS enc_SKnock x), (6, .t (tK .u64 r2.2))], []⟩) ?_ ?_)
  · refine TieS.cond rfl ?_ ?_
    · exact TieS.o 1 rfl .fail
    · exact TieS.l 1 rfl (lf rfl rfl)
  rintro s2 e σ' _ ⟨rfl, hs⟩
  refine TieX.sub hs (TieS.o 4 rfl (.makeO (enc := enc_SKnock) 2240 (⟨0, 0, 0⟩ : SKnock) rfl rfl rfl rfl rfl rfl rfl rfl rfl rfl rfl rfl rfl fun l hl => ?_))
  refine TieO.o 6 rfl ?_
  refine TieO.copyO (e2 := 0) (l := l) (r := x) rfl rfl rfl rfl (fun _ => rfl) (fun _ => rfl) rfl rfl (.inl rfl) rfl (.s 4 rfl ?_)
  refine TieS.loop (fun t => ⟨[(7, .own 2240), (8, NI t.1)], [(2240, .rs 237 3 t.2 enc_SKnock)]⟩) (fun b e σ' => match b with | .inl t => e = .exit 0 ∧ Sub ⟨[(7, .own 2240)], [(2240, .rs 237 3 t.2 enc_SKnock)]⟩ σ' | .inr t => False) (.of rfl rfl) ?_ ?_
  · intro s3
    refine TieS.s 8 rfl ?_
    refine TieS.cond rfl ?_ ?_
    · refine TieS.s 2 rfl (.bind (Q₁ := nrm fun t => ⟨[(7, .own 2240), (8, NI t.1)], [(2240, .rs 237 3 t.2 enc_SKnock)]⟩) ?_ ?_)
      · refine TieX.pre fun u hu => TieX.pre fun u2 hu2 => TieS.draws 8 (bm 10 0) (bm 10 255) ⟨[(7, .own 2240), (8, NI s3.1), (38, NI s3.1), (45, NI ((min (Int.toNat s3.1 - Int.toNat 0) (Int.toNat (s3.2.length : Int) - Int.toNat s3.1) : Nat) : Int))], [(2240, .rs 237 3 (copyVM s3.2 s3.1 (s3.2.length : Int) 0 s3.1) enc_SKnock)]⟩ mixed (fun _ _ _ h => by cases h.1) rfl rfl rfl rfl ?_ ?_
        · refine TieA.ga 5 [0, 1, 2, 4, 5] (by kernel_rfl) rfl (.all [3, 6] (by kernel_rfl) rfl (AllA.cons (σ₁ := ⟨[(7, .own 2240), (8, NI s3.1), (38, NI s3.1), (41, .vw 2240 (Int.toNat s3.1) (Int.toNat (s3.2.length : Int) - Int.toNat s3.1) 3), (42, .own 2240), (43, NI s3.1)], [(2240, .rs 237 3 s3.2 enc_SKnock)]⟩) _ rfl rfl ?_ ?_ ?_))
          · refine TieO.withH hu (TieO.viewO rfl rfl rfl rfl rfl rfl rfl rfl rfl rfl rfl (TieO.ifG ?_))
            exact TieO.l 1 rfl (lf rfl rfl)
          · exact TieA.one 6 rfl (by kernel_rfl) (TieO.withH hu2 (TieO.viewO rfl rfl rfl rfl rfl rfl rfl rfl rfl rfl rfl (TieO.ifG (TieO.l 1 rfl ⟨rfl, rfl⟩)))) (.one 7 rfl (by kernel_rfl) (TieO.copyV hu hu2 chk_le chk_le rfl rfl rfl rfl (fun _ => rfl) (fun _ => rfl) rfl rfl rfl rfl (TieO.l 1 rfl ⟨rfl, rfl⟩)) (.done (.of rfl rfl)))
          refine AllA.cons (σ₁ := ⟨[(7, .own 2240), (8, NI s3.1), (38, NI s3.1), (39, .own 2240), (40, NI s3.1), (44, .vw 2240 (Int.toNat 0) (Int.toNat s3.1 - Int.toNat 0) 3)], [(2240, .rs 237 3 s3.2 enc_SKnock)]⟩) _ rfl rfl ?_ ?_ ?_
          · refine TieO.withH hu2 (TieO.viewO rfl rfl rfl rfl rfl rfl rfl rfl rfl rfl rfl (TieO.ifG ?_))
            exact TieO.l 1 rfl (lf rfl rfl)
          · exact TieA.one 3 rfl (by kernel_rfl) (TieO.withH hu (TieO.viewO rfl rfl rfl rfl rfl rfl rfl rfl rfl rfl rfl (TieO.ifG (TieO.l 1 rfl ⟨rfl, rfl⟩)))) (.one 7 rfl (by kernel_rfl) (TieO.copyV hu hu2 chk_le chk_le rfl rfl rfl rfl (fun _ => rfl) (fun _ => rfl) rfl rfl rfl rfl (TieO.l 1 rfl ⟨rfl, rfl⟩)) (.done (.of rfl rfl)))
          exact AllA.nil
        exact TieO.l 3 rfl (lf rfl rfl)
      rintro s4 e σ' _ ⟨rfl, hs⟩
      exact TieX.sub hs (TieS.l 1 rfl (lf rfl rfl))
    · exact TieS.exitOut rfl ⟨(fun h => by cases h), rfl, .of rfl rfl⟩
  rintro (s5 | r) e σ' _ hq
  · obtain ⟨rfl, hs⟩ := hq
    refine TieX.exit rfl (TieX.sub hs ?_)
    exact TieS.r 5 rfl (rt rfl)
  · exact hq.elim
theorem otie_slices_IndexFunc_sJob (s : List SJob) (n2 : Nat) (cs : List (List Tree)) (f2 : SJob → Option Bool) (h2 : ∀ x0, TieF Tryz.prog n2 ([A_SJob x0] ++ cs.map T.el) (f2 x0) (fun r => NB r)) : TieF Tryz.prog 233 [NS enc_SJob s, .fz n2 cs] (slices_IndexFunc_sJob s f2) (fun r => NI r) := by
  refine TieF.intro htab 19 [.tmp 4] Tryz.call233 Tryz.func233 rfl rfl rfl (Nat.le_of_ble_eq_true rfl) fun w0 L _ _ => ?_
  refine TieS.s 5 rfl ?_
  refine TieS.s 7 rfl ?_
  refine TieS.loop (fun p => ⟨[(0, NS enc_SJob s), (1, .fz n2 cs), (7, NI (s.length : Int)), (8, NI p.1)], []⟩) (fun b e σ' => match b with | .inl t => e = .exit 0 ∧ Sub ⟨[], []⟩ σ' | .inr t => e = .ret ∧ retT tab σ' [.tmp 4] = some (((fun r => NI r) : Int → T) t)) (.of rfl rfl) ?_ ?_
  · rintro ⟨i, s2⟩
    refine TieS.s 5 rfl ?_
    refine TieS.cond rfl ?_ ?_
    · refine TieS.s 2 rfl (TieX.sub (σ' := ⟨[(0, NS enc_SJob s), (1, .fz n2 cs), (7, NI (s.length : Int)), (8, NI i)], []⟩) (.of rfl rfl) (TieS.bind (Q₁ := fun f e σ' => match f with | .next t => e = .normal ∧ Sub ⟨[(0, NS enc_SJob s), (1, .fz n2 cs), (7, NI (s.length : Int)), (8, NI i)], []⟩ σ' | .brk t => e = .exit 0 ∧ Sub ⟨[], []⟩ σ' | .ret t => e = .ret ∧ retT tab σ' [.tmp 4] = some (((fun r => NI r) : Int → T) t)) ?_ ?_))
      · refine TieS.s 6 rfl ?_
        refine TieS.o 5 rfl (.index rfl rfl rfl rfl rfl rfl rfl rfl (fun _ => rfl) fun x hx => .o 1 rfl ?_)
        refine TieO.k (h2 x) rfl fun v => .s 1 rfl (.cond rfl ?_ ?_)
        · exact TieS.r 5 rfl ⟨rfl, rfl⟩
        · exact TieS.l 2 rfl (lf rfl rfl)
      rintro (t | t | t) e σ' _ hq
      · obtain ⟨rfl, hs⟩ := hq
        exact TieX.sub hs (TieS.l 4 rfl (lf rfl rfl))
      · obtain ⟨rfl, hs⟩ := hq
        exact TieX.exitOut rfl ⟨(fun h => by cases h), rfl, hs⟩
      · obtain ⟨rfl, hs⟩ := hq
        exact TieX.ret ⟨(fun h => by cases h), rfl, hs⟩
    · exact TieS.exitOut rfl ⟨(fun h => by cases h), rfl, .of rfl rfl⟩
  rintro (s3 | r2) e σ' _ hq
  · obtain ⟨rfl, hs⟩ := hq
    refine TieX.exit rfl (TieX.sub hs ?_)
    exact TieS.r 4 rfl (rt rfl)
  · obtain ⟨rfl, hs⟩ := hq
    exact TieX.ret ⟨.inl rfl, hs⟩
theorem otie_slices_DeleteFunc_sJob (s : List SJob) (n2 : Nat) (cs : List (List Tree)) (del : SJob → Option Bool) (h2 : ∀ x0, TieF Tryz.prog n2 ([A_SJob x0] ++ cs.map T.el) (del x0) (fun r => NB r)) : TieG Tryz.prog 371 [.own 1000000, .fz n2 cs] [(1000000, .rs 248 7 s enc_SJob)] (slices_DeleteFunc_sJob s del) (fun _ => .own 900000) (fun r => [(900000, .rs 248 7 r enc_SJob)]) := by
  refine TieG.intro htab 42 [.tmp 4] Tryz.call371 Tryz.func371 rfl rfl rfl (Nat.le_of_ble_eq_true rfl) fun w0 L _ _ => ?_
  refine TieS.s 5 rfl ?_
  refine TieS.o 3 rfl (.callS _ rfl rfl rfl (otie_slices_IndexFunc_sJob s n2 cs del h2) (fun _ => rfl) (fun _ => rfl) fun v => .s 2 rfl ?_)
  refine TieS.s 6 rfl ?_
  refine TieS.cond rfl ?_ ?_
  · exact TieS.r 5 rfl (rt (⟨[(1000000, 900000)], _, _, rfl, rfl, rfl, rfl, rfl⟩))
  · refine TieS.o 7 rfl ?_
    refine TieO.s 2 rfl (.loop (fun t => ⟨[(0, .own 1000000), (1, .fz n2 cs), (5, NI t.1), (6, NI t.2.1)], [(1000000, .rs 248 7 t.2.2 enc_SJob)]⟩) (fun b e σ' => match b with | .inl t => e = .exit 0 ∧ Sub ⟨[(0, .own 1000000), (5, NI t.1)], [(1000000, .rs 248 7 t.2.2 enc_SJob)]⟩ σ' | .inr t => False) (.of rfl rfl) ?_ ?_)
    · intro s2
      refine TieS.s 8 rfl ?_
      refine TieS.cond rfl ?_ ?_
      · refine TieS.o 5 rfl ?_
        refine TieO.o 2 rfl (.indexO rfl rfl rfl rfl rfl rfl rfl rfl rfl rfl fun x hx => .loadY hx rfl rfl rfl rfl rfl rfl rfl rfl (.s 3 rfl ?_))
        refine TieS.o 4 rfl (.k (h2 x) rfl fun v2 => .o 1 rfl ?_)
        refine TieO.s 1 rfl (.cond rfl ?_ ?_)
        · refine TieS.o 5 rfl (.indexO rfl rfl rfl rfl rfl rfl rfl rfl rfl rfl fun x2 hx2 => .storeY x [tI x.Event.Angle, tI x.Event.Kind, tI x.Event.Cylinder, tI x.Event.Pulse, tI x.Left, tB x.Armed, tI x.At] hx2 rfl rfl rfl rfl rfl rfl rfl rfl rfl rfl rfl rfl fun l hl => ?_)
          refine TieO.s 7 rfl ?_
          exact TieS.l 5 rfl (lf rfl rfl)
        · refine TieS.s 7 rfl ?_
          exact TieS.leaf (lf rfl rfl)
      · exact TieS.exitOut rfl ⟨(fun h => by cases h), rfl, .of rfl rfl⟩
    rintro (s3 | r) e σ' _ hq
    · obtain ⟨rfl, hs⟩ := hq
      refine TieX.exit rfl (TieX.sub hs ?_)
      refine TieS.o 4 rfl (.viewO rfl rfl rfl rfl rfl rfl rfl rfl rfl rfl rfl fun u hu => .clearV (⟨(⟨0, 0, 0, 0⟩ : SEvent), 0, false, 0⟩ : SJob) hu chk_le rfl rfl rfl rfl rfl rfl rfl rfl rfl rfl rfl ?_)
      refine TieO.o 5 rfl (.sliceO (id' := 2328) (tm' := [(5, NI s3.1), (37, NI s3.1), (40, NI s3.1)]) (hp' := []) rfl rfl rfl rfl rfl rfl rfl rfl rfl (.of rfl rfl) rfl rfl rfl rfl fun l2 hl2 => ?_)
      exact TieO.r 2 rfl (rt (⟨[(2328, 900000)], _, _, rfl, rfl, rfl, rfl, rfl⟩))
    · exact hq.elim
theorem otie_slices_IndexFunc_sSwitch (s : List SSwitch) (n2 : Nat) (cs : List (List Tree)) (f2 : SSwitch → Option Bool) (h2 : ∀ x0, TieF Tryz.prog n2 ([A_SSwitch x0] ++ cs.map T.el) (f2 x0) (fun r => NB r)) : TieF Tryz.prog 375 [NS enc_SSwitch s, .fz n2 cs] (slices_IndexFunc_sSwitch s f2) (fun r => NI r) := by
  refine TieF.intro htab 19 [.tmp 4] Tryz.call375 Tryz.func375 rfl rfl rfl (Nat.le_of_ble_eq_true rfl) fun w0 L _ _ => ?_
  refine TieS.s 5 rfl ?_
  refine TieS.s 7 rfl ?_
  refine TieS.loop (fun p => ⟨[(0, NS enc_SSwitch s), (1, .fz n2 cs), (7, NI (s.length : Int)), (8, NI p.1)], []⟩) (fun b e σ' => match b with | .inl t => e = .exit 0 ∧ Sub ⟨[], []⟩ σ' | .inr t => e = .ret ∧ retT tab σ' [.tmp 4] = some (((fun r => NI r) : Int → T) t)) (.of rfl rfl) ?_ ?_
  · rintro ⟨i, s2⟩
    refine TieS.s 5 rfl ?_
    refine TieS.cond rfl ?_ ?_
    · refine TieS.s 2 rfl (TieX.sub (σ' := ⟨[(0, NS enc_SSwitch s), (1, .fz n2 cs), (7, NI (s.length : Int)), (8, NI i)], []⟩) (.of rfl rfl) (TieS.bind (Q₁ := fun f e σ' => match f with | .next t => e = .normal ∧ Sub ⟨[(0, NS enc_SSwitch s), (1, .fz n2 cs), (7, NI (s.length : Int)), (8, NI i)], []⟩ σ' | .brk t => e = .exit 0 ∧ Sub ⟨[], []⟩ σ' | .ret t => e = .ret ∧ retT tab σ' [.tmp 4] = some (((fun r => NI r) : Int → T) t)) ?_ ?_))
      · refine TieS.s 6 rfl ?_
        refine TieS.o 5 rfl (.index rfl rfl rfl rfl rfl rfl rfl rfl (fun _ => rfl) fun x hx => .o 1 rfl ?_)
        refine TieO.k (h2 x) rfl fun v => .s 1 rfl (.cond rfl ?_ ?_)
        · exact TieS.r 5 rfl ⟨rfl, rfl⟩
        · exact TieS.l 2 rfl (lf rfl rfl)
      rintro (t | t | t) e σ' _ hq
      · obtain ⟨rfl, hs⟩ := hq
        exact TieX.sub hs (TieS.l 4 rfl (lf rfl rfl))
      · obtain ⟨rfl, hs⟩ := hq
        exact TieX.exitOut rfl ⟨(fun h => by cases h), rfl, hs⟩
      · obtain ⟨rfl, hs⟩ := hq
        exact TieX.ret ⟨(fun h => by cases h), rfl, hs⟩
    · exact TieS.exitOut rfl ⟨(fun h => by cases h), rfl, .of rfl rfl⟩
  rintro (s3 | r2) e σ' _ hq
  · obtain ⟨rfl, hs⟩ := hq
    refine TieX.exit rfl (TieX.sub hs ?_)
    exact TieS.r 4 rfl (rt rfl)
  · obtain ⟨rfl, hs⟩ := hq
    exact TieX.ret ⟨.inl rfl, hs⟩
theorem otie_slices_DeleteFunc_sSwitch (s : List SSwitch) (n2 : Nat) (cs : List (List Tree)) (del : SSwitch → Option Bool) (h2 : ∀ x0, TieF Tryz.prog n2 ([A_SSwitch x0] ++ cs.map T.el) (del x0) (fun r => NB r)) : TieG Tryz.prog 308 [.own 1000000, .fz n2 cs] [(1000000, .rs 409 3 s enc_SSwitch)] (slices_DeleteFunc_sSwitch s del) (fun r => NS enc_SSwitch r) (fun _ => []) := by
  refine TieG.intro htab 42 [.tmp 4] Tryz.call308 Tryz.func308 rfl rfl rfl (Nat.le_of_ble_eq_true rfl) fun w0 L _ _ => ?_
  refine TieS.s 5 rfl ?_
  refine TieS.o 3 rfl (.callS _ rfl rfl rfl (otie_slices_IndexFunc_sSwitch s n2 cs del h2) (fun _ => rfl) (fun _ => rfl) fun v => .s 2 rfl ?_)
  refine TieS.s 6 rfl ?_
  refine TieS.cond rfl ?_ ?_
  · refine TieS.s 5 rfl (TieX.frz 1000000 rfl ?_)
    exact TieS.ret (rt (⟨[], _, _, rfl, rfl, rfl, rfl, rfl⟩))
  · refine TieS.o 7 rfl ?_
    refine TieO.s 2 rfl (.loop (fun t => ⟨[(0, .own 1000000), (1, .fz n2 cs), (5, NI t.1), (6, NI t.2.1)], [(1000000, .rs 409 3 t.2.2 enc_SSwitch)]⟩) (fun b e σ' => match b with | .inl t => e = .exit 0 ∧ Sub ⟨[(0, .own 1000000), (5, NI t.1)], [(1000000, .rs 409 3 t.2.2 enc_SSwitch)]⟩ σ' | .inr t => False) (.of rfl rfl) ?_ ?_)
    · intro s2
      refine TieS.s 8 rfl ?_
      refine TieS.cond rfl ?_ ?_
      · refine TieS.o 5 rfl ?_
        refine TieO.o 2 rfl (.indexO rfl rfl rfl rfl rfl rfl rfl rfl rfl rfl fun x hx => .loadY hx rfl rfl rfl rfl rfl rfl rfl rfl (.s 3 rfl ?_))
        refine TieS.o 4 rfl (.k (h2 x) rfl fun v2 => .o 1 rfl ?_)
        refine TieO.s 1 rfl (.cond rfl ?_ ?_)
        · refine TieS.o 5 rfl (.indexO rfl rfl rfl rfl rfl rfl rfl rfl rfl rfl fun x2 hx2 => .storeY x [tI x.At, tI x.Channel, tB x.Level] hx2 rfl rfl rfl rfl rfl rfl rfl rfl rfl rfl rfl rfl fun l hl => ?_)
          refine TieO.s 7 rfl ?_
          exact TieS.l 5 rfl (lf rfl rfl)
        · refine TieS.s 7 rfl ?_
          exact TieS.leaf (lf rfl rfl)
      · exact TieS.exitOut rfl ⟨(fun h => by cases h), rfl, .of rfl rfl⟩
    rintro (s3 | r) e σ' _ hq
    · obtain ⟨rfl, hs⟩ := hq
      refine TieX.exit rfl (TieX.sub hs ?_)
      refine TieS.o 4 rfl (.viewO rfl rfl rfl rfl rfl rfl rfl rfl rfl rfl rfl fun u hu => .clearV (⟨0, 0, false⟩ : SSwitch) hu chk_le rfl rfl rfl rfl rfl rfl rfl rfl rfl rfl rfl ?_)
      refine TieO.o 5 rfl (.frz 1000000 rfl ?_)
      exact TieO.sliceF rfl rfl rfl rfl rfl rfl rfl (fun _ => rfl) rfl rfl fun l2 hl2 => .r 2 rfl (rt (⟨[], _, _, rfl, rfl, rfl, rfl, rfl⟩))
    · exact hq.elim
theorem repE_slices_Repeat_sKnock {s r : List SKnock} {n : Int} (h : repE s n = some r) : Go.Pv.slices_Repeat_sKnock s n = some r := by
  match s, h with
  | [x], h =>
    change (if n = 1 then some [x] else none) = some r at h
    by_cases hn : n = 1
    case neg => rw [if_neg hn] at h; cases h
    subst hn
    rw [if_pos rfl] at h
    cases h
    have e : Go.Pv.slices_Repeat_sKnock [x] 1 = Option.bind (loopM Go.Pv.slices_Repeat_sKnock_b1 (1, [x])) (fun t => match t with | .inl s5 => (some s5.2) | .inr r => r.elim) := by kernel_rfl
    rw [e, loopM_out (b := .inl (1, [x])) rfl]
    rfl
  | [], h => simp [repE] at h
  | _ :: _ :: _, h => simp [repE] at h
theorem delE_slices_DeleteFunc_sJob {s r : List SJob} {f : SJob → Option Bool} (h : delE s = some r) : Go.Pv.slices_DeleteFunc_sJob s f = some r := by
  cases s with
  | nil =>
    simp only [delE, Option.some.injEq] at h
    subst h
    have h1 : rangeN (([] : List SJob).length : Int) (Go.Pv.slices_IndexFunc_sJob_b1 [] f) () = some (.inl ()) := by rw [rangeN_steps _ (by simp)]; rfl
    have h2 : Go.Pv.slices_IndexFunc_sJob [] f = some (-1) := by unfold Go.Pv.slices_IndexFunc_sJob; rw [h1]; rfl
    unfold Go.Pv.slices_DeleteFunc_sJob
    rw [h2]
    rfl
  | cons x l => simp [delE] at h
theorem delE_slices_DeleteFunc_sSwitch {s r : List SSwitch} {f : SSwitch → Option Bool} (h : delE s = some r) : Go.Pv.slices_DeleteFunc_sSwitch s f = some r := by
  cases s with
  | nil =>
    simp only [delE, Option.some.injEq] at h
    subst h
    have h1 : rangeN (([] : List SSwitch).length : Int) (Go.Pv.slices_IndexFunc_sSwitch_b1 [] f) () = some (.inl ()) := by rw [rangeN_steps _ (by simp)]; rfl
    have h2 : Go.Pv.slices_IndexFunc_sSwitch [] f = some (-1) := by unfold Go.Pv.slices_IndexFunc_sSwitch; rw [h1]; rfl
    unfold Go.Pv.slices_DeleteFunc_sSwitch
    rw [h2]
    rfl
  | cons x l => simp [delE] at h
end Go.Proofs.YtjhedhnghldjbaaGreatDoor
namespace Go.Proofs.YtjhedhnghldjbaaGreatDoor
open Go Go.Pv Go.Proofs
set_option maxRecDepth 100000
set_option maxHeartbeats 4000000
noncomputable def ecu_Reactions : C Tryz.prog (List SReaction) := .of Z Tryz.call10 Tryz.func10 [] (fun r => .t (tS enc_SReaction r)) (
  .Z (.fr 1) <| .Z (.fr 3) <| .Z (.fr 5) <| .Z (.fr 7) <| .Z (.fr 9) <| .Z (.fr 11) <| .Z (.fr 13) <| .R ([(⟨(ByteArray.mk #[108, 105, 109, 112]), 0, 2, ([0] : List Int), 600⟩ : SReaction), (⟨(ByteArray.mk #[100, 114, 111, 112]), 0, 2, ([1, 4] : List Int), 1500⟩ : SReaction), (⟨(ByteArray.mk #[115, 116, 111, 112]), 0, 9, ([5, 6] : List Int), 0⟩ : SReaction), (⟨(ByteArray.mk #[112, 114, 101, 115, 115, 117, 114, 101]), 1, 0, ([1] : List Int), 500⟩ : SReaction), (⟨(ByteArray.mk #[97, 105, 114]), 2, 0, ([2] : List Int), 40⟩ : SReaction), (⟨(ByteArray.mk #[99, 111, 111, 108, 97, 110, 116]), 3, 0, ([3] : List Int), 90⟩ : SReaction), (⟨(ByteArray.mk #[112, 114, 111, 98, 101]), 4, 0, ([4] : List Int), 450⟩ : SReaction)] : List SReaction)) (by kernel_rfl)
def itoaL67_ren : Go.Shelf.Ren := ⟨fun | 129 => 377 | 171 => 67 | 243 => 127 | 246 => 219 | 283 => 311 | 284 => 312 | 285 => 313 | 286 => 314 | 317 => 376 | 318 => 378 | 319 => 379 | 320 => 380 | 337 => 421 | 338 => 422 | n => n, fun | 0 => 0 | 2 => 2 | 3 => 3 | 4 => 4 | 5 => 5 | 9 => 9 | 20 => 20 | 37 => 129 | 46 => 265 | 51 => 364 | 53 => 413 | 171 => 412 | 173 => 416 | 212 => 461 | 213 => 462 | 232 => 513 | 233 => 514 | n => n, fun | 17 => 1 | 18 => 2 | 19 => 3 | n => n⟩
open Go.Shelf in
theorem itoaL67 : LaysM.n171 Tryz.prog itoaL67_ren := {
  mixed := by kernel_rfl,
  f129 := Tryz.func377.trans (congrArg some (by kernel_rfl)),
  f171 := Tryz.func67.trans (congrArg some (by kernel_rfl)),
  f243 := Tryz.func127.trans (congrArg some (by kernel_rfl)),
  f246 := Tryz.func219.trans (congrArg some (by kernel_rfl)),
  f283 := Tryz.func311.trans (congrArg some (by kernel_rfl)),
  f284 := Tryz.func312.trans (congrArg some (by kernel_rfl)),
  f285 := Tryz.func313.trans (congrArg some (by kernel_rfl)),
  f286 := Tryz.func314.trans (congrArg some (by kernel_rfl)),
  f317 := Tryz.func376.trans (congrArg some (by kernel_rfl)),
  f318 := Tryz.func378.trans (congrArg some (by kernel_rfl)),
  f319 := Tryz.func379.trans (congrArg some (by kernel_rfl)),
  f320 := Tryz.func380.trans (congrArg some (by kernel_rfl)),
  f337 := Tryz.func421.trans (congrArg some (by kernel_rfl)),
  f338 := Tryz.func422.trans (congrArg some (by kernel_rfl)),
  t0 := Tryz.underlying0,
  a0 := Tryz.isAgg0,
  z0 := Tryz.sizeOf0,
  v0 := Tryz.zeroValue0,
  t2 := Tryz.underlying2,
  a2 := Tryz.isAgg2,
  z2 := Tryz.sizeOf2,
  v2 := Tryz.zeroValue2,
  t3 := Tryz.underlying3,
  a3 := Tryz.isAgg3,
  z3 := Tryz.sizeOf3,
  v3 := Tryz.zeroValue3,
  t4 := Tryz.underlying4,
  a4 := Tryz.isAgg4,
  z4 := Tryz.sizeOf4,
  v4 := Tryz.zeroValue4,
  t5 := Tryz.underlying5,
  a5 := Tryz.isAgg5,
  z5 := Tryz.sizeOf5,
  v5 := Tryz.zeroValue5,
  t9 := Tryz.underlying9,
  a9 := Tryz.isAgg9,
  z9 := Tryz.sizeOf9,
  v9 := Tryz.zeroValue9,
  t20 := Tryz.underlying20,
  a20 := Tryz.isAgg20,
  z20 := Tryz.sizeOf20,
  v20 := Tryz.zeroValue20,
  t37 := Tryz.underlying129,
  a37 := Tryz.isAgg129,
  z37 := Tryz.sizeOf129,
  v37 := Tryz.zeroValue129,
  t46 := Tryz.underlying265,
  a46 := Tryz.isAgg265,
  z46 := Tryz.sizeOf265,
  v46 := Tryz.zeroValue265,
  t51 := Tryz.underlying364,
  a51 := Tryz.isAgg364,
  z51 := Tryz.sizeOf364,
  v51 := Tryz.zeroValue364,
  t53 := Tryz.underlying413,
  a53 := Tryz.isAgg413,
  z53 := Tryz.sizeOf413,
  v53 := Tryz.zeroValue413,
  t171 := Tryz.underlying412,
  a171 := Tryz.isAgg412,
  z171 := Tryz.sizeOf412,
  v171 := Tryz.zeroValue412,
  t173 := Tryz.underlying416,
  a173 := Tryz.isAgg416,
  z173 := Tryz.sizeOf416,
  v173 := Tryz.zeroValue416,
  t212 := Tryz.underlying461,
  a212 := Tryz.isAgg461,
  z212 := Tryz.sizeOf461,
  v212 := Tryz.zeroValue461,
  t213 := Tryz.underlying462,
  a213 := Tryz.isAgg462,
  z213 := Tryz.sizeOf462,
  t232 := Tryz.underlying513,
  a232 := Tryz.isAgg513,
  z232 := Tryz.sizeOf513,
  v232 := Tryz.zeroValue513,
  t233 := Tryz.underlying514,
  a233 := Tryz.isAgg514,
  z233 := Tryz.sizeOf514,
  v233 := Tryz.zeroValue514,
  g17 := by kernel_rfl,
  g18 := by kernel_rfl,
  g19 := by kernel_rfl,
  i0 := by kernel_rfl,
  i2 := by kernel_rfl,
  i3 := by kernel_rfl,
  i4 := by kernel_rfl,
  i5 := by kernel_rfl,
  i9 := by kernel_rfl,
  i20 := by kernel_rfl,
  i37 := by kernel_rfl,
  i46 := by kernel_rfl,
  i51 := by kernel_rfl,
  i53 := by kernel_rfl,
  i171 := by kernel_rfl,
  i173 := by kernel_rfl,
  i212 := by kernel_rfl,
  i232 := by kernel_rfl,
  i233 := by kernel_rfl,
  m17 := by kernel_rfl,
  m18 := by kernel_rfl,
  m19 := by kernel_rfl }
noncomputable def strconv_Itoa (n : Int) : C Tryz.prog ByteArray := ⟨67, [.t (tI n)], itoaM n, fun _ => itoaM n, fun r => .t (.v (.string r)), true, itoa_tie (ρ := itoaL67_ren) itoaL67 Tryz.call67 (b := 1) (by kernel_rfl) n, fun _ _ h => h⟩
noncomputable def arith_Text (n2 : Int) : C Tryz.prog ByteArray := .of Z Tryz.call31 Tryz.func31 [.t (tI n2)] (fun r => .t (.v (.string r))) (
  .K (strconv_Itoa n2) fun v => .R v) (by kernel_rfl)
end Go.Proofs.YtjhedhnghldjbaaGreatDoor
set_option linter.unusedVariables false
set_option linter.unusedSimpArgs false
namespace Go.Proofs.YtjhedhnghldjbaaGreatDoor
open Go Go.RowKit Go.Pv Go.Proofs Tryz
set_option maxRecDepth 100000
def RxP (nm : Nat → ByteArray) (w : World) (e : Ending) (w' : World) : Prop := ∃ b o cap, e = .returned (.slice (some ⟨b, o, none⟩) 7 cap) ∧ b < w'.heap.size ∧ (∀ i, i < 7 → w'.cell? ⟨b, o + i * 5, none⟩ = some (.string (nm i))) ∧ Below w.heap.size w w'
/-- A slice of integers that lies in a world. -/
def IntsAt (w : World) (v : Value) (xs : List Int) : Prop := ∃ a c, v = .slice a xs.length c ∧ ((∃ b o, a = some ⟨b, o, none⟩ ∧ b < w.heap.size ∧ ∀ j (h : j < xs.length), w.cell? ⟨b, o + j, none⟩ = some (.int .i64 xs[j])) ∨ xs = [])
def okC (m : Nat) (c : Int) : Bool := decide (0 ≤ c) && decide (c < (m : Int))
def codeB (code : Nat → Int) (c : Int) : ByteArray := ⟨(Lib.itoa (code c.toNat)).toArray⟩
def lineB (nm : Nat → ByteArray) (code : Nat → Int) (r : Int) (cs : List Int) : List UInt8 := (nm r.toNat).data.toList ++ [58, 32] ++ Lib.join (cs.map fun c => Lib.itoa (code c.toNat)) [44, 32] ++ [10]
def okA (m : Nat) (r : Int) (cs : List Int) : Bool := decide (0 ≤ r) && decide (r < 7) && cs.all (okC m)
def txt (nm : Nat → ByteArray) (code : Nat → Int) (rea : Nat → Int) (cau : Nat → List Int) (k : Nat) : List UInt8 := (List.range k).flatMap fun j => lineB nm code (rea j) (cau j)
def exV (nm : Nat → ByteArray) (code rea : Nat → Int) (cau : Nat → List Int) (m n : Nat) : ByteArray × Int :=
  bif (List.range n).all fun j => okA m (rea j) (cau j) then (⟨(txt nm code rea cau n).toArray⟩, 0) else (⟨#[]⟩, 1)
theorem exV_bad {nm : Nat → ByteArray} {code rea : Nat → Int} {cau : Nat → List Int} {m n k : Nat} (hk : k < n) (h : okA m (rea k) (cau k) = false) : exV nm code rea cau m n = (⟨#[]⟩, 1) := by
  have : ((List.range n).all fun j => okA m (rea j) (cau j)) = false := by
    rw [List.all_eq_false]
    exact ⟨k, List.mem_range.2 hk, by simp [h]⟩
  unfold exV
  rw [this]
  rfl
theorem exV_ok {nm : Nat → ByteArray} {code rea : Nat → Int} {cau : Nat → List Int} {m n : Nat} (h : ∀ j, j < n → okA m (rea j) (cau j) = true) : exV nm code rea cau m n = (⟨(txt nm code rea cau n).toArray⟩, 0) := by
  have : ((List.range n).all fun j => okA m (rea j) (cau j)) = true := by
    rw [List.all_eq_true]
    exact fun j hj => h j (List.mem_range.1 hj)
  unfold exV
  rw [this]
  rfl
def Rel1 (nm : Nat → ByteArray) (code rea : Nat → Int) (cau : Nat → List Int) (m n W1 : Nat) (w1 : World) (i : Value) (wr : World) : Prop :=
  ∃ k : Nat, k ≤ n ∧ i = .int .i64 k ∧ (∀ j, j < k → okA m (rea j) (cau j) = true) ∧ Lib.IsBuilderF 131 5 W1 W1 (Lib.byteCells (txt nm code rea cau k)) wr ∧ Below W1 w1 wr ∧ (txt nm code rea cau k).length ≤ k * 2000
def Rel2 (code : Nat → Int) (cs : List Int) (m B : Nat) (wk : World) (v i : Value) (wx : World) : Prop :=
  ∃ j : Nat, j ≤ cs.length ∧ i = .int .i64 j ∧ ((cs.take j).all (okC m) = true) ∧ wx.ownsRow B 9 1 v j ((cs.take j).map fun c => .string (codeB code c)) ∧ Below B wk wx
theorem owns_below {w w' : World} {B e n : Nat} {v : Value} {xs : List Value} (h : w.ownsRow B e 1 v n xs) (hb : Below w.heap.size w w') : w'.ownsRow B e 1 v n xs :=
  h.kept (row := none) ⟨hb.os, hb.tape, hb.output, hb.size, fun k hk _ => hb.block k hk⟩ (Classical.em _)
theorem below_F {T e : TypeId} {B b : Nat} {bs : List Value} {W W' : World} (h : Lib.IsBuilderF T e B b bs W) (hb : Below W.heap.size W W') : Lib.IsBuilderF T e B b bs W' :=
  h.elim (fun x => .inl (at_F x hb)) (fun x => .inr (at_F x hb))
 where
  at_F {p : Value} (h : Lib.BuilderAtF T e B b p bs W) (hb : Below W.heap.size W W') : Lib.BuilderAtF T e B b p bs W' := by
    have hlt := h.lt
    obtain ⟨hB, v, hv, hown, hne⟩ := h
    exact ⟨hB, v, (hb.block b hlt).trans hv, hown.kept (row := none) ⟨hb.os, hb.tape, hb.output, hb.size, fun k hk _ => hb.block k hk⟩ (Classical.em _), hne⟩
theorem join_le (xs : List (List UInt8)) (h : ∀ x ∈ xs, x.length ≤ 21) : (Lib.join xs [44, 32]).length ≤ xs.length * 23 := by
  have hl : ∀ ys : List (List UInt8), (∀ x ∈ ys, x.length ≤ 21) → Lib.lens ys ≤ ys.length * 21 := by
    intro ys
    induction ys with
    | nil => intro _; exact Nat.le_refl _
    | cons y r ih =>
      intro h
      have h1 := ih fun x hx => h x (List.mem_cons_of_mem _ hx)
      have h2 := h y (List.mem_cons_self ..)
      simp only [Lib.lens, List.map_cons, List.sum_cons, List.length_cons] at h1 ⊢
      omega
  cases xs with
  | nil => exact Nat.zero_le _
  | cons x r =>
    rw [Lib.join_length]
    have := hl (x :: r) h
    simp only [List.length_cons, List.length_nil] at this ⊢
    omega
theorem info9 : (prog.info? 9).map (fun i => (i.zero, i.size, i.bytes)) = some (some (.string ⟨#[]⟩), 1, 16) := by kernel_rfl
set_option maxHeartbeats 1000000 in
set_option maxRecDepth 100000 in
theorem exp_walk (nm : Nat → ByteArray) (code rea : Nat → Int) (cau : Nat → List Int) (w : World) (tm sp tq bd : Int) (vs : Value) (off : Bool) (aa al : Option Addr) (n ca m cl : Nat)
    (hR : ∀ wx, Below w.heap.size w wx → Calls prog 10 #[] wx (RxP nm wx)) (hn : n ≤ 70)
    (hJ0 : ∀ wx, Calls prog 33 #[.slice none 0 0, .string ⟨#[44, 32]⟩] wx fun e w' => e = .returned (.string ⟨#[]⟩) ∧ wx = w')
    (hW : ∀ (b : Nat) (wx : World) (bs : List Value) (s : ByteArray), Lib.IsBuilderF 131 5 b b bs wx → bs.length + s.size ≤ 140737488355328 → b ≤ wx.heap.size → Calls prog 32 #[.pointer (some ⟨b, 0, none⟩), .string s] wx fun e w' => e = .returned (.tuple #[.int .i64 s.size, .nilIface]) ∧ (Lib.BuilderAtF 131 5 b b (.pointer (some ⟨b, 0, none⟩)) (bs ++ Lib.strCells s) w' ∧ Below b wx w' ∧ Lib.OthersKept 5 (some b) wx w'))
    (hJ1 : ∀ (wx : World) (b o c : Nat) (xs : List ByteArray), (∀ (j : Nat) x, xs[j]? = some x → wx.cell? ⟨b, o + j, none⟩ = some (.string x)) → b < wx.heap.size → xs.length ≤ 140737488355328 → xs.length ≤ c → (Lib.join (xs.map (·.data.toList)) [44, 32]).length ≤ 140737488355328 →
      Calls prog 33 #[.slice (some ⟨b, o, none⟩) xs.length c, .string ⟨#[44, 32]⟩] wx fun e w' => e = .returned (.string ⟨(Lib.join (xs.map (·.data.toList)) [44, 32]).toArray⟩) ∧ Below wx.heap.size wx w')
    (hS : ∀ (b : Nat) (wx : World) (l : List UInt8), Lib.IsBuilderF 131 5 b b (Lib.byteCells l) wx → b ≤ wx.heap.size → Calls prog 34 #[.pointer (some ⟨b, 0, none⟩)] wx fun e w' => e = .returned (.string ⟨l.toArray⟩) ∧ (Lib.IsBuilderF 131 5 b b (Lib.byteCells l) w' ∧ Below b wx w'))
    (hcode : ∀ k, k < m → -9223372036854775808 ≤ code k ∧ code k ≤ 9223372036854775807)
    (hnm : ∀ i, (nm i).size ≤ 100)
    (hT : ∀ wx, Below w.heap.size w wx → ∀ k, k < m → Calls prog 31 #[.int .i64 (code k)] wx fun e w' => e = .returned (.string ⟨(Lib.itoa (code k)).toArray⟩) ∧ Below wx.heap.size wx w')
    (hA : (∃ ba oa, aa = some ⟨ba, oa, none⟩ ∧ ba < w.heap.size ∧ ∀ k, k < n → w.cell? ⟨ba, oa + k * 2, none⟩ = some (.int .i64 (rea k)) ∧ ∃ cv, w.cell? ⟨ba, oa + k * 2 + 1, none⟩ = some cv ∧ IntsAt w cv (cau k)) ∨ n = 0)
    (h20 : ∀ k, k < n → (cau k).length ≤ 20)
    (hL : (∃ bl ol, al = some ⟨bl, ol, none⟩ ∧ bl < w.heap.size ∧ ∀ c, c < m → w.cell? ⟨bl, ol + c * 8, none⟩ = some (.int .i64 (code c))) ∨ m = 0) :
    Calls prog 8 #[.agg #[.int .i64 tm, .int .i64 sp, .int .i64 tq, .int .i64 bd, vs, .slice aa n ca, .bool off], .slice al m cl] w fun e w' => e = .returned (.tuple #[.string (exV nm code rea cau m n).1, .int .i64 (exV nm code rea cau m n).2]) ∧ Below w.heap.size w w' := by
  have HA := Lib.hid hA
  have HL := Lib.hid hL
  have H20 := Lib.hid h20
  clear hA hL h20
  obtain ⟨i0, hi, hz0, hz1, hz2⟩ := info_parts info9
  go_enter func8, ntmps8
  go_wp2_with (go_at_call 10; refine (hR _ ((Below.refl _ w).alloc (Nat.le_refl _) _)).mono ?_)
  rintro e w1 ⟨bn, on, cn, rfl, hbn, hnc, hb1⟩
  have hbox : w1.cell? ⟨w.heap.size, 5, none⟩ = some (.slice aa n ca) := by
    rw [hb1.cell (p := ⟨w.heap.size, 5, none⟩) (by simp)]
    simp [World.cell?_alloc_at]
  have hz : w.heap.size < w1.heap.size := by have := hb1.size; simp at this; omega
  have hb0 : Below w.heap.size w w1 := ((Below.refl _ w).alloc (Nat.le_refl _) _).trans (hb1.mono (by simp))
  clear hb1
  have HNC := Lib.hid hnc
  clear hnc
  go_wp2
  clear hbox
  go_loopw [17] (Rel1 nm code rea cau m n w1.heap.size w1) (fun i _ => n - (intOf i).toNat)
  case atStart => exact ⟨0, Nat.zero_le _, rfl, fun j hj => by omega, Lib.IsBuilderF.of (Lib.fresh_isBuilder 131 5 w1), (Below.refl _ w1).alloc (Nat.le_refl _) _, Nat.le_refl _⟩
  case round =>
    obtain ⟨wo, rfl⟩ : ∃ wo : World, wo = wr := ⟨_, rfl⟩
    obtain ⟨k, hk, rfl, hok, hbd, hbw, hln⟩ := hrel
    by_cases hlt : k < n
    · obtain ⟨ba, oa, rfl, hba, hA⟩ : ∃ ba oa, aa = some ⟨ba, oa, none⟩ ∧ ba < w.heap.size ∧ ∀ k, k < n → w.cell? ⟨ba, oa + k * 2, none⟩ = some (.int .i64 (rea k)) ∧ ∃ cv, w.cell? ⟨ba, oa + k * 2 + 1, none⟩ = some cv ∧ IntsAt w cv (cau k) := by
        rcases HA.out with h | h
        · exact h
        · omega
      obtain ⟨hc0, cv, hc1, hcs⟩ := hA k hlt
      clear hA
      have hbo : Below w.heap.size w wo := hb0.trans (hbw.mono (by omega))
      have hbe : ∀ p : Addr, p.block < w.heap.size → wo.cell? p = w.cell? p := fun p hp => hbo.cell (p := p) hp
      have d0 : wo.cell? ⟨ba, oa + k * 2, none⟩ = some (.int .i64 (rea k)) := by rw [hbe _ hba]; exact hc0
      have d1 : wo.cell? ⟨ba, oa + k * 2 + 1, none⟩ = some cv := by rw [hbe _ hba]; exact hc1
      have HBE := Lib.hid hbe
      clear hbe hc0 hc1
      have HOK := Lib.hid hok
      clear hok
      have hl20 := H20.out k hlt
      have hwr : w.heap.size < wo.heap.size := by have := hbw.size; omega
      obtain ⟨ax, cx, rfl, hcs⟩ := hcs
      by_cases hr : 0 ≤ rea k ∧ rea k < 7
      · obtain ⟨hr0, hr7⟩ := hr
        have hr0' : ¬ rea k < 0 := by omega
        have hr7' : ¬ 7 ≤ rea k := by omega
        · have HCS := Lib.hid hcs
          clear hcs
          go_wp2
          clear d0 d1
          go_loopw [10, 34] (Rel2 code (cau k) m (wo.heap.size + 1) (wo.alloc (.cells #[.int .i64 (rea k), .slice ax (cau k).length cx] 31))) (fun _ i _ => (cau k).length - (intOf i).toNat)
          case atStart => exact ⟨0, Nat.zero_le _, rfl, rfl, ⟨rfl, .inl ⟨rfl, rfl⟩⟩, Below.refl _ _⟩
          case round =>
            obtain ⟨j, hj, rfl, hall, hown, hbx⟩ := hrel
            by_cases hlt2 : j < (cau k).length
            · obtain ⟨bc, oc, rfl, hbc, hcc⟩ : ∃ b o, ax = some ⟨b, o, none⟩ ∧ b < w.heap.size ∧ ∀ j (h : j < (cau k).length), w.cell? ⟨b, o + j, none⟩ = some (.int .i64 (cau k)[j]) := by
                rcases HCS.out with h | h
                · exact h
                · rw [h] at hlt2; simp at hlt2
              have hci := hcc j hlt2
              clear hcc
              have hbt : Below w.heap.size w wr := (hbo.alloc (by omega) _).trans (hbx.mono (by omega))
              have hxe : ∀ p : Addr, p.block < w.heap.size → wr.cell? p = w.cell? p := fun p hp => hbt.cell (p := p) hp
              have e0 : wr.cell? ⟨bc, oc + j, none⟩ = some (.int .i64 (cau k)[j]) := by rw [hxe _ hbc]; exact hci
              clear hci
              have HXE := Lib.hid hxe
              have HALL := Lib.hid hall
              clear hxe hall
              generalize hcj : (cau k)[j] = c at e0
              have HCJ := Lib.hid hcj
              clear hcj
              by_cases hc : 0 ≤ c ∧ c < (m : Int)
              · obtain ⟨hcl, hcm⟩ := hc
                have hcl' : ¬ c < 0 := by omega
                have hcm' : ¬ (m : Int) ≤ c := by omega
                have hcn : c.toNat < m := by omega
                obtain ⟨bl, ol, rfl, hbl, hL⟩ : ∃ bl ol, al = some ⟨bl, ol, none⟩ ∧ bl < w.heap.size ∧ ∀ c, c < m → w.cell? ⟨bl, ol + c * 8, none⟩ = some (.int .i64 (code c)) := by
                  rcases HL.out with h | h
                  · exact h
                  · omega
                have e1 : wr.cell? ⟨bl, ol + c.toNat * 8, none⟩ = some (.int .i64 (code c.toNat)) := by rw [HXE.out _ hbl]; exact hL _ hcn
                clear hL
                go_wp2_with (go_at_call 31; refine (hT _ hbt _ hcn).mono ?_)
                rintro e w2 rfl hb2
                have hown2 := owns_below hown hb2
                have hz2' : wr.heap.size ≤ w2.heap.size := hb2.size
                have hzx : wo.heap.size + 1 ≤ wr.heap.size := by have := hbx.size; simp at this; omega
                go_wp2_with (at_builtin; refine wpList_append_own _ rfl _ _ 132 rfl (wo.heap.size + 1) 9 i0 (.string ⟨#[]⟩) 1 16 underlying132 hi hz0 hz1 hz2 rfl (by decide) _ _ _ rfl (hown2.alloc _) ⟨w2.heap.size, 0, none⟩ 1 1 [.string ⟨(Lib.itoa (code c.toNat)).toArray⟩] rfl rfl ?c1 ?c2 ?c3 ?c4 ?c5 ?_)
                case c1 =>
                  intro q u hq
                  match q, hq with
                  | 0, hq => simp at hq; subst hq; simp [Addr.add]
                case c2 => intro u hu; simp at hu; subst hu; rfl
                case c3 => unfold maxLen; omega
                case c4 => omega
                case c5 => simp; omega
                intro v' w3 hown3 hgrow3 _
                have hall2 : ((cau k).take (j + 1)).all (okC m) = true := by
                  rw [List.take_succ_eq_append_getElem hlt2, List.all_append, HALL.out, HCJ.out]
                  simp [okC, hcl, hcm]
                have hown4 : w3.ownsRow (wo.heap.size + 1) 9 1 v' (j + 1) (((cau k).take (j + 1)).map fun c => .string (codeB code c)) := by
                  rw [List.take_succ_eq_append_getElem hlt2, List.map_append, HCJ.out, List.map_take]
                  exact hown3
                have hbel : Below (wo.heap.size + 1) (wo.alloc (.cells #[.int .i64 (rea k), .slice (some ⟨bc, oc, none⟩) (cau k).length cx] 31)) w3 :=
                  ((hbx.trans (hb2.mono (by omega))).alloc (by omega) _).grown hgrow3 (by simp; omega) (fun q hq => (hown2.lt q hq).1)
                have HA2 := Lib.hid hall2
                clear hall2 hown3 hgrow3 hown2
                go_wp2
                go_roundw
                case rel => exact ⟨j + 1, by omega, by go_num, HA2.out, hown4, hbel⟩
                case measure => simp [intOf]; omega
              · have hbad : okA m (rea k) (cau k) = false := by
                  unfold okA
                  have : (cau k).all (okC m) = false := by
                    rw [List.all_eq_false]
                    refine ⟨c, HCJ.out ▸ List.getElem_mem hlt2, ?_⟩
                    simp [okC]
                    omega
                  rw [this, Bool.and_false]
                have hx := exV_bad (nm := nm) (code := code) hlt hbad
                have HX := Lib.hid hx
                clear hx hbad
                by_cases hc0 : c < 0
                · go_wp2
                  go_ret2
                  exact ⟨by rw [HX.out]; rfl, hbt⟩
                · have hcm : (m : Int) ≤ c := by omega
                  go_wp2
                  go_ret2
                  exact ⟨by rw [HX.out]; rfl, hbt⟩
            · obtain rfl : j = (cau k).length := by omega
              rw [List.take_length] at hall hown
              have HALL := Lib.hid hall
              clear hall
              have hbt : Below w.heap.size w wr := (hbo.alloc (by omega) _).trans (hbx.mono (by omega))
              have hzx : wo.heap.size + 1 ≤ wr.heap.size := by have := hbx.size; simp at this; omega
              have hzo : w1.heap.size < wo.heap.size := by
                rcases hbd with h | h <;> exact h.lt
              have hk1 : wr.heap[wo.heap.size]? = some (.cells #[.int .i64 (rea k), .slice ax (cau k).length cx] 31 (0, 0)) := by
                rw [hbx.block _ (by omega)]; exact heap_alloc_new _ _
              have k1 : wr.cell? ⟨wo.heap.size, 0, none⟩ = some (.int .i64 (rea k)) := by rw [Lib.cell_of_heap hk1]; rfl
              have k2 : wr.cell? ⟨bn, on + (rea k).toNat * 5, none⟩ = some (.string (nm (rea k).toNat)) := by
                rw [hbx.cell (p := ⟨bn, _, none⟩) (by show bn < _; omega), World.cell?_alloc_past _ _ _ (by omega), hbw.cell (p := ⟨bn, _, none⟩) hbn]
                exact HNC.out _ (by omega)
              have hbd2 : Lib.IsBuilderF 131 5 w1.heap.size w1.heap.size (Lib.byteCells (txt nm code rea cau k)) wr := below_F hbd (((Below.refl _ wo).alloc (Nat.le_refl _) _).trans (hbx.mono (by omega)))
              have hns := hnm (rea k).toNat
              generalize hNM : nm (rea k).toNat = N at k2 hns
              have HNM := Lib.hid hNM
              clear hNM
              obtain ⟨J, hJl, hJv⟩ : ∃ J : ByteArray, J.data.toList = Lib.join ((cau k).map fun c => Lib.itoa (code c.toNat)) [44, 32] ∧ J.size ≤ 1000 ∧ ∀ wx, Below wr.heap.size wr wx → Calls prog 33 #[u10, .string ⟨#[44, 32]⟩] wx fun e w' => e = .returned (.string J) ∧ Below wx.heap.size wx w' := by
                have hjl : (Lib.join ((cau k).map fun c => Lib.itoa (code c.toNat)) [44, 32]).length ≤ 1000 := by
                  have := join_le ((cau k).map fun c => Lib.itoa (code c.toNat)) (fun x hx => by
                    obtain ⟨c, hc, rfl⟩ := List.mem_map.1 hx
                    have hcc := List.all_eq_true.1 HALL.out c hc
                    simp only [okC, Bool.and_eq_true, decide_eq_true_eq] at hcc
                    obtain ⟨h1, h2⟩ := hcode c.toNat (by omega)
                    exact Lib.itoa_length_le _ h1 h2)
                  rw [List.length_map] at this
                  omega
                have hxs : ((cau k).map (codeB code)).map (fun x => x.data.toList) = (cau k).map fun c => Lib.itoa (code c.toNat) := by
                  rw [List.map_map]; rfl
                rcases hown.2 with ⟨h0, h1⟩ | ⟨g, cap, cur, h0, hg1, hg2, hg3, hg4, hg5, hg6⟩
                · have hnil : cau k = [] := List.length_eq_zero_iff.1 h1
                  refine ⟨⟨#[]⟩, by rw [hnil]; rfl, by show 0 ≤ 1000; omega, fun wx _ => ?_⟩
                  rw [h0]
                  refine (hJ0 wx).mono ?_
                  rintro e w' ⟨he, rfl⟩
                  exact ⟨he, Below.refl _ _⟩
                · refine ⟨⟨(Lib.join ((cau k).map fun c => Lib.itoa (code c.toNat)) [44, 32]).toArray⟩, rfl, by show (Lib.join _ _).toArray.size ≤ _; rw [List.size_toArray]; exact hjl, fun wx hwx => ?_⟩
                  have hgl : g < wr.heap.size := (Array.getElem?_eq_some_iff.1 hg2).1
                  have := hJ1 wx g 0 cap ((cau k).map (codeB code)) (fun q x hq => by
                    have h3 := hown.cells (g := g) (by rw [h0]; rfl) q (.string x) (by
                      rw [List.getElem?_map] at hq ⊢
                      cases hcq : (cau k)[q]? with
                      | none => rw [hcq] at hq; cases hq
                      | some c => rw [hcq] at hq; simp only [Option.map_some, Option.some.injEq] at hq ⊢; rw [hq])
                    rw [hwx.cell (p := ⟨g, 0 + q, none⟩) hgl, Nat.zero_add]
                    have ha : (⟨g, 0, none⟩ : Addr).add q = ⟨g, q, none⟩ := by unfold Addr.add; split <;> simp_all
                    rw [ha] at h3
                    exact h3) (by have := hwx.size; omega) (by rw [List.length_map]; omega) (by rw [List.length_map]; exact hg3) (by rw [hxs]; show (Lib.join _ _).length ≤ _; omega)
                  rw [List.length_map, hxs] at this
                  rw [h0]
                  exact this
              obtain ⟨hJs, hJv⟩ := hJv
              have s1 : ∀ w, (Op.stringOp .add N ⟨#[58, 32]⟩).run prog w = .ok (.string (N ++ ⟨#[58, 32]⟩)) w := fun w => run_string_add_sum w _ _ (by show N.size + 2 ≤ _; omega)
              have s2 : ∀ w, (Op.stringOp .add (N ++ ⟨#[58, 32]⟩) J).run prog w = .ok (.string (N ++ ⟨#[58, 32]⟩ ++ J)) w := fun w => run_string_add_sum w _ _ (by rw [ByteArray.size_append]; show N.size + 2 + _ ≤ _; omega)
              have s3 : ∀ w, (Op.stringOp .add (N ++ ⟨#[58, 32]⟩ ++ J) ⟨#[10]⟩).run prog w = .ok (.string (N ++ ⟨#[58, 32]⟩ ++ J ++ ⟨#[10]⟩)) w := fun w => run_string_add_sum w _ _ (by rw [ByteArray.size_append, ByteArray.size_append]; show N.size + 2 + _ + 1 ≤ _; omega)
              go_wp2
              clear hbt hbo hown
              go_region_held3 (fun w' => w'.cell? ⟨wo.heap.size, 0, none⟩ = some (.int .i64 (rea k)) ∧ w'.cell? ⟨bn, on + (rea k).toNat * 5, none⟩ = some (.string N)) (go_keep)
                (first
                  | (go_at_call 33
                     refine (hJv _ ?_).mono ?_
                     · exact (Below.refl _ _).drew
                     rintro e w2 ⟨rfl, hb2⟩
                     have q1 : w2.cell? ⟨wo.heap.size, 0, none⟩ = some (.int .i64 (rea k)) := (hb2.cell (p := ⟨wo.heap.size, 0, none⟩) (by show wo.heap.size < wr.heap.size; omega)).trans k1
                     have q2 : w2.cell? ⟨bn, on + (rea k).toNat * 5, none⟩ = some (.string N) := (hb2.cell (p := ⟨bn, _, none⟩) (by show bn < wr.heap.size; omega)).trans k2
                     have hbw2 : Below wr.heap.size wr w2 := (Below.refl _ wr).drew.trans hb2)
                  | (go_at_call 32
                     refine (hW _ _ _ _ (below_F hbd2 hbw2) ?_ ?_).mono ?_
                     · rw [show (Lib.byteCells (txt nm code rea cau k)).length = (txt nm code rea cau k).length by simp [Lib.byteCells]]
                       simp only [ByteArray.size_append]
                       show _ + (N.size + 2 + J.size + 1) ≤ _
                       omega
                     · have := hbw2.size; omega
                     rintro e w3 ⟨rfl, hb3, hb4, hb5⟩
                     have q3 : w3.cell? ⟨wo.heap.size, 0, none⟩ = some (.int .i64 (rea k)) := by
                       have h1 := (hbw2.block _ (by omega)).trans hk1
                       rw [Lib.cell_of_heap (hb5 _ _ h1 (by simp; omega) (fun c fz h => by cases h))]; rfl
                     have q4 : w3.cell? ⟨bn, on + (rea k).toNat * 5, none⟩ = some (.string N) := (hb4.cell (p := ⟨bn, _, none⟩) (by show bn < w1.heap.size; omega)).trans q2))
              have ht : txt nm code rea cau (k + 1) = txt nm code rea cau k ++ (N ++ ⟨#[58, 32]⟩ ++ J ++ ⟨#[10]⟩).data.toList := by
                unfold txt
                rw [List.range_succ, List.flatMap_append, List.flatMap_singleton]
                unfold lineB
                rw [HNM.out, ← hJl]
                simp [ByteArray.data_append]
              have hb6 : Lib.IsBuilderF 131 5 w1.heap.size w1.heap.size (Lib.byteCells (txt nm code rea cau (k + 1))) w3 := by
                rw [ht]
                have := Lib.strCells_eq (N ++ ⟨#[58, 32]⟩ ++ J ++ ⟨#[10]⟩)
                rw [this] at hb3
                exact .inr (by simpa [Lib.byteCells] using hb3)
              have hl2 : (txt nm code rea cau (k + 1)).length ≤ (k + 1) * 2000 := by
                have h1 : (N ++ ⟨#[58, 32]⟩ ++ J ++ ⟨#[10]⟩).data.toList.length = N.size + 2 + J.size + 1 := by
                  rw [Array.length_toList]
                  show (N ++ ⟨#[58, 32]⟩ ++ J ++ ⟨#[10]⟩ : ByteArray).size = _
                  simp only [ByteArray.size_append]
                  rfl
                rw [ht, List.length_append, h1]
                omega
              have hok2 : ∀ q, q < k + 1 → okA m (rea q) (cau q) = true := by
                intro q hq
                by_cases h : q < k
                · exact HOK.out q h
                · obtain rfl : q = k := by omega
                  unfold okA
                  rw [HALL.out]
                  simp [hr0, hr7]
              have hb7 : Below w1.heap.size w1 w3 := (hbw.trans (((Below.refl _ wo).alloc (by omega) _).trans (hbx.mono (by omega)))).trans ((hbw2.mono (by omega)).trans hb4)
              have HB3 := Lib.hid (⟨ht, hl2, hok2⟩ : _ ∧ _ ∧ _)
              clear ht hl2 hok2 hb3
              go_wp2
              go_roundw
              case rel => exact ⟨k + 1, by omega, by go_num, HB3.out.2.2, hb6, hb7, HB3.out.2.1⟩
              case measure => simp [intOf]; omega
      · have hbad : okA m (rea k) (cau k) = false := by
          unfold okA
          by_cases h0 : 0 ≤ rea k
          · rw [decide_eq_false (show ¬ rea k < 7 by omega)]; simp
          · rw [decide_eq_false h0]; rfl
        have hx := exV_bad (nm := nm) (code := code) hlt hbad
        have HX := Lib.hid hx
        have HCS := Lib.hid hcs
        clear hx hbad hcs
        have hbe1 : ∀ o, Below w.heap.size w (wo.alloc o) := fun o => hbo.alloc (by omega) o
        have HBE1 := Lib.hid hbe1
        clear hbe1
        by_cases h0 : rea k < 0
        · go_wp2
          go_ret2
          exact ⟨by rw [HX.out]; rfl, HBE1.out _⟩
        · have h7 : 7 ≤ rea k := by omega
          go_wp2
          go_ret2
          exact ⟨by rw [HX.out]; rfl, HBE1.out _⟩
    · obtain rfl : k = n := by omega
      have hx := exV_ok (nm := nm) (code := code) hok
      have HX := Lib.hid hx
      clear hx hok
      go_wp2_with (go_at_call 34; refine (hS _ _ _ hbd (by have := hbw.size; omega)).mono ?_)
      rintro e w4 ⟨rfl, _, hb8⟩
      go_wp2
      go_ret2
      exact ⟨by rw [HX.out]; rfl, (hb0.trans (hbw.mono (by omega))).trans (hb8.mono (by omega))⟩
def joinL33_ren : Go.Shelf.Ren := ⟨fun | 156 => 33 | 165 => 69 | 166 => 32 | 169 => 34 | 240 => 68 | 241 => 129 | 276 => 128 | 277 => 220 | n => n, fun | 0 => 0 | 3 => 3 | 4 => 4 | 5 => 5 | 9 => 9 | 20 => 20 | 31 => 132 | 37 => 129 | 70 => 128 | 72 => 131 | 75 => 135 | 76 => 136 | 80 => 139 | 127 => 176 | 164 => 230 | n => n, fun  | n => n⟩
open Go.Shelf in
theorem joinL33 : Lays.n156 Tryz.prog joinL33_ren := {
  mixed := by kernel_rfl,
  f156 := Tryz.func33.trans (congrArg some (by kernel_rfl)),
  f165 := Tryz.func69.trans (congrArg some (by kernel_rfl)),
  f166 := Tryz.func32.trans (congrArg some (by kernel_rfl)),
  f169 := Tryz.func34.trans (congrArg some (by kernel_rfl)),
  f240 := Tryz.func68.trans (congrArg some (by kernel_rfl)),
  f241 := Tryz.func129.trans (congrArg some (by kernel_rfl)),
  f276 := Tryz.func128.trans (congrArg some (by kernel_rfl)),
  f277 := Tryz.func220.trans (congrArg some (by kernel_rfl)),
  t0 := Tryz.underlying0,
  a0 := Tryz.isAgg0,
  z0 := Tryz.sizeOf0,
  v0 := Tryz.zeroValue0,
  t3 := Tryz.underlying3,
  a3 := Tryz.isAgg3,
  z3 := Tryz.sizeOf3,
  v3 := Tryz.zeroValue3,
  t4 := Tryz.underlying4,
  a4 := Tryz.isAgg4,
  z4 := Tryz.sizeOf4,
  v4 := Tryz.zeroValue4,
  t9 := Tryz.underlying9,
  a9 := Tryz.isAgg9,
  z9 := Tryz.sizeOf9,
  v9 := Tryz.zeroValue9,
  t20 := Tryz.underlying20,
  a20 := Tryz.isAgg20,
  z20 := Tryz.sizeOf20,
  v20 := Tryz.zeroValue20,
  t31 := Tryz.underlying132,
  a31 := Tryz.isAgg132,
  z31 := Tryz.sizeOf132,
  v31 := Tryz.zeroValue132,
  t37 := Tryz.underlying129,
  a37 := Tryz.isAgg129,
  z37 := Tryz.sizeOf129,
  v37 := Tryz.zeroValue129,
  t70 := Tryz.underlying128,
  a70 := Tryz.isAgg128,
  z70 := Tryz.sizeOf128,
  v70 := Tryz.zeroValue128,
  t72 := Tryz.underlying131,
  a72 := Tryz.isAgg131,
  z72 := Tryz.sizeOf131,
  v72 := Tryz.zeroValue131,
  t75 := Tryz.underlying135,
  a75 := Tryz.isAgg135,
  z75 := Tryz.sizeOf135,
  v75 := Tryz.zeroValue135,
  t76 := Tryz.underlying136,
  a76 := Tryz.isAgg136,
  z76 := Tryz.sizeOf136,
  v76 := Tryz.zeroValue136,
  t127 := Tryz.underlying176,
  a127 := Tryz.isAgg176,
  z127 := Tryz.sizeOf176,
  v127 := Tryz.zeroValue176,
  t164 := Tryz.underlying230,
  a164 := Tryz.isAgg230,
  z164 := Tryz.sizeOf230,
  v164 := Tryz.zeroValue230 }
theorem joinX : Builder.Extra Tryz.prog joinL33_ren where
  sizeBuilder := by kernel_rfl
  liesBuilder := by kernel_rfl
  t5 := Tryz.underlying5
  a5 := Tryz.isAgg5
  z5 := Tryz.sizeOf5
  v5 := Tryz.zeroValue5
  infoByte := by kernel_rfl
  cellsByte := by kernel_rfl
  sizeByte := by kernel_rfl
  neB5 := by decide
theorem gl_below {P : Program} {w w' : World} (h : GlL P w (fun _ => False)) (hb : Below w.heap.size w w') : GlL P w' (fun _ => False) :=
  h.keep (Keep.below hb)
noncomputable def rxs : List SReaction := ((ecu_Reactions).e 1).getD []
theorem rxs_run : (ecu_Reactions).m = some rxs := (ecu_Reactions).le 1 _ (by kernel_rfl)
theorem rxs_len : rxs.length = 7 := by kernel_rfl
noncomputable def nmR (i : Nat) : ByteArray := (rxs[i]?.map (·.Name)).getD ⟨#[]⟩
theorem nmR_le (i : Nat) : (nmR i).size ≤ 100 := by
  by_cases h : i < 7
  · have : ∀ j : Fin 7, (nmR j.val).size ≤ 100 := by decide +kernel
    exact this ⟨i, h⟩
  · unfold nmR
    rw [List.getElem?_eq_none (by rw [rxs_len]; omega)]
    decide
theorem rx_calls (w : World) (hg : GlL prog w (fun _ => False)) : Calls prog 10 #[] w (RxP nmR w) := by
  have := (ecu_Reactions).ok.2 rxs rxs_run w (fun _ => False) (fun _ => undef) [] hg (fun b h => h.elim) ⟨rfl, fun j h => by simp at h⟩
  refine this.mono fun e w' ⟨v, S', he, hv, hk, h1, _⟩ => ?_
  subst he
  have hb : Below w.heap.size w w' := ⟨hk.os, hk.tape, hk.output, hk.size, fun k hk' => hk.block k hk' (fun h => h)⟩
  cases hv with
  | t h =>
    unfold tS at h
    generalize hl : rxs.map enc_SReaction = rows at h
    generalize hnn : rxs.length = n at h
    cases h with
    | slE ad cap => rw [rxs_len] at hnn; cases hnn
    | sl b o cap sz rows vs hcap hbS hsz hc2 hr =>
      subst hl
      have hln : (rxs.map enc_SReaction).length = 7 := by rw [List.length_map, rxs_len]
      rw [hln] at hc2 ⊢
      refine ⟨b, o, cap, rfl, h1 b hbS, fun i hi => ?_, hb⟩
      have hi' : i < rxs.length := by rw [rxs_len]; exact hi
      have hz5 : sz = 5 := (hsz _ (List.mem_map.2 ⟨rxs[i], List.getElem_mem hi', rfl⟩)).symm
      subst hz5
      have h3 := hc2 i 0 hi (by omega)
      have h4 := hr i 0 (by rw [hln]; exact hi) (by simp [enc_SReaction])
      simp only [List.getElem_map, enc_SReaction, List.getElem_cons_zero] at h4
      rw [RTv h4] at h3
      rw [show nmR i = rxs[i].Name by unfold nmR; rw [List.getElem?_eq_getElem hi']; rfl]
      simpa using h3
def codeN (l : List SConfig) (k : Nat) : Int := (l[k]?.map (·.Code)).getD 0
def reaN (l : List SActive) (k : Nat) : Int := (l[k]?.map (·.Reaction)).getD 0
def cauN (l : List SActive) (k : Nat) : List Int := (l[k]?.map (·.Causes)).getD []
noncomputable def exM (r : SRecord) (l : List SConfig) : Option (ByteArray × Int) :=
  if r.Active.length ≤ 70 ∧ (∀ a ∈ r.Active, a.Causes.length ≤ 20) ∧ (∀ f ∈ l, -9223372036854775808 ≤ f.Code ∧ f.Code ≤ 9223372036854775807) then
    some (exV nmR (codeN l) (reaN r.Active) (cauN r.Active) l.length r.Active.length) else none
theorem rt_slice {w : World} {S : Nat → Prop} {x : Value} {n : Nat} {rows : List (List Tree)} (h : RT w S x (.sl n rows)) :
    ∃ a c, x = .slice a n c ∧ n = rows.length ∧ ((∃ (b o sz : Nat) (vs : Nat → Nat → Value), a = some ⟨b, o, none⟩ ∧ S b ∧ (∀ r, r ∈ rows → r.length = sz) ∧ (∀ i j, i < rows.length → j < sz → w.cell? ⟨b, o + i * sz + j, none⟩ = some (vs i j)) ∧
      (∀ i j (hi : i < rows.length) (hj : j < (rows[i]).length), RT w S (vs i j) ((rows[i])[j]))) ∨ n = 0) := by
  cases h with
  | slE ad cap => exact ⟨ad, cap, rfl, rfl, .inr rfl⟩
  | sl b o cap sz rows vs hcap hb hsz hc hr => exact ⟨_, cap, rfl, rfl, .inl ⟨b, o, sz, vs, rfl, hb, hsz, hc, hr⟩⟩
theorem ex_tie (r : SRecord) (l : List SConfig) : TieF prog 8 [A_SRecord r, .t (tS enc_SConfig l)] (exM r l) (fun x => .tup [.t (.v (.string x.1)), .t (tI x.2)]) false := by
  refine ⟨Tryz.call8, fun x hx w S E vs hgl hS hv => ?_⟩
  unfold exM at hx
  split at hx <;> try (cases hx; done)
  rename_i hb
  obtain ⟨hb1, hb2, hb3⟩ := hb
  simp only [Option.some.injEq] at hx
  subst hx
  obtain ⟨v0, v1, rfl⟩ : ∃ v0 v1, vs = [v0, v1] := by
    have := hv.1
    match vs, this with
    | [a, b], _ => exact ⟨a, b, rfl⟩
  have r0 : RV w S E v0 (A_SRecord r) := hv.2 0 (by simp) (by simp)
  have r1 : RV w S E v1 (.t (tS enc_SConfig l)) := hv.2 1 (by simp) (by simp)
  have r1' : RT w S v1 (tS enc_SConfig l) := by cases r1 with | t h => exact h
  cases r0 with
  | agg us _ hl hu =>
    simp only [List.length_cons, List.length_nil] at hl
    obtain ⟨u0, u1, u2, u3, u4, u5, u6, rfl⟩ : ∃ u0 u1 u2 u3 u4 u5 u6, us = [u0, u1, u2, u3, u4, u5, u6] := by
      match us, hl with
      | [a, b, c, d, e, f, g], _ => exact ⟨a, b, c, d, e, f, g, rfl⟩
    have k0 := (hu 0 (by simp) (by simp)).tv
    have k1 := (hu 1 (by simp) (by simp)).tv
    have k2 := (hu 2 (by simp) (by simp)).tv
    have k3 := (hu 3 (by simp) (by simp)).tv
    have k6 := (hu 6 (by simp) (by simp)).tv
    have k5 : RT w S u5 (tS enc_SActive r.Active) := by
      have := hu 5 (by simp) (by simp)
      cases this with | t h => exact h
    simp only [List.getElem_cons_zero, List.getElem_cons_succ] at k0 k1 k2 k3 k6
    subst k0 k1 k2 k3 k6
    obtain ⟨aa, ca, rfl, hn, ha⟩ := rt_slice k5
    obtain ⟨al, cl, rfl, hm, hl⟩ := rt_slice r1'
    have hgw : ∀ wx, Below w.heap.size w wx → GlL prog wx (fun _ => False) := fun wx hw => gl_below hgl hw
    have key := exp_walk nmR (codeN l) (reaN r.Active) (cauN r.Active) w r.Time r.Speed r.Torque r.Bound u4 r.Off aa al r.Active.length ca l.length cl (fun wx hw => rx_calls wx (hgw wx hw)) hb1
      (fun wx => (Any.strings_Join_none joinL33 joinX none 0 ⟨#[44, 32]⟩ wx).mono fun e w' ⟨h1, h2⟩ => ⟨h1, h2.symm⟩)
      (fun b wx bs s h1 h2 h3 => Any.Builder_WriteString_k { joinL33 with } joinX b b bs s wx h1 h2 h3)
      (fun wx b o c xs h1 h2 h3 h4 h5 => Any.strings_Join joinL33 joinX b o c xs ⟨#[44, 32]⟩ wx h1 h2 h3 h4 h5)
      (fun b wx t h1 h2 => Any.Builder_String_any_f { joinL33 with } joinX b b t wx h1 h2)
      (fun k hk => by
        have := hb3 l[k] (List.getElem_mem hk)
        unfold codeN
        rw [List.getElem?_eq_getElem hk]
        exact this)
      nmR_le
      (fun wx hw k hk => by
        have hc : -9223372036854775808 ≤ codeN l k ∧ codeN l k ≤ 9223372036854775807 := by
          have := hb3 l[k] (List.getElem_mem hk)
          unfold codeN
          rw [List.getElem?_eq_getElem hk]
          exact this
        have hm : (arith_Text (codeN l k)).m = some ⟨(Lib.itoa (codeN l k)).toArray⟩ := by
          simp only [arith_Text, C.of, M.run, strconv_Itoa, itoaM, if_pos hc, Option.bind_some]
        refine ((arith_Text (codeN l k)).ok.2 _ hm wx (fun _ => False) (fun _ => undef) [.int .i64 (codeN l k)] (hgw wx hw) (fun b h => h.elim) ⟨rfl, fun j h1 h2 => ?_⟩).mono fun e w' ⟨v, S', he, hv, hk, h1, _⟩ => ?_
        · match j, h1 with
          | 0, _ => exact .t (.v _)
        · subst he
          exact ⟨by rw [hv.tv], hk.os, hk.tape, hk.output, hk.size, fun k hk' => hk.block k hk' (fun h => h)⟩)
      (by
        rcases ha with ⟨b, o, sz, vs, h1, h2, h3, h4, h5⟩ | h
        · refine .inl ⟨b, o, h1, hS b h2, fun k hk => ?_⟩
          have hk' : k < (r.Active.map enc_SActive).length := by rw [List.length_map]; exact hk
          have hz2 : sz = 2 := (h3 _ (List.mem_map.2 ⟨r.Active[k], List.getElem_mem hk, rfl⟩)).symm
          subst hz2
          have c0 := h4 k 0 hk' (by omega)
          have c1 := h4 k 1 hk' (by omega)
          have q0 := h5 k 0 hk' (by simp [enc_SActive])
          have q1 := h5 k 1 hk' (by simp [enc_SActive])
          simp only [List.getElem_map, enc_SActive, List.getElem_cons_zero, List.getElem_cons_succ] at q0 q1
          rw [RTv q0] at c0
          refine ⟨by unfold reaN; rw [List.getElem?_eq_getElem hk]; simpa using c0, _, by simpa using c1, ?_⟩
          unfold cauN
          rw [List.getElem?_eq_getElem hk]
          obtain ⟨ac, cc, e1, e2, e3⟩ := rt_slice q1
          refine ⟨ac, cc, e1, ?_⟩
          rcases e3 with ⟨b', o', sz', vs', f1, f2, f3, f4, f5⟩ | h
          · refine .inl ⟨b', o', f1, hS b' f2, fun j hj => ?_⟩
            have hj' : j < ((r.Active[k]).Causes.map Pv.encI).length := by rw [List.length_map]; exact hj
            have hz1 : sz' = 1 := (f3 _ (List.mem_map.2 ⟨(r.Active[k]).Causes[j], List.getElem_mem hj, rfl⟩)).symm
            subst hz1
            have g0 := f4 j 0 hj' (by omega)
            have g1 := f5 j 0 hj' (by simp [Pv.encI])
            simp only [List.getElem_map, Pv.encI, List.getElem_cons_zero] at g1
            rw [RTv g1] at g0
            simpa using g0
          · exact .inr (List.length_eq_zero_iff.1 h)
        · exact .inr h)
      (fun k hk => by
        unfold cauN
        rw [List.getElem?_eq_getElem hk]
        exact hb2 _ (List.getElem_mem hk))
      (by
        rcases hl with ⟨b, o, sz, vs, h1, h2, h3, h4, h5⟩ | h
        · refine .inl ⟨b, o, h1, hS b h2, fun c hc => ?_⟩
          have hc' : c < (l.map enc_SConfig).length := by rw [List.length_map]; exact hc
          have hz8 : sz = 8 := (h3 _ (List.mem_map.2 ⟨l[c], List.getElem_mem hc, rfl⟩)).symm
          subst hz8
          have c0 := h4 c 0 hc' (by omega)
          have q0 := h5 c 0 hc' (by simp [enc_SConfig])
          simp only [List.getElem_map, enc_SConfig, List.getElem_cons_zero] at q0
          rw [RTv q0] at c0
          unfold codeN
          rw [List.getElem?_eq_getElem hc]
          simpa using c0
        · exact .inr h)
    refine key.mono fun e w' ⟨he, hbw⟩ => ?_
    subst he
    refine ⟨_, S, rfl, ?_, Keep.below hbw, fun b h => Nat.lt_of_lt_of_le (hS b h) hbw.size, fun b h => .inl h⟩
    exact .tup [.string _, .int .i64 _] _ rfl fun j h1 h2 => by
      match j, h1 with
      | 0, _ => exact .t (.v _)
      | 1, _ => exact .t (.v _)
end Go.Proofs.YtjhedhnghldjbaaGreatDoor
namespace Go.Proofs.YtjhedhnghldjbaaGreatDoor
open Go Go.Pv Go.Proofs
set_option maxRecDepth 100000
set_option maxHeartbeats 4000000
noncomputable def ecu_Configs_b1 (s : List SConfig × Int) : M Tryz.prog (List SConfig) ((List SConfig × Int) ⊕ ((List SConfig × Int) ⊕ Empty)) :=
  .I (decide (s.2 < 7)) (.U (.ap enc_SConfig s.1 ([(⟨w64 (8448 + s.2), 3, 5, 3, 40, w64 (1 + s.2), true, 2⟩ : SConfig)] : List SConfig) 2104) fun l => .R (.inl (l, w64 (s.2 + 1)))) (.R (.inr (.inl (s.1, s.2))))
noncomputable def ecu_Configs : C Tryz.prog (List SConfig) := .of Z Tryz.call12 Tryz.func12 [] (fun r => .t (tS enc_SConfig r)) (
  .Z (.np 1 2104 44 8 []) <| .L (fun (t : List SConfig × Int) => [.t 1 (.own 2104), .t 3 (.t (tI t.2)), .b 2104 (.rs 44 8 t.1 enc_SConfig)]) 0 (.e) (ecu_Configs_b1) (([] : List SConfig), 0) (fun s2 => .R s2.1) (fun t => t.elim)) (by kernel_rfl)
noncomputable def ecu_Tables : C Tryz.prog STables := .of Z Tryz.call17 Tryz.func17 [] (fun r => A_STables r) (
  .Z (.fr 7) <| .Z (.fr 8) <| .Z (.fr 9) <| .Z (.fr 10) <| .Z (.fr 18) <| .Z (.fr 19) <| .Z (.fr 20) <| .Z (.fr 21) <| .Z (.fr 35) <| .Z (.fr 36) <| .Z (.fr 37) <| .Z (.fr 38) <| .Z (.fr 43) <| .Z (.fr 44) <| .Z (.fr 45) <| .Z (.fr 46) <| .R (⟨(⟨([0, 1000, 3000, 7000] : List Int), ([50, 300, 700, 1050] : List Int), ([([5000, 90000, 250000, 400000] : List Int), ([8000, 100000, 280000, 430000] : List Int), ([10000, 110000, 300000, 460000] : List Int), ([8000, 95000, 270000, 420000] : List Int)] : List (List Int))⟩ : SMap), (⟨([0, 1000, 3000, 7000] : List Int), ([0, 100000, 300000, 500000] : List Int), ([([640, 600, 400, 300] : List Int), ([900, 800, 600, 500] : List Int), ([1900, 1600, 1300, 1100] : List Int), ([2400, 2100, 1800, 1600] : List Int)] : List (List Int))⟩ : SMap), (⟨([0, 1000, 3000, 7000] : List Int), ([0, 100000, 300000, 500000] : List Int), ([([0, 400, 1500, 2600] : List Int), ([0, 500, 1800, 3000] : List Int), ([0, 450, 1900, 3200] : List Int), ([0, 300, 1500, 2700] : List Int)] : List (List Int))⟩ : SMap), (⟨([0, 1000, 3000, 7000] : List Int), ([0, 200, 600, 1000] : List Int), ([([100, 800, 2000, 3000] : List Int), ([0, 700, 2000, 3200] : List Int), ([0, 600, 1900, 3200] : List Int), ([0, 300, 1500, 2700] : List Int)] : List (List Int))⟩ : SMap), (⟨([(-40), 20, 100] : List Int), ([1200, 1000, 850] : List Int)⟩ : SCurve), (⟨([6000, 14000] : List Int), ([6000, 3000] : List Int)⟩ : SCurve), (⟨([6000, 14000] : List Int), ([2500, 800] : List Int)⟩ : SCurve), (⟨([0, 640, 1600, 2560] : List Int), ([1000, 950, 700, 300] : List Int)⟩ : SCurve), (⟨1024, 32, 0, 800⟩ : SGain)⟩ : STables)) (by kernel_rfl)
noncomputable def ecu_Body : C Tryz.prog SBody := .of Z Tryz.call19 Tryz.func19 [] (fun r => A_SBody r) (
  .R (⟨4000, 400, 600, 9000, 200, 300, 4⟩ : SBody)) (by kernel_rfl)
noncomputable def slices_IndexFunc_sint_b1 (s : List Int) (f2 : Cl Tryz.prog Int Bool (fun x => [.t (tI x)]) (fun r => .t (tB r))) (i : Int) (_ : Unit) : M Tryz.prog Int (Fl Unit Int) :=
  .O (.ix Pv.encI s i) fun x => .K (f2.at x) fun v => .I v (.R (.ret i)) (.R (.next ()))
noncomputable def slices_IndexFunc_sint (s : List Int) (f2 : Cl Tryz.prog Int Bool (fun x => [.t (tI x)]) (fun r => .t (tB r))) : C Tryz.prog Int := .of Z Tryz.call131 Tryz.func131 [.t (tS Pv.encI s), .fz f2.n f2.cs] (fun r => .t (tI r)) (
  M.QN (s.length : Int) 2 8 (fun (_ : Unit) => []) 0 (.one .rt) (slices_IndexFunc_sint_b1 s f2) () (fun _ => .R (-1)) (fun r2 => .R r2)) (by kernel_rfl)
noncomputable def slices_ContainsFunc_sint (s : List Int) (f2 : Cl Tryz.prog Int Bool (fun x => [.t (tI x)]) (fun r => .t (tB r))) : C Tryz.prog Bool := .of Z Tryz.call74 Tryz.func74 [.t (tS Pv.encI s), .fz f2.n f2.cs] (fun r => .t (tB r)) (
  .K (slices_IndexFunc_sint s f2) fun v => .R (decide (v ≥ 0))) (by kernel_rfl)
noncomputable def surface_element (n2 : Int) : C Tryz.prog Bool := .of Z Tryz.call82 Tryz.func82 [.t (tI n2)] (fun r => .t (tB r)) (
  .R ((decide (n2 ≥ (-1073741824))) && (decide (n2 ≤ 1073741824)))) (by kernel_rfl)
noncomputable def surface_axis_b1 (l : List Int) (i : Int) (_ : Unit) : M Tryz.prog Bool (Fl Unit Bool) :=
  .O (.ix Pv.encI l i) fun x => .K (surface_element x) fun v => .G (!v) (.R true) (.G (decide (i > 0)) (.O (.ix Pv.encI l (w64 (i - 1))) fun x2 => .R (decide (x ≤ x2))) (.R false) fun b2 => .R b2) fun b3 => .I b3 (.R (.ret false)) (.R (.next ()))
noncomputable def surface_axis (l : List Int) : C Tryz.prog Bool := .of Z Tryz.call80 Tryz.func80 [.t (tS Pv.encI l)] (fun r => .t (tB r)) (
  .I ((decide ((l.length : Int) < 2)) || (decide ((l.length : Int) > 32))) (.R false) (M.QN (l.length : Int) 2 15 (fun (_ : Unit) => []) 0 (.one .rt) (surface_axis_b1 l) () (fun _ => .R true) (fun r2 => .R r2))) (by kernel_rfl)
noncomputable def surface_Valid_1 (z : Int) : C Tryz.prog Bool := .of Z Tryz.call81 Tryz.func81 [.t (tI z)] (fun r => .t (tB r)) (
  .K (surface_element z) fun v => .R (!v)) (by kernel_rfl)
noncomputable def surface_Valid_b1 (m2 : SMap) (_ : Int) (x : List Int) (_ : Unit) : M Tryz.prog Bool (Fl Unit Bool) :=
  .W (.hx 0) <| .G ((x.length : Int) != (m2.Y.length : Int)) (.R true) (.K (slices_ContainsFunc_sint x (.of (fun z_ => surface_Valid_1 z_) 81 [] (fun _ => rfl) (fun _ => rfl) (fun _ => rfl))) fun v3 => .R v3) fun b3 => .I b3 (.R (.ret false)) (.R (.next ()))
noncomputable def surface_Valid (m2 : SMap) : C Tryz.prog Bool := .of Z Tryz.call40 Tryz.func40 [A_SMap m2] (fun r => .t (tB r)) (
  .K (surface_axis m2.X) fun v => .G (!v) (.R true) (.K (surface_axis m2.Y) fun v2 => .R (!v2)) fun b2 => .I (b2 || ((m2.Z.length : Int) != (m2.X.length : Int))) (.R false) (M.Q (Pv.encS Pv.encI) m2.Z 2 27 (fun (_ : Unit) => [.x 5, .x 24]) 0 (.one .rt) (surface_Valid_b1 m2) () (fun _ => .R true) (fun r2 => .R r2))) (by kernel_rfl)
noncomputable def curve_far (n2 : Int) : C Tryz.prog Bool := .of Z Tryz.call84 Tryz.func84 [.t (tI n2)] (fun r => .t (tB r)) (
  .R ((decide (n2 < (-1073741824))) || (decide (n2 > 1073741824)))) (by kernel_rfl)
noncomputable def curve_axis_b1 (l : List Int) (i : Int) (_ : Unit) : M Tryz.prog Bool (Fl Unit Bool) :=
  .D [] [] <| .O (.ix Pv.encI l i) fun x => .O (.ix Pv.encI l (w64 (i + 1))) fun x2 => .I (decide (x ≥ x2)) (.R (.ret false)) (.R (.next ()))
noncomputable def curve_axis (l : List Int) : C Tryz.prog Bool := .of Z Tryz.call83 Tryz.func83 [.t (tS Pv.encI l)] (fun r => .t (tB r)) (
  .G ((decide ((l.length : Int) < 2)) || (decide ((l.length : Int) > 32))) (.R true) (.K (slices_ContainsFunc_sint l (.of (fun z_ => curve_far z_) 84 [] (fun _ => rfl) (fun _ => rfl) (fun _ => rfl))) fun v => .R v) fun b2 => .I b2 (.R false) (M.QN (w64 ((l.length : Int) - 1)) 2 19 (fun (_ : Unit) => []) 0 (.one .rt) (curve_axis_b1 l) () (fun _ => .R true) (fun r2 => .R r2))) (by kernel_rfl)
noncomputable def curve_Valid (c : SCurve) : C Tryz.prog Bool := .of Z Tryz.call41 Tryz.func41 [A_SCurve c] (fun r => .t (tB r)) (
  .G ((c.X.length : Int) == (c.Y.length : Int)) (.K (curve_axis c.X) fun v => .R v) (.R false) fun b2 => .G b2 (.K (slices_ContainsFunc_sint c.Y (.of (fun z_ => curve_far z_) 84 [] (fun _ => rfl) (fun _ => rfl) (fun _ => rfl))) fun v2 => .R (!v2)) (.R false) fun b3 => .R b3) (by kernel_rfl)
noncomputable def cmp_isNaN_int (x : Int) : C Tryz.prog Bool := .of Z Tryz.call221 Tryz.func221 [.t (tI x)] (fun r => .t (tB r)) (
  .R (x != x)) (by kernel_rfl)
noncomputable def cmp_Less_int (x : Int) (y : Int) : C Tryz.prog Bool := .of Z Tryz.call130 Tryz.func130 [.t (tI x), .t (tI y)] (fun r => .t (tB r)) (
  .K (cmp_isNaN_int x) fun v => .G v (.K (cmp_isNaN_int y) fun v2 => .R (!v2)) (.R false) fun b2 => .R (b2 || (decide (x < y)))) (by kernel_rfl)
noncomputable def slices_IsSorted_sint_b1 (x : List Int) (i : Int) : M Tryz.prog Bool (Int ⊕ (Int ⊕ Bool)) :=
  .I (decide (i > 0)) (.D [] [] <| .O (.ix Pv.encI x i) fun x2 => .O (.ix Pv.encI x (w64 (i - 1))) fun x3 => .K (cmp_Less_int x2 x3) fun v => .I v (.R (.inr (.inr false))) (.R (.inl (w64 (i - 1))))) (.R (.inr (.inl i)))
noncomputable def slices_IsSorted_sint (x : List Int) : C Tryz.prog Bool := .of Z Tryz.call72 Tryz.func72 [.t (tS Pv.encI x)] (fun r => .t (tB r)) (
  .L (fun (t : Int) => [.t 3 (.t (tI t))]) 0 (.one .rt) (slices_IsSorted_sint_b1 x) (w64 ((x.length : Int) - 1)) (fun _ => .R true) (fun r2 => .R r2)) (by kernel_rfl)
noncomputable def air_between (n2 : Int) (low : Int) (high : Int) : C Tryz.prog Bool := .of Z Tryz.call73 Tryz.func73 [.t (tI n2), .t (tI low), .t (tI high)] (fun r => .t (tB r)) (
  .R ((decide (n2 ≥ low)) && (decide (n2 ≤ high)))) (by kernel_rfl)
noncomputable def air_Valid_1 (y : Int) : C Tryz.prog Bool := .of Z Tryz.call75 Tryz.func75 [.t (tI y)] (fun r => .t (tB r)) (
  .K (air_between y 100 3000) fun v => .R (!v)) (by kernel_rfl)
noncomputable def air_Valid_b1 (_ : Int) (x : List Int) (_ : Unit) : M Tryz.prog Bool (Fl Unit Bool) :=
  .W (.hx 0) <| .K (slices_IsSorted_sint x) fun v3 => .G (!v3) (.R true) (.O (.ix Pv.encI x 0) fun x2 => .K (air_between x2 0 1048576) fun v4 => .R (!v4)) fun b3 => .G b3 (.R true) (.O (.ix Pv.encI x (w64 ((x.length : Int) - 1))) fun x3 => .K (air_between x3 0 1048576) fun v5 => .R (!v5)) fun b4 => .I b4 (.R (.ret false)) (.R (.next ()))
noncomputable def air_Valid (t2 : STables) : C Tryz.prog Bool := .of Z Tryz.call38 Tryz.func38 [A_STables t2] (fun r => .t (tB r)) (
  .K (surface_Valid t2.Air) fun v => .G (!v) (.R true) (.K (curve_Valid t2.AirTemp) fun v2 => .R (!v2)) fun b2 => .I b2 (.R false) (M.Q (Pv.encS Pv.encI) t2.Air.Z 2 19 (fun (_ : Unit) => [.x 5, .x 15, .x 16]) 0 (.one .rt) (air_Valid_b1) () (fun _ => .K (slices_ContainsFunc_sint t2.AirTemp.Y (.of (fun z_ => air_Valid_1 z_) 75 [] (fun _ => rfl) (fun _ => rfl) (fun _ => rfl))) fun v6 => .R (!v6)) (fun r2 => .R r2))) (by kernel_rfl)
noncomputable def slices_IndexFunc_ssint_b1 (s : List (List Int)) (f2 : Cl Tryz.prog (List Int) Bool (fun x => [.t (tS Pv.encI x)]) (fun r => .t (tB r))) (i : Int) (_ : Unit) : M Tryz.prog Int (Fl Unit Int) :=
  .O (.ix (Pv.encS Pv.encI) s i) fun x => .K (f2.at x) fun v => .I v (.R (.ret i)) (.R (.next ()))
noncomputable def slices_IndexFunc_ssint (s : List (List Int)) (f2 : Cl Tryz.prog (List Int) Bool (fun x => [.t (tS Pv.encI x)]) (fun r => .t (tB r))) : C Tryz.prog Int := .of Z Tryz.call87 Tryz.func87 [.t (tS (Pv.encS Pv.encI) s), .fz f2.n f2.cs] (fun r => .t (tI r)) (
  M.QN (s.length : Int) 2 8 (fun (_ : Unit) => []) 0 (.one .rt) (slices_IndexFunc_ssint_b1 s f2) () (fun _ => .R (-1)) (fun r2 => .R r2)) (by kernel_rfl)
noncomputable def slices_ContainsFunc_ssint (s : List (List Int)) (f2 : Cl Tryz.prog (List Int) Bool (fun x => [.t (tS Pv.encI x)]) (fun r => .t (tB r))) : C Tryz.prog Bool := .of Z Tryz.call45 Tryz.func45 [.t (tS (Pv.encS Pv.encI) s), .fz f2.n f2.cs] (fun r => .t (tB r)) (
  .K (slices_IndexFunc_ssint s f2) fun v => .R (decide (v ≥ 0))) (by kernel_rfl)
noncomputable def torque_within (x : Int) (low : Int) (high : Int) : C Tryz.prog Bool := .of Z Tryz.call133 Tryz.func133 [.t (tI x), .t (tI low), .t (tI high)] (fun r => .t (tB r)) (
  .R ((decide (x ≥ low)) && (decide (x ≤ high)))) (by kernel_rfl)
noncomputable def torque_outside_1 (x : Int) (c : Int) (c2 : Int) : C Tryz.prog Bool := .of Z Tryz.call132 Tryz.func132 [.t (tI x), .el (Pv.encI c), .el (Pv.encI c2)] (fun r => .t (tB r)) (
  .K (torque_within x c c2) fun v => .R (!v)) (by kernel_rfl)
noncomputable def torque_outside (l : List Int) (low : Int) (high : Int) : C Tryz.prog Bool := .of Z Tryz.call76 Tryz.func76 [.t (tS Pv.encI l), .t (tI low), .t (tI high)] (fun r => .t (tB r)) (
  .Z (.fb 4) <| .Z (.fb 5) <| .K (slices_ContainsFunc_sint l (.of (fun z_ => torque_outside_1 z_ low high) 132 [Pv.encI low, Pv.encI high] (fun _ => rfl) (fun _ => rfl) (fun _ => rfl))) fun v => .R v) (by kernel_rfl)
noncomputable def slices_IsSortedFunc_sint_b1 (x : List Int) (cmp : Cl Tryz.prog (Int × Int) Int (fun x => [.t (tI x.1), .t (tI x.2)]) (fun r => .t (tI r))) (i : Int) : M Tryz.prog Bool (Int ⊕ (Int ⊕ Bool)) :=
  .I (decide (i > 0)) (.D [] [] <| .O (.ix Pv.encI x i) fun x2 => .O (.ix Pv.encI x (w64 (i - 1))) fun x3 => .K (cmp.at (x2, x3)) fun v => .I (decide (v < 0)) (.R (.inr (.inr false))) (.R (.inl (w64 (i - 1))))) (.R (.inr (.inl i)))
noncomputable def slices_IsSortedFunc_sint (x : List Int) (cmp : Cl Tryz.prog (Int × Int) Int (fun x => [.t (tI x.1), .t (tI x.2)]) (fun r => .t (tI r))) : C Tryz.prog Bool := .of Z Tryz.call77 Tryz.func77 [.t (tS Pv.encI x), .fz cmp.n cmp.cs] (fun r => .t (tB r)) (
  .L (fun (t : Int) => [.t 5 (.t (tI t))]) 0 (.one .rt) (slices_IsSortedFunc_sint_b1 x cmp) (w64 ((x.length : Int) - 1)) (fun _ => .R true) (fun r2 => .R r2)) (by kernel_rfl)
noncomputable def torque_Valid_1 (a : Int) (b2 : Int) : C Tryz.prog Int := .of Z Tryz.call78 Tryz.func78 [.t (tI a), .t (tI b2)] (fun r => .t (tI r)) (
  .R (w64 (b2 - a))) (by kernel_rfl)
noncomputable def torque_Valid_2 (row : List Int) : C Tryz.prog Bool := .of Z Tryz.call79 Tryz.func79 [.t (tS Pv.encI row)] (fun r => .t (tB r)) (
  .K (torque_outside row 0 10000) fun v => .G v (.R true) (.K (slices_IsSorted_sint row) fun v2 => .R (!v2)) fun b2 => .R b2) (by kernel_rfl)
noncomputable def torque_Valid (t2 : STables) : C Tryz.prog Bool := .of Z Tryz.call39 Tryz.func39 [A_STables t2] (fun r => .t (tB r)) (
  .K (surface_Valid t2.Torque) fun v => .G (!v) (.R true) (.K (curve_Valid t2.Efficiency) fun v2 => .R (!v2)) fun b2 => .G b2 (.R true) (.K (torque_outside t2.Efficiency.Y 0 1000) fun v3 => .R v3) fun b3 => .I b3 (.R false) (.K (slices_IsSortedFunc_sint t2.Efficiency.Y (.of (fun z_ => torque_Valid_1 z_.1 z_.2) 78 [] (fun _ => rfl) (fun _ => rfl) (fun _ => rfl))) fun v4 => .I (!v4) (.R false) (.K (slices_ContainsFunc_ssint t2.Torque.Z (.of (fun z_ => torque_Valid_2 z_) 79 [] (fun _ => rfl) (fun _ => rfl) (fun _ => rfl))) fun v5 => .R (!v5)))) (by kernel_rfl)
noncomputable def control_in (x : Int) (low : Int) (high : Int) : C Tryz.prog Bool := .of Z Tryz.call86 Tryz.func86 [.t (tI x), .t (tI low), .t (tI high)] (fun r => .t (tB r)) (
  .R ((decide (x ≥ low)) && (decide (x ≤ high)))) (by kernel_rfl)
noncomputable def control_all_1 (x : Int) (c : Int) (c2 : Int) : C Tryz.prog Bool := .of Z Tryz.call85 Tryz.func85 [.t (tI x), .el (Pv.encI c), .el (Pv.encI c2)] (fun r => .t (tB r)) (
  .K (control_in x c c2) fun v => .R (!v)) (by kernel_rfl)
noncomputable def control_all (l : List Int) (low : Int) (high : Int) : C Tryz.prog Bool := .of Z Tryz.call42 Tryz.func42 [.t (tS Pv.encI l), .t (tI low), .t (tI high)] (fun r => .t (tB r)) (
  .Z (.fb 4) <| .Z (.fb 5) <| .K (slices_ContainsFunc_sint l (.of (fun z_ => control_all_1 z_ low high) 85 [Pv.encI low, Pv.encI high] (fun _ => rfl) (fun _ => rfl) (fun _ => rfl))) fun v => .R (!v)) (by kernel_rfl)
noncomputable def filter_ValidGain (g : SGain) : C Tryz.prog Bool := .of Z Tryz.call43 Tryz.func43 [A_SGain g] (fun r => .t (tB r)) (
  .R (((((((decide (g.P ≥ 0)) && (decide (g.P ≤ 65536))) && (decide (g.I ≥ 0))) && (decide (g.I ≤ 65536))) && (decide (g.Low ≥ (-1073741824)))) && (decide (g.Low ≤ g.High))) && (decide (g.High ≤ 1073741824)))) (by kernel_rfl)
noncomputable def control_Valid_b1 (_ : Int) (x : List Int) (_ : Unit) : M Tryz.prog Bool (Fl Unit Bool) :=
  .W (.hx 0) <| .K (control_all x (-1280) 3840) fun v7 => .I (!v7) (.R (.ret false)) (.R (.next ()))
noncomputable def control_Valid (t2 : STables) : C Tryz.prog Bool := .of Z Tryz.call16 Tryz.func16 [A_STables t2] (fun r => .t (tB r)) (
  .K (air_Valid t2) fun v => .G (!v) (.R true) (.K (torque_Valid t2) fun v2 => .R (!v2)) fun b2 => .G b2 (.R true) (.K (surface_Valid t2.Spark) fun v3 => .R (!v3)) fun b3 => .G b3 (.R true) (.K (surface_Valid t2.Wish) fun v4 => .R (!v4)) fun b4 => .G b4 (.R true) (.K (curve_Valid t2.Dwell) fun v5 => .R (!v5)) fun b5 => .G b5 (.R true) (.K (curve_Valid t2.Dead) fun v6 => .R (!v6)) fun b6 => .I b6 (.R false) (M.Q (Pv.encS Pv.encI) t2.Spark.Z 2 41 (fun (_ : Unit) => [.x 37, .x 38]) 0 (.one .rt) (control_Valid_b1) () (fun _ => .K (control_all t2.Dwell.Y 500 10000) fun v8 => .G v8 (.K (control_all t2.Dead.Y 0 10000) fun v9 => .R v9) (.R false) fun b7 => .G b7 (.K (filter_ValidGain t2.Idle) fun v10 => .R v10) (.R false) fun b8 => .R b8) (fun r2 => .R r2))) (by kernel_rfl)
noncomputable def events_angle (a : Int) : C Tryz.prog Bool := .of Z Tryz.call134 Tryz.func134 [.t (tI a)] (fun r => .t (tB r)) (
  .R ((decide (a ≥ 0)) && (decide (a < 46080)))) (by kernel_rfl)
noncomputable def slices_Index_sint_b1 (s : List Int) (v : Int) (i : Int) (_ : Unit) : M Tryz.prog Int (Fl Unit Int) :=
  .O (.ix Pv.encI s i) fun x => .I (v == x) (.R (.ret i)) (.R (.next ()))
noncomputable def slices_Index_sint (s : List Int) (v : Int) : C Tryz.prog Int := .of Z Tryz.call222 Tryz.func222 [.t (tS Pv.encI s), .t (tI v)] (fun r => .t (tI r)) (
  M.QN (s.length : Int) 2 8 (fun (_ : Unit) => []) 0 (.one .rt) (slices_Index_sint_b1 s v) () (fun _ => .R (-1)) (fun r2 => .R r2)) (by kernel_rfl)
noncomputable def slices_Contains_sint (s : List Int) (v : Int) : C Tryz.prog Bool := .of Z Tryz.call135 Tryz.func135 [.t (tS Pv.encI s), .t (tI v)] (fun r => .t (tB r)) (
  .K (slices_Index_sint s v) fun v2 => .R (decide (v2 ≥ 0))) (by kernel_rfl)
noncomputable def events_Valid_b1 (e2 : SEngine) (i : Int) : M Tryz.prog Bool (Int ⊕ (Int ⊕ Bool)) :=
  .I (decide (i ≤ (e2.Order.length : Int))) (.K (slices_Contains_sint e2.Order i) fun v2 => .I (!v2) (.R (.inr (.inr false))) (.R (.inl (w64 (i + 1))))) (.R (.inr (.inl i)))
noncomputable def events_Valid (e2 : SEngine) : C Tryz.prog Bool := .of Z Tryz.call88 Tryz.func88 [A_SEngine e2] (fun r => .t (tB r)) (
  .G ((decide ((e2.Order.length : Int) < 1)) || (decide ((e2.Order.length : Int) > 8))) (.R true) (.K (events_angle e2.First) fun v => .R (!v)) fun b2 => .I b2 (.R false) (.L (fun (t : Int) => [.t 4 (.t (tI t)), .x 5]) 0 (.one .rt) (events_Valid_b1 e2) 1 (fun _ => .R true) (fun r2 => .R r2))) (by kernel_rfl)
noncomputable def slices_Repeat_sKnock (x : List SKnock) (count : Int) : C Tryz.prog (List SKnock) := ⟨136, [.t (tS enc_SKnock x), .t (tI count)], Go.Pv.slices_Repeat_sKnock x count, fun _ => repE x count, (fun r => .t (tS enc_SKnock r)), true, otie_slices_Repeat_sKnock x count, fun _ r h => repE_slices_Repeat_sKnock h⟩
noncomputable def knock_New (n2 : Int) : C Tryz.prog (List SKnock × Int) := .of Z Tryz.call89 Tryz.func89 [.t (tI n2)] (fun r => .tup [.t (tS enc_SKnock r.1), .t (tI r.2)]) (
  .I ((decide (n2 < 1)) || (decide (n2 > 8))) (.R (([] : List SKnock), 2)) (.Z (.fr 11) <| .K (slices_Repeat_sKnock ([(⟨0, 100, 0⟩ : SKnock)] : List SKnock) n2) fun v => .R (v, 0))) (by kernel_rfl)
noncomputable def pedal_New : C Tryz.prog SPedal := .of Z Tryz.call90 Tryz.func90 [] (fun r => A_SPedal r) (
  .R (⟨0, 0, false⟩ : SPedal)) (by kernel_rfl)
noncomputable def mixture_New : C Tryz.prog SProbe := .of Z Tryz.call91 Tryz.func91 [] (fun r => A_SProbe r) (
  .Mk enc_SCell 9 (⟨0, 0⟩ : SCell) fun l => .R (⟨false, false, 1000, 0, l⟩ : SProbe)) (by kernel_rfl)
noncomputable def control_New (e2 : SEngine) : C Tryz.prog (SControls × Int) := .of Z Tryz.call47 Tryz.func47 [A_SEngine e2] (fun r => .tup [A_SControls r.1, .t (tI r.2)]) (
  .K (events_Valid e2) fun v => .I (!v) (.R ((⟨(⟨0, 0, false⟩ : SPedal), (⟨0⟩ : SIntegral), ([] : List SKnock), (⟨false, false, 0, 0, ([] : List SCell)⟩ : SProbe), 0, (⟨0, 0⟩ : SGrant)⟩ : SControls), 1)) (.K (knock_New (e2.Order.length : Int)) fun r2 => .I (r2.2 != 0) (.R ((⟨(⟨0, 0, false⟩ : SPedal), (⟨0⟩ : SIntegral), ([] : List SKnock), (⟨false, false, 0, 0, ([] : List SCell)⟩ : SProbe), 0, (⟨0, 0⟩ : SGrant)⟩ : SControls), 1)) (.K (pedal_New) fun v2 => .K (mixture_New) fun v3 => .R ((⟨v2, (⟨0⟩ : SIntegral), r2.1, v3, 0, (⟨0, (-1)⟩ : SGrant)⟩ : SControls), 0)))) (by kernel_rfl)
noncomputable def timer_New (n2 : Int) : C Tryz.prog (STimer × Int) := .of Z Tryz.call92 Tryz.func92 [.t (tI n2)] (fun r => .tup [A_STimer r.1, .t (tI r.2)]) (
  .I ((decide (n2 < 1)) || (decide (n2 > 16))) (.R ((⟨0, ([] : List SChannel)⟩ : STimer), 2)) (.Mk enc_SChannel n2 (⟨false, 0, false, false⟩ : SChannel) fun l => .R ((⟨0, l⟩ : STimer), 0))) (by kernel_rfl)
noncomputable def slices_Clone_sint (s : List Int) : C Tryz.prog (List Int) := .of Z Tryz.call93 Tryz.func93 [.t (tS Pv.encI s)] (fun r => .t (tS Pv.encI r)) (
  .Nl Pv.encI s (.I true (.R ([] : List Int)) .N) (fun s => .I false .N (.U (.ap Pv.encI ([] : List Int) s 5) fun l => .R l))) (by kernel_rfl)
noncomputable def angle_New : C Tryz.prog SClock := .of Z Tryz.call94 Tryz.func94 [] (fun r => A_SClock r) (
  .R (⟨false, 0, 0, 0, 0, 0⟩ : SClock)) (by kernel_rfl)
noncomputable def scheduler_New (e2 : SEngine) : C Tryz.prog (SScheduler × Int) := .of Z Tryz.call48 Tryz.func48 [A_SEngine e2] (fun r => .tup [A_SScheduler r.1, .t (tI r.2)]) (
  .K (events_Valid e2) fun v => .I (!v) (.R ((⟨(⟨([] : List Int), 0⟩ : SEngine), (⟨false, 0, 0, 0, 0, 0⟩ : SClock), (⟨0, ([] : List SChannel)⟩ : STimer), ([] : List SFire), ([] : List SJob), false⟩ : SScheduler), 1)) (.K (timer_New (w64 (2 * (e2.Order.length : Int)))) fun r2 => .I (r2.2 != 0) (.R ((⟨(⟨([] : List Int), 0⟩ : SEngine), (⟨false, 0, 0, 0, 0, 0⟩ : SClock), (⟨0, ([] : List SChannel)⟩ : STimer), ([] : List SFire), ([] : List SJob), false⟩ : SScheduler), 1)) (.D [] [] <| .K (slices_Clone_sint e2.Order) fun v2 => .K (angle_New) fun v3 => .R ((⟨(⟨v2, e2.First⟩ : SEngine), v3, r2.1, ([] : List SFire), ([] : List SJob), false⟩ : SScheduler), 0)))) (by kernel_rfl)
noncomputable def plant_within (x : Int) (low : Int) (high : Int) : C Tryz.prog Bool := .of Z Tryz.call44 Tryz.func44 [.t (tI x), .t (tI low), .t (tI high)] (fun r => .t (tB r)) (
  .R ((decide (x ≥ low)) && (decide (x ≤ high)))) (by kernel_rfl)
noncomputable def plant_Valid (b2 : SBody) : C Tryz.prog Bool := .of Z Tryz.call18 Tryz.func18 [A_SBody b2] (fun r => .t (tB r)) (
  .K (plant_within b2.Inertia 100 1048576) fun v => .G v (.K (plant_within b2.Friction 0 65536) fun v2 => .R v2) (.R false) fun b3 => .G b3 (.K (plant_within b2.Throttle 0 65536) fun v3 => .R v3) (.R false) fun b4 => .G b4 (.K (plant_within b2.Volume 1 65536) fun v4 => .R v4) (.R false) fun b5 => .G b5 (.K (plant_within b2.Film 0 1023) fun v5 => .R v5) (.R false) fun b6 => .G b6 (.K (plant_within b2.Evaporate 1 1024) fun v6 => .R v6) (.R false) fun b7 => .G b7 (.K (plant_within b2.Delay 0 20) fun v7 => .R v7) (.R false) fun b8 => .R b8) (by kernel_rfl)
noncomputable def plant_New (b2 : SBody) : C Tryz.prog (SPlant × Int) := .of Z Tryz.call49 Tryz.func49 [A_SBody b2] (fun r => .tup [A_SPlant r.1, .t (tI r.2)]) (
  .K (plant_Valid b2) fun v => .I (!v) (.R ((⟨0, 0, 0, 0, 0, ([] : List Int)⟩ : SPlant), 1)) (.R ((⟨0, 0, 0, 1013, 0, ([] : List Int)⟩ : SPlant), 0))) (by kernel_rfl)
noncomputable def slices_IndexFunc_sConfig_b1 (s : List SConfig) (f2 : Cl Tryz.prog SConfig Bool (fun x => [A_SConfig x]) (fun r => .t (tB r))) (i : Int) (_ : Unit) : M Tryz.prog Int (Fl Unit Int) :=
  .O (.ix enc_SConfig s i) fun x => .K (f2.at x) fun v => .I v (.R (.ret i)) (.R (.next ()))
noncomputable def slices_IndexFunc_sConfig (s : List SConfig) (f2 : Cl Tryz.prog SConfig Bool (fun x => [A_SConfig x]) (fun r => .t (tB r))) : C Tryz.prog Int := .of Z Tryz.call37 Tryz.func37 [.t (tS enc_SConfig s), .fz f2.n f2.cs] (fun r => .t (tI r)) (
  M.QN (s.length : Int) 2 8 (fun (_ : Unit) => []) 0 (.one .rt) (slices_IndexFunc_sConfig_b1 s f2) () (fun _ => .R (-1)) (fun r2 => .R r2)) (by kernel_rfl)
noncomputable def slices_ContainsFunc_sConfig (s : List SConfig) (f2 : Cl Tryz.prog SConfig Bool (fun x => [A_SConfig x]) (fun r => .t (tB r))) : C Tryz.prog Bool := .of Z Tryz.call14 Tryz.func14 [.t (tS enc_SConfig s), .fz f2.n f2.cs] (fun r => .t (tB r)) (
  .K (slices_IndexFunc_sConfig s f2) fun v => .R (decide (v ≥ 0))) (by kernel_rfl)
noncomputable def fault_within (x : Int) (low : Int) (high : Int) : C Tryz.prog Bool := .of Z Tryz.call138 Tryz.func138 [.t (tI x), .t (tI low), .t (tI high)] (fun r => .t (tB r)) (
  .R ((decide (x ≥ low)) && (decide (x ≤ high)))) (by kernel_rfl)
noncomputable def fault_ValidConfig (c : SConfig) : C Tryz.prog Bool := .of Z Tryz.call137 Tryz.func137 [A_SConfig c] (fun r => .t (tB r)) (
  .K (fault_within c.Code 1 16777215) fun v => .G v (.K (fault_within c.Fail 1 100) fun v2 => .R v2) (.R false) fun b2 => .G b2 (.K (fault_within c.Pass 1 100) fun v3 => .R v3) (.R false) fun b3 => .G b3 (.K (fault_within c.Heal 1 100) fun v4 => .R v4) (.R false) fun b4 => .G b4 (.K (fault_within c.Age c.Heal 255) fun v5 => .R v5) (.R false) fun b5 => .G b5 (.K (fault_within c.Priority 0 255) fun v6 => .R v6) (.R false) fun b6 => .G b6 (.K (fault_within c.Frame 0 8) fun v7 => .R v7) (.R false) fun b7 => .R b7) (by kernel_rfl)
noncomputable def fault_wrong (c : SConfig) : C Tryz.prog Bool := .of Z Tryz.call95 Tryz.func95 [A_SConfig c] (fun r => .t (tB r)) (
  .K (fault_ValidConfig c) fun v => .R (!v)) (by kernel_rfl)
noncomputable def fault_codes_b1 (_ : Int) (x : SConfig) (f2 : List (Int × Bool)) : M Tryz.prog Bool (Fl (List (Int × Bool)) Bool) :=
  .W (.hx 0) <| .Ml mq238 f2 x.Code <| .I (mget false f2 x.Code) (.R (.ret false)) (.Mu mq238 f2 x.Code true <| .R (.next (mset f2 x.Code true)))
noncomputable def fault_codes (l : List SConfig) : C Tryz.prog Bool := .of Z Tryz.call96 Tryz.func96 [.t (tS enc_SConfig l)] (fun r => .t (tB r)) (
  .Mm 2048 <| M.Q enc_SConfig l 2 9 (fun (t : List (Int × Bool)) => [.x 6, .b 2048 (.mp (List.map (ent (fun n : Int => .int .i64 n) (fun v : Bool => .bool v)) t))]) 0 (.one .rt) (fault_codes_b1) ([] : List (Int × Bool)) (fun _ => .R true) (fun r2 => .R r2)) (by kernel_rfl)
noncomputable def slices_Clone_sConfig (s : List SConfig) : C Tryz.prog (List SConfig) := .of Z Tryz.call97 Tryz.func97 [.t (tS enc_SConfig s)] (fun r => .t (tS enc_SConfig r)) (
  .Nl enc_SConfig s (.I true (.R ([] : List SConfig)) .N) (fun s => .I false .N (.U (.ap enc_SConfig ([] : List SConfig) s 5) fun l => .R l))) (by kernel_rfl)
noncomputable def fault_New (l : List SConfig) : C Tryz.prog (SFaults × Int) := .of Z Tryz.call50 Tryz.func50 [.t (tS enc_SConfig l)] (fun r => .tup [A_SFaults r.1, .t (tI r.2)]) (
  .I (decide ((l.length : Int) > 64)) (.R ((⟨([] : List SConfig), ([] : List SFault), 0, false⟩ : SFaults), 5)) (.K (slices_ContainsFunc_sConfig l (.of (fun z_ => fault_wrong z_) 95 [] (fun _ => rfl) (fun _ => rfl) (fun _ => rfl))) fun v => .I v (.R ((⟨([] : List SConfig), ([] : List SFault), 0, false⟩ : SFaults), 1)) (.K (fault_codes l) fun v2 => .I (!v2) (.R ((⟨([] : List SConfig), ([] : List SFault), 0, false⟩ : SFaults), 8)) (.D [] [] <| .K (slices_Clone_sConfig l) fun v3 => .Mk enc_SFault (l.length : Int) (⟨0, 0, 0, 0, 0, ([] : List Int), 0⟩ : SFault) fun l2 => .R ((⟨v3, l2, 0, false⟩ : SFaults), 0))))) (by kernel_rfl)
noncomputable def fault_value (x : Int) : C Tryz.prog Bool := .of Z Tryz.call318 Tryz.func318 [.t (tI x)] (fun r => .t (tB r)) (
  .K (fault_within x (-1099511627776) 1099511627776) fun v => .R v) (by kernel_rfl)
noncomputable def fault_frame_1 (x : Int) : C Tryz.prog Bool := .of Z Tryz.call317 Tryz.func317 [.t (tI x)] (fun r => .t (tB r)) (
  .K (fault_value x) fun v => .R (!v)) (by kernel_rfl)
noncomputable def fault_frame (c : SConfig) (l : List Int) : C Tryz.prog Bool := .of Z Tryz.call224 Tryz.func224 [A_SConfig c, .t (tS Pv.encI l)] (fun r => .t (tB r)) (
  .G ((l.length : Int) == c.Frame) (.K (slices_ContainsFunc_sint l (.of (fun z_ => fault_frame_1 z_) 317 [] (fun _ => rfl) (fun _ => rfl) (fun _ => rfl))) fun v => .R (!v)) (.R false) fun b2 => .R b2) (by kernel_rfl)
noncomputable def fault_has (f2 : SFault) (bits : Int) : C Tryz.prog Bool := .of Z Tryz.call225 Tryz.func225 [A_SFault f2, .t (tI bits)] (fun r => .t (tB r)) (
  .R ((bitAnd .i64 f2.Status bits) == bits)) (by kernel_rfl)
noncomputable def fault_known (f2 : SFault) : C Tryz.prog Bool := .of Z Tryz.call226 Tryz.func226 [A_SFault f2] (fun r => .t (tB r)) (
  .R ((bitAnd .i64 f2.Status 6) != 0)) (by kernel_rfl)
noncomputable def fault_right (c : SConfig) (f2 : SFault) (cycle : Int) : C Tryz.prog Bool := .of Z Tryz.call139 Tryz.func139 [A_SConfig c, A_SFault f2, .t (tI cycle)] (fun r => .t (tB r)) (
  .K (fault_within f2.Status 0 31) fun v => .G (!v) (.R true) (.K (fault_within f2.Count (w64 (0 - c.Pass)) c.Fail) fun v2 => .R (!v2)) fun b2 => .G b2 (.R true) (.K (fault_within f2.Cycles 0 2) fun v3 => .R (!v3)) fun b3 => .G b3 (.R true) (.K (fault_within f2.Clean 0 (w64 (c.Age - 1))) fun v4 => .R (!v4)) fun b4 => .G b4 (.R true) (.K (fault_within f2.Occurrences 0 255) fun v5 => .R (!v5)) fun b5 => .G b5 (.R true) (.K (fault_within f2.Last 0 cycle) fun v6 => .R (!v6)) fun b6 => .G b6 (.R true) (.G (decide ((f2.Frame.length : Int) > 0)) (.K (fault_frame c f2.Frame) fun v7 => .R (!v7)) (.R false) fun b7 => .R b7) fun b8 => .I b8 (.R false) (.K (fault_has f2 1) fun v8 => .G v8 (.K (fault_has f2 10) fun v9 => .R ((!v9) || (f2.Last != cycle))) (.R false) fun b9 => .I b9 (.R false) (.D [] [] <| .K (fault_has f2 4) fun v10 => .I (!(v10 == (f2.Cycles == 2))) (.R false) (.K (fault_has f2 16) fun v11 => .G v11 (.K (fault_has f2 4) fun v12 => .R ((!v12) || (!c.Lamp))) (.R false) fun b10 => .I b10 (.R false) (.K (fault_has f2 2) fun v13 => .I (v13 && (f2.Clean != 0)) (.R false) (.K (fault_known f2) fun v14 => .I v14 (.R ((((decide (f2.Occurrences ≥ 1)) && (decide (f2.Cycles ≥ 1))) && (decide (f2.Last ≥ 1))) && ((f2.Frame.length : Int) == c.Frame))) (.R (((((f2.Cycles == 0) && (f2.Clean == 0)) && (f2.Occurrences == 0)) && (f2.Last == 0)) && ((f2.Frame.length : Int) == 0))))))))) (by kernel_rfl)
noncomputable def fault_Valid_b1 (f2 : SFaults) (i : Int) (_ : Unit) : M Tryz.prog Bool (Fl Unit Bool) :=
  .O (.ix enc_SFault f2.L i) fun x => .D [] [] <| .O (.ix enc_SConfig f2.Configs i) fun x2 => .K (fault_right x2 x f2.Cycle) fun v4 => .I (!v4) (.R (.ret false)) (.R (.next ()))
noncomputable def fault_Valid (f2 : SFaults) : C Tryz.prog Bool := .of Z Tryz.call98 Tryz.func98 [A_SFaults f2] (fun r => .t (tB r)) (
  .G (decide ((f2.Configs.length : Int) > 64)) (.R true) (.K (slices_ContainsFunc_sConfig f2.Configs (.of (fun z_ => fault_wrong z_) 95 [] (fun _ => rfl) (fun _ => rfl) (fun _ => rfl))) fun v => .R v) fun b2 => .G b2 (.R true) (.K (fault_codes f2.Configs) fun v2 => .R (!v2)) fun b3 => .G (b3 || ((f2.L.length : Int) != (f2.Configs.length : Int))) (.R true) (.K (fault_within f2.Cycle 0 1073741824) fun v3 => .R (!v3)) fun b4 => .I (b4 || (f2.Running && (decide (f2.Cycle < 1)))) (.R false) (M.QN (f2.L.length : Int) 2 47 (fun (_ : Unit) => [.x 5, .x 44]) 0 (.one .rt) (fault_Valid_b1 f2) () (fun _ => .R true) (fun r2 => .R r2))) (by kernel_rfl)
noncomputable def slices_Clone_sFault (s : List SFault) : CG Tryz.prog (List SFault) := .of Z Tryz.call140 Tryz.func140 [.t (tS enc_SFault s)] [] (fun _ => .own 900000) (fun r => [(900000, .rs 197 7 r enc_SFault)]) [900000] (
  .Nl enc_SFault s (.I true (.Z (.np 2 70000 197 7 []) <| .R ([] : List SFault)) .N) (fun s => .I false .N (.U (.ap enc_SFault ([] : List SFault) s 5) fun l => .R l))) (by kernel_rfl)
noncomputable def fault_copied_b1 (i : Int) (f3 : List SFault) : M Tryz.prog SFaults (Fl (List SFault) Empty) :=
  .D [] [] <| .O (.ix enc_SFault f3 i) fun x => .W (.ly 0) <| .K (slices_Clone_sint x.Frame) fun v2 => .W (.hx 0) <| .U (.st enc_SFault f3 i ({ x with Frame := v2 } : SFault) 0) fun l => .R (.next l)
noncomputable def fault_copied (f2 : SFaults) : CG Tryz.prog SFaults := .of Z Tryz.call99 Tryz.func99 [A_SFaults f2] [] (fun r => .agg [.t (tS enc_SConfig r.Configs), .own 900000, .t (tI r.Cycle), .t (tB r.Running)]) (fun r => [(900000, .rs 197 7 r.L enc_SFault)]) [900000] (
  .KG (slices_Clone_sFault f2.L) [2048] fun v => M.QN (v.length : Int) 2 11 (fun (t : List SFault) => [.x 4, .x 6, .x 7, .x 8, .x 9, .b 2048 (.rs 197 7 t enc_SFault)]) 0 (.e) (fault_copied_b1) v (fun f4 => .R ({ f2 with L := f4 } : SFaults)) (fun t => t.elim)) (by kernel_rfl)
noncomputable def fault_Begin_b1 (i : Int) (f3 : List SFault) : M Tryz.prog (SFaults × Int) (Fl (List SFault) Empty) :=
  .O (.ix enc_SFault f3 i) fun x => .U (.st enc_SFault f3 i ({ x with Count := 0 } : SFault) 0) fun l => .W (.ly 0) <| .U (.st enc_SFault l i ({ x with Status := bitAndNot .i64 x.Status 9, Count := 0 } : SFault) 0) fun l2 => .R (.next l2)
noncomputable def fault_Begin (f2 : SFaults) : C Tryz.prog (SFaults × Int) := .of Z Tryz.call51 Tryz.func51 [A_SFaults f2] (fun r => .tup [A_SFaults r.1, .t (tI r.2)]) (
  .K (fault_Valid f2) fun v => .I (!v) (.R ((⟨([] : List SConfig), ([] : List SFault), 0, false⟩ : SFaults), 1)) (.I f2.Running (.R ((⟨([] : List SConfig), ([] : List SFault), 0, false⟩ : SFaults), 6)) (.I (f2.Cycle == 1073741824) (.R ((⟨([] : List SConfig), ([] : List SFault), 0, false⟩ : SFaults), 9)) (.KG (fault_copied f2) [2168] fun v2 => M.QN (v2.L.length : Int) 2 30 (fun (t : List SFault) => [.x 12, .x 16, .x 21, .x 22, .x 25, .x 26, .x 27, .x 28, .b 2168 (.rs 197 7 t enc_SFault)]) 1 (.e) (fault_Begin_b1) v2.L (fun f4 => .R ((⟨v2.Configs, f4, w64 (v2.Cycle + 1), true⟩ : SFaults), 0)) (fun t => t.elim))))) (by kernel_rfl)
noncomputable def quiz_question (n2 : Int) : C Tryz.prog Bool := .of Z Tryz.call100 Tryz.func100 [.t (tI n2)] (fun r => .t (tB r)) (
  .R ((decide (n2 ≥ 1)) && (decide (n2 ≤ 65535)))) (by kernel_rfl)
noncomputable def quiz_New (seed : Int) : C Tryz.prog (SQuiz × Int) := .of Z Tryz.call52 Tryz.func52 [.t (tI seed)] (fun r => .tup [A_SQuiz r.1, .t (tI r.2)]) (
  .K (quiz_question seed) fun v => .I (!v) (.R ((⟨0, 0, 0, false, false⟩ : SQuiz), 2)) (.R ((⟨seed, 0, 0, false, false⟩ : SQuiz), 0))) (by kernel_rfl)
noncomputable def sync_New : C Tryz.prog SSync := .of Z Tryz.call53 Tryz.func53 [] (fun r => A_SSync r) (
  .R (⟨0, 0, 0, 0, 0, 0⟩ : SSync)) (by kernel_rfl)
noncomputable def phase_New : C Tryz.prog SPhase := .of Z Tryz.call54 Tryz.func54 [] (fun r => A_SPhase r) (
  .R (⟨false, 0, 0, false⟩ : SPhase)) (by kernel_rfl)
noncomputable def toothfilter_New : C Tryz.prog SFilter := .of Z Tryz.call55 Tryz.func55 [] (fun r => A_SFilter r) (
  .R (⟨false, 0, 0⟩ : SFilter)) (by kernel_rfl)
noncomputable def stage_New : C Tryz.prog SStage := .of Z Tryz.call56 Tryz.func56 [] (fun r => A_SStage r) (
  .R (⟨false, 1, 0⟩ : SStage)) (by kernel_rfl)
noncomputable def ecu_New (t2 : STables) (b2 : SBody) (e2 : SEngine) (l : List SConfig) : C Tryz.prog (SEcu × Int) := .of Z Tryz.call24 Tryz.func24 [A_STables t2, A_SBody b2, A_SEngine e2, .t (tS enc_SConfig l)] (fun r => .tup [A_SEcu r.1, .t (tI r.2)]) (
  .K (control_New e2) fun r2 => .K (scheduler_New e2) fun r3 => .K (plant_New b2) fun r4 => .K (fault_New l) fun r5 => .K (control_Valid t2) fun v => .I ((((((!v) || (r2.2 != 0)) || (r3.2 != 0)) || (r4.2 != 0)) || (r5.2 != 0)) || (decide ((l.length : Int) < 7))) (.R ((⟨(⟨(⟨([] : List Int), ([] : List Int), ([] : List (List Int))⟩ : SMap), (⟨([] : List Int), ([] : List Int), ([] : List (List Int))⟩ : SMap), (⟨([] : List Int), ([] : List Int), ([] : List (List Int))⟩ : SMap), (⟨([] : List Int), ([] : List Int), ([] : List (List Int))⟩ : SMap), (⟨([] : List Int), ([] : List Int)⟩ : SCurve), (⟨([] : List Int), ([] : List Int)⟩ : SCurve), (⟨([] : List Int), ([] : List Int)⟩ : SCurve), (⟨([] : List Int), ([] : List Int)⟩ : SCurve), (⟨0, 0, 0, 0⟩ : SGain)⟩ : STables), (⟨(⟨0, 0, false⟩ : SPedal), (⟨0⟩ : SIntegral), ([] : List SKnock), (⟨false, false, 0, 0, ([] : List SCell)⟩ : SProbe), 0, (⟨0, 0⟩ : SGrant)⟩ : SControls), (⟨(⟨([] : List Int), 0⟩ : SEngine), (⟨false, 0, 0, 0, 0, 0⟩ : SClock), (⟨0, ([] : List SChannel)⟩ : STimer), ([] : List SFire), ([] : List SJob), false⟩ : SScheduler), (⟨0, 0, 0, 0, 0, 0⟩ : SSync), (⟨false, 0, 0, false⟩ : SPhase), (⟨false, 0, 0⟩ : SFilter), (⟨0, 0, false⟩ : SGuard), (⟨0, 0, 0, false, false⟩ : SQuiz), (⟨false, 0, 0⟩ : SStage), (⟨([] : List SConfig), ([] : List SFault), 0, false⟩ : SFaults), (⟨0, 0, 0, 0, 0, ([] : List Int)⟩ : SPlant), (⟨0, 0, 0, 0, 0, 0, 0⟩ : SBody), 0⟩ : SEcu), 1)) (.K (fault_Begin r5.1) fun r6 => .K (quiz_New 1) fun r7 => .D [] [] <| .K (sync_New) fun v2 => .K (phase_New) fun v3 => .K (toothfilter_New) fun v4 => .K (stage_New) fun v5 => .R ((⟨t2, r2.1, r3.1, v2, v3, v4, (⟨0, 0, false⟩ : SGuard), r7.1, v5, r6.1, r4.1, b2, 0⟩ : SEcu), 0))) (by kernel_rfl)
noncomputable def magnetolaw56_single : C Tryz.prog SEngine := .of Z Tryz.call28 Tryz.func28 [] (fun r => A_SEngine r) (
  .R (⟨([1] : List Int), 0⟩ : SEngine)) (by kernel_rfl)
noncomputable def plant_Good_b1 (_ : Int) (x : Int) (_ : Unit) : M Tryz.prog Bool (Fl Unit Bool) :=
  .W (.hx 0) <| .K (plant_within x 500 2000) fun v7 => .I (!v7) (.R (.ret false)) (.R (.next ()))
noncomputable def plant_Good (b2 : SBody) (p2 : SPlant) : C Tryz.prog Bool := .of Z Tryz.call101 Tryz.func101 [A_SBody b2, A_SPlant p2] (fun r => .t (tB r)) (
  .K (plant_Valid b2) fun v => .G (!v) (.R true) (.K (plant_within p2.Position 0 3019898879) fun v2 => .R (!v2)) fun b3 => .G b3 (.R true) (.K (plant_within p2.Speed 0 262144) fun v3 => .R (!v3)) fun b4 => .G b4 (.R true) (.K (plant_within p2.Rest 0 (w64 (b2.Inertia - 1))) fun v4 => .R (!v4)) fun b5 => .G b5 (.R true) (.K (plant_within p2.Pressure 50 1013) fun v5 => .R (!v5)) fun b6 => .G b6 (.R true) (.K (plant_within p2.Film 0 2147483648) fun v6 => .R (!v6)) fun b7 => .I (b7 || (decide ((p2.Path.length : Int) > (w64 (b2.Delay + 1))))) (.R false) (M.Q Pv.encI p2.Path 2 55 (fun (_ : Unit) => [.x 2, .x 3, .x 52, .d 2, .d 3]) 0 (.one .rt) (plant_Good_b1) () (fun _ => .R true) (fun r2 => .R r2))) (by kernel_rfl)
noncomputable def angle_isTime (t2 : Int) : C Tryz.prog Bool := .of Z Tryz.call227 Tryz.func227 [.t (tI t2)] (fun r => .t (tB r)) (
  .R ((decide (t2 ≥ 0)) && (decide (t2 ≤ 1099511627776)))) (by kernel_rfl)
noncomputable def angle_Valid (c : SClock) : C Tryz.prog Bool := .of Z Tryz.call141 Tryz.func141 [A_SClock c] (fun r => .t (tB r)) (
  .I (!c.Valid) (.W .eq <| .R ((c.Valid == false) && ((c.At == 0) && ((c.Angle == 0) && ((c.Period == 0) && ((c.Space == 0) && ((c.Ahead == 0) && true))))))) (.K (angle_isTime c.At) fun v => .I (((((((!v) || (decide (c.Angle < 0))) || (decide (c.Angle ≥ 46080))) || (decide (c.Period < 1))) || (decide (c.Period > 1073741824))) || (decide (c.Space < 192))) || (decide (c.Space > 1920))) (.R false) (.R (((c.Ahead == c.Space) || (c.Ahead == (w64 (2 * c.Space)))) || (c.Ahead == (w64 (3 * c.Space))))))) (by kernel_rfl)
noncomputable def slices_IndexFunc_sChannel_b1 (s : List SChannel) (f2 : Cl Tryz.prog SChannel Bool (fun x => [A_SChannel x]) (fun r => .t (tB r))) (i : Int) (_ : Unit) : M Tryz.prog Int (Fl Unit Int) :=
  .O (.ix enc_SChannel s i) fun x => .K (f2.at x) fun v => .I v (.R (.ret i)) (.R (.next ()))
noncomputable def slices_IndexFunc_sChannel (s : List SChannel) (f2 : Cl Tryz.prog SChannel Bool (fun x => [A_SChannel x]) (fun r => .t (tB r))) : C Tryz.prog Int := .of Z Tryz.call319 Tryz.func319 [.t (tS enc_SChannel s), .fz f2.n f2.cs] (fun r => .t (tI r)) (
  M.QN (s.length : Int) 2 8 (fun (_ : Unit) => []) 0 (.one .rt) (slices_IndexFunc_sChannel_b1 s f2) () (fun _ => .R (-1)) (fun r2 => .R r2)) (by kernel_rfl)
noncomputable def slices_ContainsFunc_sChannel (s : List SChannel) (f2 : Cl Tryz.prog SChannel Bool (fun x => [A_SChannel x]) (fun r => .t (tB r))) : C Tryz.prog Bool := .of Z Tryz.call228 Tryz.func228 [.t (tS enc_SChannel s), .fz f2.n f2.cs] (fun r => .t (tB r)) (
  .K (slices_IndexFunc_sChannel s f2) fun v => .R (decide (v ≥ 0))) (by kernel_rfl)
noncomputable def timer_Valid_1 (c : SChannel) (c2 : STimer) : C Tryz.prog Bool := .of Z Tryz.call229 Tryz.func229 [A_SChannel c, .el (enc_STimer c2)] (fun r => .t (tB r)) (
  .I c.Armed (.R ((decide (c.At ≤ c2.Now)) || (decide (c.At > 1099511627776)))) (.R ((c.At != 0) || c.Next))) (by kernel_rfl)
noncomputable def timer_Valid (t2 : STimer) : C Tryz.prog Bool := .of Z Tryz.call142 Tryz.func142 [A_STimer t2] (fun r => .t (tB r)) (
  .I ((((decide (t2.Now < 0)) || (decide (t2.Now > 1099511627776))) || (decide ((t2.Channels.length : Int) < 1))) || (decide ((t2.Channels.length : Int) > 16))) (.R false) (.Z (.fb 1) <| .K (slices_ContainsFunc_sChannel t2.Channels (.of (fun z_ => timer_Valid_1 z_ t2) 229 [enc_STimer t2] (fun _ => rfl) (fun _ => rfl) (fun _ => rfl))) fun v => .R (!v))) (by kernel_rfl)
noncomputable def events_within (x : Int) (low : Int) (high : Int) : C Tryz.prog Bool := .of Z Tryz.call320 Tryz.func320 [.t (tI x), .t (tI low), .t (tI high)] (fun r => .t (tB r)) (
  .R ((decide (x ≥ low)) && (decide (x ≤ high)))) (by kernel_rfl)
noncomputable def events_ValidFire (e2 : SEngine) (f2 : SFire) : C Tryz.prog Bool := .of Z Tryz.call230 Tryz.func230 [A_SEngine e2, A_SFire f2] (fun r => .t (tB r)) (
  .K (events_Valid e2) fun v => .G (!v) (.R true) (.K (slices_Contains_sint e2.Order f2.Cylinder) fun v2 => .R (!v2)) fun b2 => .G b2 (.R true) (.K (events_within f2.Spark (-1280) 3840) fun v3 => .R (!v3)) fun b3 => .G b3 (.R true) (.K (events_within f2.Dwell 500 10000) fun v4 => .R (!v4)) fun b4 => .G b4 (.R true) (.K (events_within f2.End 0 23040) fun v5 => .R (!v5)) fun b5 => .I b5 (.R false) (.G (f2.Inject != 0) (.K (events_within f2.Inject 200 20000) fun v6 => .R (!v6)) (.R false) fun b6 => .I b6 (.R false) (.G ((f2.Gap == 0) && (f2.Extra == 0)) (.R true) (.G (f2.Inject != 0) (.K (events_within f2.Gap 200 20000) fun v7 => .R v7) (.R false) fun b7 => .G b7 (.K (events_within f2.Extra 200 20000) fun v8 => .R v8) (.R false) fun b8 => .R b8) fun b9 => .R b9))) (by kernel_rfl)
noncomputable def slices_IndexFunc_sFire_b1 (s : List SFire) (f2 : Cl Tryz.prog SFire Bool (fun x => [A_SFire x]) (fun r => .t (tB r))) (i : Int) (_ : Unit) : M Tryz.prog Int (Fl Unit Int) :=
  .O (.ix enc_SFire s i) fun x => .K (f2.at x) fun v => .I v (.R (.ret i)) (.R (.next ()))
noncomputable def slices_IndexFunc_sFire (s : List SFire) (f2 : Cl Tryz.prog SFire Bool (fun x => [A_SFire x]) (fun r => .t (tB r))) : C Tryz.prog Int := .of Z Tryz.call212 Tryz.func212 [.t (tS enc_SFire s), .fz f2.n f2.cs] (fun r => .t (tI r)) (
  M.QN (s.length : Int) 2 8 (fun (_ : Unit) => []) 0 (.one .rt) (slices_IndexFunc_sFire_b1 s f2) () (fun _ => .R (-1)) (fun r2 => .R r2)) (by kernel_rfl)
noncomputable def slices_ContainsFunc_sFire (s : List SFire) (f2 : Cl Tryz.prog SFire Bool (fun x => [A_SFire x]) (fun r => .t (tB r))) : C Tryz.prog Bool := .of Z Tryz.call231 Tryz.func231 [.t (tS enc_SFire s), .fz f2.n f2.cs] (fun r => .t (tB r)) (
  .K (slices_IndexFunc_sFire s f2) fun v => .R (decide (v ≥ 0))) (by kernel_rfl)
noncomputable def scheduler_fires_1 (g : SFire) (c : SFire) : C Tryz.prog Bool := .of Z Tryz.call232 Tryz.func232 [A_SFire g, .el (enc_SFire c)] (fun r => .t (tB r)) (
  .R (g.Cylinder == c.Cylinder)) (by kernel_rfl)
noncomputable def scheduler_fires_b1 (e2 : SEngine) (l : List SFire) (i : Int) (_ : Unit) : M Tryz.prog Bool (Fl Unit Bool) :=
  .O (.ix enc_SFire l i) fun x => .K (events_ValidFire e2 x) fun v => .Z (.fb 6) <| .G (!v) (.R true) (.U (.sF enc_SFire l 0 i) fun l2 => .K (slices_ContainsFunc_sFire l2 (.of (fun z_ => scheduler_fires_1 z_ x) 232 [enc_SFire x] (fun _ => rfl) (fun _ => rfl) (fun _ => rfl))) fun v2 => .R v2) fun b2 => .I b2 (.R (.ret false)) (.R (.next ()))
noncomputable def scheduler_fires (e2 : SEngine) (l : List SFire) : C Tryz.prog Bool := .of Z Tryz.call143 Tryz.func143 [A_SEngine e2, .t (tS enc_SFire l)] (fun r => .t (tB r)) (
  M.QN (l.length : Int) 2 9 (fun (_ : Unit) => []) 0 (.one .rt) (scheduler_fires_b1 e2 l) () (fun _ => .R true) (fun r2 => .R r2)) (by kernel_rfl)
noncomputable def slices_IndexFunc_sJob_b1 (s : List SJob) (f2 : Cl Tryz.prog SJob Bool (fun x => [A_SJob x]) (fun r => .t (tB r))) (i : Int) (_ : Unit) : M Tryz.prog Int (Fl Unit Int) :=
  .O (.ix enc_SJob s i) fun x => .K (f2.at x) fun v => .I v (.R (.ret i)) (.R (.next ()))
noncomputable def slices_IndexFunc_sJob (s : List SJob) (f2 : Cl Tryz.prog SJob Bool (fun x => [A_SJob x]) (fun r => .t (tB r))) : C Tryz.prog Int := .of Z Tryz.call233 Tryz.func233 [.t (tS enc_SJob s), .fz f2.n f2.cs] (fun r => .t (tI r)) (
  M.QN (s.length : Int) 2 8 (fun (_ : Unit) => []) 0 (.one .rt) (slices_IndexFunc_sJob_b1 s f2) () (fun _ => .R (-1)) (fun r2 => .R r2)) (by kernel_rfl)
noncomputable def slices_ContainsFunc_sJob (s : List SJob) (f2 : Cl Tryz.prog SJob Bool (fun x => [A_SJob x]) (fun r => .t (tB r))) : C Tryz.prog Bool := .of Z Tryz.call144 Tryz.func144 [.t (tS enc_SJob s), .fz f2.n f2.cs] (fun r => .t (tB r)) (
  .K (slices_IndexFunc_sJob s f2) fun v => .R (decide (v ≥ 0))) (by kernel_rfl)
noncomputable def scheduler_job (s : SScheduler) (j : SJob) : C Tryz.prog Bool := .of Z Tryz.call146 Tryz.func146 [A_SScheduler s, A_SJob j] (fun r => .t (tB r)) (
  .R (((((((((((decide (j.Event.Cylinder ≥ 1)) && (decide (j.Event.Cylinder ≤ (s.Engine.Order.length : Int)))) && (decide (j.Event.Kind ≥ 1))) && (decide (j.Event.Kind ≤ 4))) && (decide (j.Event.Angle ≥ 0))) && (decide (j.Event.Angle < 46080))) && (decide (j.Event.Pulse ≥ 0))) && (decide (j.Event.Pulse ≤ 2))) && (decide (j.Left ≥ (-1048576)))) && (decide (j.Left ≤ 1048576))) && (j.Armed || (j.At == 0)))) (by kernel_rfl)
noncomputable def scheduler_Valid_1 (j : SJob) (c : SScheduler) : C Tryz.prog Bool := .of Z Tryz.call145 Tryz.func145 [A_SJob j, .el (enc_SScheduler c)] (fun r => .t (tB r)) (
  .K (scheduler_job c j) fun v => .R (!v)) (by kernel_rfl)
noncomputable def scheduler_channelOf (x : SEvent) : C Tryz.prog Int := .of Z Tryz.call234 Tryz.func234 [A_SEvent x] (fun r => .t (tI r)) (
  .I ((x.Kind == 3) || (x.Kind == 4)) (.R (w64 ((w64 (2 * (w64 (x.Cylinder - 1)))) + 1))) (.R (w64 (2 * (w64 (x.Cylinder - 1)))))) (by kernel_rfl)
noncomputable def scheduler_on (kind : Int) : C Tryz.prog Bool := .of Z Tryz.call235 Tryz.func235 [.t (tI kind)] (fun r => .t (tB r)) (
  .R ((kind == 1) || (kind == 3))) (by kernel_rfl)
noncomputable def scheduler_line_b1 (s : SScheduler) (c : Int) (x : SChannel) (_ : Int) (x2 : SJob) (s2 : Bool × Bool) : M Tryz.prog Bool (Fl (Bool × Bool) Bool) :=
  .W (.hx 0) <| .K (scheduler_channelOf x2.Event) fun v => .I (v != c) (.R (.next (s2.1, s2.2))) (.K (scheduler_on x2.Event.Kind) fun v2 => .I (v2 == s2.1) (.R (.ret false)) (.J 0 (fun (_ : Unit) => [.x 25, .x 30, .x 31]) (.one .rt) (.I s2.2 (.I ((!(x2.Armed == x.Armed)) || (x2.Armed && ((x2.At != x.At) || (!(x.Next == (!s2.1)))))) (.R (.inr false)) (.R (.inl ()))) (.I (x2.Armed || s.Cut) (.R (.inr false)) (.R (.inl ())))) (fun _ => .I (s.Cut && (((x2.Event.Kind != 2) || (!x2.Armed)) || (decide (x2.At > (w64 (s.Timer.Now + 5000)))))) (.R (.ret false)) (.R (.next ((!s2.1), false)))) (fun r2 => .R (.ret r2))))
noncomputable def scheduler_line (s : SScheduler) (c : Int) : C Tryz.prog Bool := .of Z Tryz.call147 Tryz.func147 [A_SScheduler s, .t (tI c)] (fun r => .t (tB r)) (
  .O (.ix enc_SChannel s.Timer.Channels c) fun x => M.Q enc_SJob s.Jobs 2 21 (fun (t : Bool × Bool) => [.t 6 (.t (tB t.1)), .t 7 (.t (tB t.2)), .x 10, .x 11, .x 16, .x 18]) 0 (.one .rt) (scheduler_line_b1 s c x) (x.Level, true) (fun s4 => .R ((!s4.1) && (!(s4.2 && x.Armed)))) (fun r3 => .R r3)) (by kernel_rfl)
noncomputable def scheduler_Valid_b1 (s : SScheduler) (i : Int) (_ : Unit) : M Tryz.prog Bool (Fl Unit Bool) :=
  .K (scheduler_line s i) fun v6 => .I (!v6) (.R (.ret false)) (.R (.next ()))
noncomputable def scheduler_Valid (s : SScheduler) : C Tryz.prog Bool := .of Z Tryz.call102 Tryz.func102 [A_SScheduler s] (fun r => .t (tB r)) (
  .K (events_Valid s.Engine) fun v => .G (!v) (.R true) (.K (angle_Valid s.Clock) fun v2 => .R (!v2)) fun b2 => .G b2 (.R true) (.K (timer_Valid s.Timer) fun v3 => .R (!v3)) fun b3 => .G (b3 || ((s.Timer.Channels.length : Int) != (w64 (2 * (s.Engine.Order.length : Int))))) (.R true) (.K (scheduler_fires s.Engine s.Next) fun v4 => .R (!v4)) fun b4 => .I b4 (.R false) (.Z (.fb 1) <| .G ((decide ((s.Jobs.length : Int) > 200)) || ((!s.Clock.Valid) && (decide ((s.Jobs.length : Int) > 0)))) (.R true) (.K (slices_ContainsFunc_sJob s.Jobs (.of (fun z_ => scheduler_Valid_1 z_ s) 145 [enc_SScheduler s] (fun _ => rfl) (fun _ => rfl) (fun _ => rfl))) fun v5 => .R v5) fun b5 => .I b5 (.R false) (M.QN (s.Timer.Channels.length : Int) 2 66 (fun (_ : Unit) => []) 0 (.one .rt) (scheduler_Valid_b1 s) () (fun _ => .R true) (fun r2 => .R r2)))) (by kernel_rfl)
noncomputable def pedal_Valid (p2 : SPedal) : C Tryz.prog Bool := .of Z Tryz.call148 Tryz.func148 [A_SPedal p2] (fun r => .t (tB r)) (
  .J0 0 (fun (t : Int) => [.t 3 (.t (tI t)), .x 4]) (.I p2.Fault (.R 200) (.R 1000)) fun most => .R (((((decide (p2.Value ≥ 0)) && (decide (p2.Value ≤ most))) && (decide (p2.Differ ≥ 0))) && (decide (p2.Differ ≤ 3))) && (p2.Fault == (p2.Differ == 3)))) (by kernel_rfl)
noncomputable def mixture_in (x : Int) (low : Int) (high : Int) : C Tryz.prog Bool := .of Z Tryz.call236 Tryz.func236 [.t (tI x), .t (tI low), .t (tI high)] (fun r => .t (tB r)) (
  .R ((decide (x ≥ low)) && (decide (x ≤ high)))) (by kernel_rfl)
noncomputable def slices_IndexFunc_sCell_b1 (s : List SCell) (f2 : Cl Tryz.prog SCell Bool (fun x => [A_SCell x]) (fun r => .t (tB r))) (i : Int) (_ : Unit) : M Tryz.prog Int (Fl Unit Int) :=
  .O (.ix enc_SCell s i) fun x => .K (f2.at x) fun v => .I v (.R (.ret i)) (.R (.next ()))
noncomputable def slices_IndexFunc_sCell (s : List SCell) (f2 : Cl Tryz.prog SCell Bool (fun x => [A_SCell x]) (fun r => .t (tB r))) : C Tryz.prog Int := .of Z Tryz.call321 Tryz.func321 [.t (tS enc_SCell s), .fz f2.n f2.cs] (fun r => .t (tI r)) (
  M.QN (s.length : Int) 2 8 (fun (_ : Unit) => []) 0 (.one .rt) (slices_IndexFunc_sCell_b1 s f2) () (fun _ => .R (-1)) (fun r2 => .R r2)) (by kernel_rfl)
noncomputable def slices_ContainsFunc_sCell (s : List SCell) (f2 : Cl Tryz.prog SCell Bool (fun x => [A_SCell x]) (fun r => .t (tB r))) : C Tryz.prog Bool := .of Z Tryz.call237 Tryz.func237 [.t (tS enc_SCell s), .fz f2.n f2.cs] (fun r => .t (tB r)) (
  .K (slices_IndexFunc_sCell s f2) fun v => .R (decide (v ≥ 0))) (by kernel_rfl)
noncomputable def mixture_Valid_1 (c : SCell) : C Tryz.prog Bool := .of Z Tryz.call238 Tryz.func238 [A_SCell c] (fun r => .t (tB r)) (
  .K (mixture_in c.Value (-100) 100) fun v => .G (!v) (.R true) (.K (mixture_in c.Count 0 1000) fun v2 => .R (!v2)) fun b2 => .R b2) (by kernel_rfl)
noncomputable def mixture_Valid (p2 : SProbe) : C Tryz.prog Bool := .of Z Tryz.call149 Tryz.func149 [A_SProbe p2] (fun r => .t (tB r)) (
  .K (mixture_in p2.Factor 750 1250) fun v => .G (!v) (.R true) (.K (mixture_in p2.Wait 0 1000) fun v2 => .R (!v2)) fun b2 => .I (b2 || ((p2.Cells.length : Int) != 9)) (.R false) (.I ((!p2.Active) && (((p2.Factor != 1000) || (p2.Wait != 0)) || p2.Rich)) (.R false) (.K (slices_ContainsFunc_sCell p2.Cells (.of (fun z_ => mixture_Valid_1 z_) 238 [] (fun _ => rfl) (fun _ => rfl) (fun _ => rfl))) fun v3 => .R (!v3)))) (by kernel_rfl)
noncomputable def slices_IndexFunc_sKnock_b1 (s : List SKnock) (f2 : Cl Tryz.prog SKnock Bool (fun x => [A_SKnock x]) (fun r => .t (tB r))) (i : Int) (_ : Unit) : M Tryz.prog Int (Fl Unit Int) :=
  .O (.ix enc_SKnock s i) fun x => .K (f2.at x) fun v => .I v (.R (.ret i)) (.R (.next ()))
noncomputable def slices_IndexFunc_sKnock (s : List SKnock) (f2 : Cl Tryz.prog SKnock Bool (fun x => [A_SKnock x]) (fun r => .t (tB r))) : C Tryz.prog Int := .of Z Tryz.call239 Tryz.func239 [.t (tS enc_SKnock s), .fz f2.n f2.cs] (fun r => .t (tI r)) (
  M.QN (s.length : Int) 2 8 (fun (_ : Unit) => []) 0 (.one .rt) (slices_IndexFunc_sKnock_b1 s f2) () (fun _ => .R (-1)) (fun r2 => .R r2)) (by kernel_rfl)
noncomputable def slices_ContainsFunc_sKnock (s : List SKnock) (f2 : Cl Tryz.prog SKnock Bool (fun x => [A_SKnock x]) (fun r => .t (tB r))) : C Tryz.prog Bool := .of Z Tryz.call150 Tryz.func150 [.t (tS enc_SKnock s), .fz f2.n f2.cs] (fun r => .t (tB r)) (
  .K (slices_IndexFunc_sKnock s f2) fun v => .R (decide (v ≥ 0))) (by kernel_rfl)
noncomputable def knock_intensity (n2 : Int) : C Tryz.prog Bool := .of Z Tryz.call240 Tryz.func240 [.t (tI n2)] (fun r => .t (tB r)) (
  .R ((decide (n2 ≥ 0)) && (decide (n2 ≤ 4095)))) (by kernel_rfl)
noncomputable def knock_Valid (k : SKnock) : C Tryz.prog Bool := .of Z Tryz.call152 Tryz.func152 [A_SKnock k] (fun r => .t (tB r)) (
  .G ((decide (k.Retard ≥ 0)) && (decide (k.Retard ≤ 960))) (.K (knock_intensity k.Noise) fun v => .R v) (.R false) fun b2 => .R ((b2 && (decide (k.Quiet ≥ 0))) && (decide (k.Quiet < 100)))) (by kernel_rfl)
noncomputable def control_Good_1 (k : SKnock) : C Tryz.prog Bool := .of Z Tryz.call151 Tryz.func151 [A_SKnock k] (fun r => .t (tB r)) (
  .K (knock_Valid k) fun v => .R (!v)) (by kernel_rfl)
noncomputable def control_Good (e2 : SEngine) (c : SControls) : C Tryz.prog Bool := .of Z Tryz.call103 Tryz.func103 [A_SEngine e2, A_SControls c] (fun r => .t (tB r)) (
  .K (events_Valid e2) fun v => .G (!v) (.R true) (.K (pedal_Valid c.Pedal) fun v2 => .R (!v2)) fun b2 => .G b2 (.R true) (.K (mixture_Valid c.Probe) fun v3 => .R (!v3)) fun b3 => .I (b3 || ((c.Knock.length : Int) != (e2.Order.length : Int))) (.R false) (.K (slices_ContainsFunc_sKnock c.Knock (.of (fun z_ => control_Good_1 z_) 151 [] (fun _ => rfl) (fun _ => rfl) (fun _ => rfl))) fun v4 => .I v4 (.R false) (.K (control_in c.Idle.Sum (-4398046511104) 4398046511104) fun v5 => .G v5 (.K (control_in c.Film 0 1073741824) fun v6 => .R v6) (.R false) fun b4 => .G b4 (.K (control_in c.Grant.Torque (-5000) 10000) fun v7 => .R v7) (.R false) fun b5 => .G b5 (.K (control_in c.Grant.Source (-1) 15) fun v8 => .R v8) (.R false) fun b6 => .R b6))) (by kernel_rfl)
noncomputable def toothfilter_time (t2 : Int) : C Tryz.prog Bool := .of Z Tryz.call153 Tryz.func153 [.t (tI t2)] (fun r => .t (tB r)) (
  .R ((decide (t2 ≥ 0)) && (decide (t2 ≤ 1099511627776)))) (by kernel_rfl)
noncomputable def toothfilter_Valid (f2 : SFilter) : C Tryz.prog Bool := .of Z Tryz.call104 Tryz.func104 [A_SFilter f2] (fun r => .t (tB r)) (
  .K (toothfilter_time f2.Last) fun v => .G v (.K (toothfilter_time f2.Period) fun v2 => .R v2) (.R false) fun b2 => .R ((b2 && (decide (f2.Period ≤ f2.Last))) && (f2.Seen || ((f2.Last == 0) && (f2.Period == 0))))) (by kernel_rfl)
noncomputable def wheel_Valid (w : SWheel) : C Tryz.prog Bool := .of Z Tryz.call154 Tryz.func154 [A_SWheel w] (fun r => .t (tB r)) (
  .G (((((w.Missing == 1) || (w.Missing == 2)) && (decide (w.Teeth ≥ 12))) && (decide (w.Teeth ≤ 120))) && (decide (w.Teeth ≥ (w64 (8 * w.Missing))))) (.O (.rem 23040 w.Teeth) fun q => .R (q == 0)) (.R false) fun b2 => .R b2) (by kernel_rfl)
noncomputable def sync_instant (t2 : Int) : C Tryz.prog Bool := .of Z Tryz.call155 Tryz.func155 [.t (tI t2)] (fun r => .t (tB r)) (
  .R ((decide (t2 ≥ 0)) && (decide (t2 ≤ 1099511627776)))) (by kernel_rfl)
noncomputable def wheel_Teeth (w : SWheel) : C Tryz.prog Int := .of Z Tryz.call156 Tryz.func156 [A_SWheel w] (fun r => .t (tI r)) (
  .K (wheel_Valid w) fun v => .I (!v) (.R 0) (.R (w64 (w.Teeth - w.Missing)))) (by kernel_rfl)
noncomputable def sync_Valid (w : SWheel) (s : SSync) : C Tryz.prog Bool := .of Z Tryz.call105 Tryz.func105 [A_SWheel w, A_SSync s] (fun r => .t (tB r)) (
  .K (wheel_Valid w) fun v => .I (!v) (.R false) (.I (s.Mode == 0) (.W .eq <| .R ((s.Mode == 0) && ((s.Tooth == 0) && ((s.Last == 0) && ((s.Period == 0) && ((s.Normal == 0) && ((s.Teeth == 0) && true))))))) (.I (s.Mode == 1) (.G (s.Tooth != 0) (.R true) (.K (sync_instant s.Last) fun v2 => .R (!v2)) fun b2 => .I b2 (.R false) (.I (s.Teeth == 0) (.R ((s.Period == 0) && (s.Normal == 0))) (.R (((((s.Teeth == 1) || (s.Teeth == 2)) && (decide (s.Period ≥ 1))) && (decide (s.Period ≤ s.Last))) && (s.Normal == s.Period))))) (.I (s.Mode == 2) (.J0 1 (fun (t : Bool) => [.t 4 (.t (tB t)), .x 2, .x 3, .x 8, .d 2, .d 3]) (.D [] [] <| .Sp (decide (s.Tooth ≥ 0)) (.K (wheel_Teeth w) fun v3 => .Sp (decide (s.Tooth < v3)) (.K (sync_instant s.Last) fun v4 => .Sp v4 (.Sp (decide (s.Period ≥ 1)) (.Sp (decide (s.Period ≤ s.Last)) (.Sp (decide (s.Normal ≥ 1)) (.R ((decide (s.Normal ≤ s.Period)) && (s.Teeth == 0))) (.R false)) (.Sp false .N (.R false))) (.Sp false .N (.Sp false .N (.R false)))) (.Sp false .N (.Sp false .N (.Sp false .N (.R false))))) (.Sp false .N (.Sp false .N (.Sp false .N (.Sp false .N (.R false)))))) (.Sp false .N (.Sp false .N (.Sp false .N (.Sp false .N (.Sp false .N (.R false))))))) fun v5 => .R v5) (.R false))))) (by kernel_rfl)
noncomputable def ecu_teeth : C Tryz.prog SWheel := .of Z Tryz.call106 Tryz.func106 [] (fun r => A_SWheel r) (
  .R (⟨60, 2⟩ : SWheel)) (by kernel_rfl)
noncomputable def cmp_Compare_int (x : Int) (y : Int) : C Tryz.prog Int := .of Z Tryz.call241 Tryz.func241 [.t (tI x), .t (tI y)] (fun r => .t (tI r)) (
  .K (cmp_isNaN_int x) fun v => .K (cmp_isNaN_int y) fun v2 => .I v (.I v2 (.R 0) (.R (-1))) (.I v2 (.R 1) (.I (decide (x < y)) (.R (-1)) (.I (decide (x > y)) (.R 1) (.R 0))))) (by kernel_rfl)
noncomputable def wheel_halves_b1 (_ : Int) (x : Int) (s : Int × Int) : M Tryz.prog (Int × Int) (Fl (Int × Int) Empty) :=
  .W (.hx 0) <| .I (decide (x < 23040)) (.R (.next (w64 (s.1 + 1), s.2))) (.R (.next (s.1, w64 (s.2 + 1))))
noncomputable def wheel_halves (c : SCam) : C Tryz.prog (Int × Int) := .of Z Tryz.call242 Tryz.func242 [A_SCam c] (fun r => .tup [.t (tI r.1), .t (tI r.2)]) (
  M.Q Pv.encI c.Edges 2 9 (fun (t : Int × Int) => [.t 2 (.t (tI t.1)), .t 3 (.t (tI t.2)), .x 1, .x 6, .d 1]) 0 (.e) (wheel_halves_b1) (0, 0) (fun s2 => .R (s2.1, s2.2)) (fun t => t.elim)) (by kernel_rfl)
noncomputable def wheel_ValidCam_b1 (c : SCam) (i : Int) (_ : Unit) : M Tryz.prog Bool (Fl Unit Bool) :=
  .O (.ix Pv.encI c.Edges i) fun x => .G ((((decide (x < 0)) || (decide (x ≥ 46080))) || (decide ((Int.tmod x 23040) < 1920))) || (decide ((Int.tmod x 23040) > 21120))) (.R true) (.G (decide (i > 0)) (.O (.ix Pv.encI c.Edges (w64 (i - 1))) fun x2 => .R (decide ((w64 (x - x2)) < 1920))) (.R false) fun b3 => .R b3) fun b4 => .I b4 (.R (.ret false)) (.R (.next ()))
noncomputable def wheel_ValidCam (c : SCam) : C Tryz.prog Bool := .of Z Tryz.call157 Tryz.func157 [A_SCam c] (fun r => .t (tB r)) (
  .G ((decide ((c.Edges.length : Int) < 1)) || (decide ((c.Edges.length : Int) > 8))) (.R true) (.K (slices_IsSortedFunc_sint c.Edges (.of (fun z_ => cmp_Compare_int z_.1 z_.2) 241 [] (fun _ => rfl) (fun _ => rfl) (fun _ => rfl))) fun v => .R (!v)) fun b2 => .I b2 (.R false) (M.QN (c.Edges.length : Int) 2 26 (fun (_ : Unit) => [.x 7, .x 23]) 0 (.one .rt) (wheel_ValidCam_b1 c) () (fun _ => .K (wheel_halves c) fun r2 => .R (r2.1 != r2.2)) (fun r3 => .R r3))) (by kernel_rfl)
noncomputable def phase_valid (p2 : SPhase) : C Tryz.prog Bool := .of Z Tryz.call158 Tryz.func158 [A_SPhase p2] (fun r => .t (tB r)) (
  .I ((((decide (p2.Count < 0)) || (decide (p2.Count > 16))) || (decide (p2.Half < 0))) || (decide (p2.Half > 1))) (.R false) (.I ((!p2.Seen) && ((p2.Count != 0) || p2.Known)) (.R false) (.R (p2.Known || (p2.Half == 0))))) (by kernel_rfl)
noncomputable def phase_Valid (c : SCam) (p2 : SPhase) : C Tryz.prog Bool := .of Z Tryz.call107 Tryz.func107 [A_SCam c, A_SPhase p2] (fun r => .t (tB r)) (
  .K (wheel_ValidCam c) fun v => .G v (.K (phase_valid p2) fun v2 => .R v2) (.R false) fun b2 => .R b2) (by kernel_rfl)
noncomputable def ecu_edges : C Tryz.prog SCam := .of Z Tryz.call108 Tryz.func108 [] (fun r => A_SCam r) (
  .R (⟨([5000, 12000, 30000] : List Int)⟩ : SCam)) (by kernel_rfl)
noncomputable def monitor_within (x : Int) (low : Int) (high : Int) : C Tryz.prog Bool := .of Z Tryz.call159 Tryz.func159 [.t (tI x), .t (tI low), .t (tI high)] (fun r => .t (tB r)) (
  .R ((decide (x ≥ low)) && (decide (x ≤ high)))) (by kernel_rfl)
noncomputable def monitor_Valid (g : SGuard) : C Tryz.prog Bool := .of Z Tryz.call109 Tryz.func109 [A_SGuard g] (fun r => .t (tB r)) (
  .K (monitor_within g.Over 0 5) fun v => .G v (.K (monitor_within g.Calm 0 1000) fun v2 => .R v2) (.R false) fun b2 => .R ((b2 && ((g.Over == 0) || (g.Calm == 0))) && (g.Off || (decide (g.Over < 5))))) (by kernel_rfl)
noncomputable def quiz_instant (t2 : Int) : C Tryz.prog Bool := .of Z Tryz.call160 Tryz.func160 [.t (tI t2)] (fun r => .t (tB r)) (
  .R ((decide (t2 ≥ 0)) && (decide (t2 ≤ 1099511627776)))) (by kernel_rfl)
noncomputable def quiz_Valid (q : SQuiz) : C Tryz.prog Bool := .of Z Tryz.call110 Tryz.func110 [A_SQuiz q] (fun r => .t (tB r)) (
  .K (quiz_question q.Question) fun v => .G v (.K (quiz_instant q.Asked) fun v2 => .R v2) (.R false) fun b2 => .R (((((b2 && (q.Open || (q.Asked == 0))) && (decide (q.Errors ≥ 0))) && (decide (q.Errors ≤ 7))) && (q.Off == (q.Errors == 7))) && (!(q.Open && q.Off)))) (by kernel_rfl)
noncomputable def stage_time (t2 : Int) : C Tryz.prog Bool := .of Z Tryz.call161 Tryz.func161 [.t (tI t2)] (fun r => .t (tB r)) (
  .R ((decide (t2 ≥ 0)) && (decide (t2 ≤ 1099511627776)))) (by kernel_rfl)
noncomputable def stage_Valid (s : SStage) : C Tryz.prog Bool := .of Z Tryz.call111 Tryz.func111 [A_SStage s] (fun r => .t (tB r)) (
  .G (((decide (s.Cause ≥ 0)) && (decide (s.Cause ≤ 3))) && (s.Enabled == (s.Cause == 0))) (.K (stage_time s.Since) fun v => .R v) (.R false) fun b2 => .R b2) (by kernel_rfl)
noncomputable def ecu_valid (u : SEcu) : C Tryz.prog Bool := .of Z Tryz.call57 Tryz.func57 [A_SEcu u] (fun r => .t (tB r)) (
  .J0 1 (fun (t : Bool) => [.t 49 (.t (tB t))]) (.D [] [] <| .K (control_Valid u.Tables) fun v => .Sp (!v) (.Sp true (.Sp true (.Sp true (.Sp true (.Sp true (.R true) .N) .N) .N) .N) .N) (.K (plant_Good u.Body u.Plant) fun v2 => .Sp (!v2) (.Sp true (.Sp true (.Sp true (.Sp true (.R true) .N) .N) .N) .N) (.K (scheduler_Valid u.Scheduler) fun v3 => .Sp (!v3) (.Sp true (.Sp true (.Sp true (.R true) .N) .N) .N) (.K (control_Good u.Scheduler.Engine u.Controls) fun v4 => .Sp (!v4) (.Sp true (.Sp true (.R true) .N) .N) (.K (toothfilter_Valid u.Filter) fun v5 => .Sp (!v5) (.Sp true (.R true) .N) (.K (ecu_teeth) fun v6 => .K (sync_Valid v6 u.Sync) fun v7 => .Sp (!v7) (.R true) (.K (ecu_edges) fun v8 => .K (phase_Valid v8 u.Phase) fun v9 => .R (!v9)))))))) fun v10 => .I v10 (.R false) (.K (monitor_Valid u.Guard) fun v11 => .G (!v11) (.R true) (.K (quiz_Valid u.Quiz) fun v12 => .R (!v12)) fun b2 => .G b2 (.R true) (.K (stage_Valid u.Stage) fun v13 => .R (!v13)) fun b3 => .G b3 (.R true) (.K (fault_Valid u.Faults) fun v14 => .R (!v14)) fun b4 => .I ((b4 || (decide ((u.Faults.L.length : Int) < 7))) || (!u.Faults.Running)) (.R false) (.R (((((decide (u.Time ≥ 0)) && (decide (u.Time ≤ 549755813888))) && ((Int.tmod u.Time 10000) == 0)) && (u.Scheduler.Timer.Now == u.Time)) && (decide ((maxI (maxI (maxI u.Filter.Last u.Sync.Last) u.Stage.Since) u.Quiz.Asked) ≤ u.Time)))))) (by kernel_rfl)
noncomputable def slices_IndexFunc_sBreak_b1 (s : List SBreak) (f2 : Cl Tryz.prog SBreak Bool (fun x => [A_SBreak x]) (fun r => .t (tB r))) (i : Int) (_ : Unit) : M Tryz.prog Int (Fl Unit Int) :=
  .O (.ix enc_SBreak s i) fun x => .K (f2.at x) fun v => .I v (.R (.ret i)) (.R (.next ()))
noncomputable def slices_IndexFunc_sBreak (s : List SBreak) (f2 : Cl Tryz.prog SBreak Bool (fun x => [A_SBreak x]) (fun r => .t (tB r))) : C Tryz.prog Int := .of Z Tryz.call162 Tryz.func162 [.t (tS enc_SBreak s), .fz f2.n f2.cs] (fun r => .t (tI r)) (
  M.QN (s.length : Int) 2 8 (fun (_ : Unit) => []) 0 (.one .rt) (slices_IndexFunc_sBreak_b1 s f2) () (fun _ => .R (-1)) (fun r2 => .R r2)) (by kernel_rfl)
noncomputable def slices_ContainsFunc_sBreak (s : List SBreak) (f2 : Cl Tryz.prog SBreak Bool (fun x => [A_SBreak x]) (fun r => .t (tB r))) : C Tryz.prog Bool := .of Z Tryz.call112 Tryz.func112 [.t (tS enc_SBreak s), .fz f2.n f2.cs] (fun r => .t (tB r)) (
  .K (slices_IndexFunc_sBreak s f2) fun v => .R (decide (v ≥ 0))) (by kernel_rfl)
noncomputable def ecu_breaks_1 (b2 : SBreak) : C Tryz.prog Bool := .of Z Tryz.call113 Tryz.func113 [A_SBreak b2] (fun r => .t (tB r)) (
  .R ((((((((decide (b2.From < 0)) || (decide (b2.From > 1099511627776))) || (decide (b2.To < 0))) || (decide (b2.To > 1099511627776))) || (decide (b2.Sensor < 0))) || (decide (b2.Sensor > 7))) || (decide (b2.Value < (-1000000)))) || (decide (b2.Value > 1000000)))) (by kernel_rfl)
noncomputable def ecu_breaks (k : List SBreak) : C Tryz.prog Bool := .of Z Tryz.call58 Tryz.func58 [.t (tS enc_SBreak k)] (fun r => .t (tB r)) (
  .G (decide ((k.length : Int) ≤ 100)) (.K (slices_ContainsFunc_sBreak k (.of (fun z_ => ecu_breaks_1 z_) 113 [] (fun _ => rfl) (fun _ => rfl) (fun _ => rfl))) fun v => .R (!v)) (.R false) fun b2 => .R b2) (by kernel_rfl)
noncomputable def drive_numbers (d : SDrive) : C Tryz.prog (Int × Int × Int × Int × Int) := .of Z Tryz.call114 Tryz.func114 [A_SDrive d] (fun r => A_arr5_Int r) (
  .R (d.At, d.Pedal, d.Brake, d.Gear, d.Load)) (by kernel_rfl)
noncomputable def drive_parts : C Tryz.prog (Sdrive_part × Sdrive_part × Sdrive_part × Sdrive_part × Sdrive_part) := .of Z Tryz.call115 Tryz.func115 [] (fun r => A_arr5_Sdrive_part r) (
  .R ((⟨(ByteArray.mk #[97, 116]), 0, 1099511627776⟩ : Sdrive_part), (⟨(ByteArray.mk #[112, 101, 100, 97, 108]), 0, 1000⟩ : Sdrive_part), (⟨(ByteArray.mk #[98, 114, 97, 107, 101]), 0, 1000⟩ : Sdrive_part), (⟨(ByteArray.mk #[103, 101, 97, 114]), 0, 6⟩ : Sdrive_part), (⟨(ByteArray.mk #[108, 111, 97, 100]), (-500), 2000⟩ : Sdrive_part))) (by kernel_rfl)
noncomputable def drive_Valid_b2 (v2 : (Int × Int × Int × Int × Int)) (v3 : (Sdrive_part × Sdrive_part × Sdrive_part × Sdrive_part × Sdrive_part)) (v4 : Int) : M Tryz.prog Bool (Int ⊕ (Int ⊕ Bool)) :=
  .I (decide (v4 < 5)) (.O (.arr (fun y => .agg [.t (.v (.string y.word)), .t (tI y.low), .t (tI y.high)]) ([v3.1, v3.2.1, v3.2.2.1, v3.2.2.2.1, v3.2.2.2.2] : List Sdrive_part) v4) fun x4 => .J0 1 (fun (t : Bool) => [.t 63 (.t (tB t)), .x 7, .d 7]) (.D [] [] <| .O (.ax Pv.encI ([v2.1, v2.2.1, v2.2.2.1, v2.2.2.2.1, v2.2.2.2.2] : List Int) v4) fun x5 => .Sp (decide (x5 < x4.low)) (.R true) (.O (.ax Pv.encI ([v2.1, v2.2.1, v2.2.2.1, v2.2.2.2.1, v2.2.2.2.2] : List Int) v4) fun x6 => .R (decide (x6 > x4.high)))) fun v5 => .I v5 (.R (.inr (.inr false))) (.R (.inl (w64 (v4 + 1))))) (.R (.inr (.inl v4)))
noncomputable def drive_Valid_b1 (l : List SDrive) (i : Int) (_ : Unit) : M Tryz.prog Bool (Fl Unit Bool) :=
  .O (.ix enc_SDrive l i) fun x2 => .J0 1 (fun (t : Bool) => [.t 42 (.t (tB t))]) (.D [] [] <| .Sp (decide (i > 0)) (.O (.ix enc_SDrive l (w64 (i - 1))) fun x3 => .R (decide (x2.At ≤ x3.At))) (.R false)) fun v => .I v (.R (.ret false)) (.K (drive_numbers x2) fun v2 => .K (drive_parts) fun v3 => .Z (.fb 5) <| .L (fun (t : Int) => [.t 46 (.t (tI t)), .x 4, .d 4]) 2 (.one .rt) (drive_Valid_b2 v2 v3) 0 (fun _ => .R (.next ())) (fun r2 => .R (.ret r2)))
noncomputable def drive_Valid (l : List SDrive) : C Tryz.prog Bool := .of Z Tryz.call59 Tryz.func59 [.t (tS enc_SDrive l)] (fun r => .t (tB r)) (
  .G ((decide ((l.length : Int) < 1)) || (decide ((l.length : Int) > 200))) (.R true) (.O (.ix enc_SDrive l 0) fun x => .R (x.At != 0)) fun b2 => .I b2 (.R false) (M.QN (l.length : Int) 2 25 (fun (_ : Unit) => []) 0 (.one .rt) (drive_Valid_b1 l) () (fun _ => .R true) (fun r3 => .R r3))) (by kernel_rfl)
noncomputable def ecu_order (d : SDrive) : C Tryz.prog Bool := .of Z Tryz.call65 Tryz.func65 [A_SDrive d] (fun r => .t (tB r)) (
  .G ((decide (d.At ≥ 0)) && (decide (d.At ≤ 1099511627776))) (.K (drive_Valid ([({ d with At := 0 } : SDrive)] : List SDrive)) fun v => .R v) (.R false) fun b2 => .R b2) (by kernel_rfl)
noncomputable def motion_Rpm (speed : Int) : C Tryz.prog (Int × Int) := .of Z Tryz.call118 Tryz.func118 [.t (tI speed)] (fun r => .tup [.t (tI r.1), .t (tI r.2)]) (
  .I ((decide (speed < 0)) || (decide (speed > 524288))) (.R (0, 2)) (.R (w64 (Int.tdiv (w64 (speed * 60000000)) 1509949440), 0))) (by kernel_rfl)
noncomputable def ecu_step_broken_b1 (s : Secu_step) (sensor : Int) (_ : Int) (x : SBreak) (_ : Unit) : M Tryz.prog (Int × Bool) (Fl Unit (Int × Bool)) :=
  .W (.hx 0) <| .J0 1 (fun (t : Bool) => [.t 38 (.t (tB t))]) (.D [] [] <| .Sp (x.Sensor == sensor) (.Sp (decide (x.From ≤ s.t)) (.R (decide (s.t < x.To))) (.R false)) (.Sp false .N (.R false))) fun v => .I v (.R (.ret (x.Value, true))) (.R (.next ()))
noncomputable def ecu_step_broken (s : Secu_step) (sensor : Int) : C Tryz.prog (Int × Bool) := .of Z Tryz.call186 Tryz.func186 [.el (enc_Secu_step s), .t (tI sensor)] (fun r => .tup [.t (tI r.1), .t (tB r.2)]) (
  M.Q enc_SBreak s.k 2 13 (fun (_ : Unit) => []) 0 (.one .rt) (ecu_step_broken_b1 s sensor) () (fun _ => .R (0, false)) (fun r2 => .R r2)) (by kernel_rfl)
noncomputable def plant_Lambda (p2 : SPlant) : C Tryz.prog Int := .of Z Tryz.call246 Tryz.func246 [A_SPlant p2] (fun r => .t (tI r)) (
  .I ((p2.Path.length : Int) == 0) (.R 1000) (.O (.ix Pv.encI p2.Path 0) fun x => .R x)) (by kernel_rfl)
noncomputable def ecu_step_reading (s : Secu_step) (sensor : Int) : C Tryz.prog Int := .of Z Tryz.call170 Tryz.func170 [.el (enc_Secu_step s), .t (tI sensor)] (fun r => .t (tI r)) (
  .K (ecu_step_broken s sensor) fun r2 => .I r2.2 (.R r2.1) (.I (sensor == 0) (.R s.d.Pedal) (.I (sensor == 1) (.R (w64 (Int.tdiv s.d.Pedal 2))) (.I (sensor == 2) (.R s.u.Plant.Pressure) (.I (sensor == 3) (.R 20) (.I (sensor == 4) (.R (minI (w64 (20 + (w64 (Int.tdiv s.t 1000000)))) 90)) (.K (plant_Lambda s.u.Plant) fun v => .I (decide (v < 1000)) (.R 800) (.R 100)))))))) (by kernel_rfl)
noncomputable def arith_Clamp (x : Int) (low : Int) (high : Int) : C Tryz.prog Int := .of Z Tryz.call176 Tryz.func176 [.t (tI x), .t (tI low), .t (tI high)] (fun r => .t (tI r)) (
  .R (minI (maxI x low) high)) (by kernel_rfl)
noncomputable def ecu_outside (x : Int) (low : Int) (high : Int) : C Tryz.prog Bool := .of Z Tryz.call245 Tryz.func245 [.t (tI x), .t (tI low), .t (tI high)] (fun r => .t (tB r)) (
  .R ((decide (x < low)) || (decide (x > high)))) (by kernel_rfl)
noncomputable def ecu_step_bad (s : Secu_step) : C Tryz.prog (Bool × Bool × Bool × Bool × Bool × Bool × Bool) := .of Z Tryz.call169 Tryz.func169 [.el (enc_Secu_step s)] (fun r => A_arr7_Bool r) (
  .K (ecu_step_reading s 0) fun v => .K (arith_Clamp v 0 1000) fun v2 => .K (ecu_step_reading s 1) fun v3 => .K (arith_Clamp v3 0 500) fun v4 => .D [] [] <| .K (ecu_step_reading s 2) fun v5 => .K (ecu_outside v5 50 1013) fun v6 => .K (ecu_step_reading s 3) fun v7 => .K (ecu_outside v7 (-40) 150) fun v8 => .K (ecu_step_reading s 4) fun v9 => .K (ecu_outside v9 (-40) 150) fun v10 => .K (ecu_step_reading s 5) fun v11 => .K (ecu_outside v11 50 900) fun v12 => .R (decide ((maxI (w64 (v2 - (w64 (2 * v4)))) (w64 ((w64 (2 * v4)) - v2))) > 50), v6, v8, v10, v12, s.u.Guard.Off, s.u.Quiz.Off)) (by kernel_rfl)
noncomputable def ecu_keep_Faults (old : SFaults) : C Tryz.prog SFaults := .of Z Tryz.call171 Tryz.func171 [A_SFaults old] (fun r => .fz 247 [enc_SFaults r]) (
  .Z (.fb 1) <| .R old) (by kernel_rfl)
noncomputable def fault_fails (l : List SFault) (i : Int) (c : SConfig) (cycle : Int) (frame : List Int) : CG Tryz.prog (List SFault) := .of Z Tryz.call248 Tryz.func248 [.pe 1000000 (Int.toNat i) 7 0, A_SConfig c, .t (tI cycle), .t (tS Pv.encI frame)] [(1000000, .rs 197 7 l enc_SFault)] (fun _ => .tup []) (fun r => [(1000000, .rs 197 7 r enc_SFault)]) [] (
  .A enc_SFault l i fun x2 => .W (.ly 0) <| .K (fault_has x2 1) fun v => .J0 0 (fun (t : List SFault) => [.x 8, .x 9, .b 1000000 (.rs 197 7 t enc_SFault)]) (.I (!v) (.W (.ly 0) <| .U (.st enc_SFault l i ({ x2 with Occurrences := minI 255 (w64 (x2.Occurrences + 1)) } : SFault) 0) fun l2 => .W (.ly 0) <| .K (fault_has ({ x2 with Occurrences := minI 255 (w64 (x2.Occurrences + 1)) } : SFault) 4) fun v2 => .I (!v2) (.K (slices_Clone_sint frame) fun v3 => .U (.st enc_SFault l2 i ({ x2 with Occurrences := minI 255 (w64 (x2.Occurrences + 1)), Frame := v3 } : SFault) 0) fun l3 => .R l3) (.R l2)) (.R l)) fun f2 => .A enc_SFault f2 i fun x3 => .W (.ly 0) <| .U (.st enc_SFault f2 i ({ x3 with Status := bitOr .i64 x3.Status 11 } : SFault) 0) fun l4 => .U (.st enc_SFault l4 i ({ x3 with Status := bitOr .i64 x3.Status 11, Clean := 0 } : SFault) 0) fun l5 => .W (.ly 0) <| .I (x3.Last == cycle) (.R l5) (.U (.st enc_SFault l5 i ({ x3 with Status := bitOr .i64 x3.Status 11, Clean := 0, Last := cycle } : SFault) 0) fun l6 => .W (.ly 0) <| .U (.st enc_SFault l6 i (⟨bitOr .i64 x3.Status 11, x3.Count, minI 2 (w64 (x3.Cycles + 1)), 0, x3.Occurrences, x3.Frame, cycle⟩ : SFault) 0) fun l7 => .W (.ly 0) <| .I (decide ((minI 2 (w64 (x3.Cycles + 1))) < 2)) (.R l7) (.W (.ly 0) <| .U (.st enc_SFault l7 i (⟨bitOr .i64 (bitOr .i64 x3.Status 11) 4, x3.Count, minI 2 (w64 (x3.Cycles + 1)), 0, x3.Occurrences, x3.Frame, cycle⟩ : SFault) 0) fun l8 => .I c.Lamp (.W (.ly 0) <| .U (.st enc_SFault l8 i (⟨bitOr .i64 (bitOr .i64 (bitOr .i64 x3.Status 11) 4) 16, x3.Count, minI 2 (w64 (x3.Cycles + 1)), 0, x3.Occurrences, x3.Frame, cycle⟩ : SFault) 0) fun l9 => .R l9) (.R l8)))) (by kernel_rfl)
noncomputable def fault_Result (f2 : SFaults) (i : Int) (bad : Bool) (l : List Int) : C Tryz.prog (SFaults × Int) := .of Z Tryz.call172 Tryz.func172 [A_SFaults f2, .t (tI i), .t (tB bad), .t (tS Pv.encI l)] (fun r => .tup [A_SFaults r.1, .t (tI r.2)]) (
  .K (fault_Valid f2) fun v => .I (!v) (.R ((⟨([] : List SConfig), ([] : List SFault), 0, false⟩ : SFaults), 1)) (.I ((decide (i < 0)) || (decide (i ≥ (f2.L.length : Int)))) (.R ((⟨([] : List SConfig), ([] : List SFault), 0, false⟩ : SFaults), 2)) (.I (!f2.Running) (.R ((⟨([] : List SConfig), ([] : List SFault), 0, false⟩ : SFaults), 6)) (.O (.ix enc_SConfig f2.Configs i) fun x => .K (fault_frame x l) fun v2 => .I (!v2) (.R ((⟨([] : List SConfig), ([] : List SFault), 0, false⟩ : SFaults), 1)) (.KG (fault_copied f2) [2352] fun v3 => .D [] [] <| .O (.ix enc_SFault v3.L i) fun x2 => .O (.ix enc_SConfig v3.Configs i) fun x3 => .J0 0 (fun (t : List SFault) => [.x 29, .x 34, .x 44, .x 45, .x 46, .x 48, .x 49, .b 2352 (.rs 197 7 t enc_SFault)]) (.I bad (.D [] [] <| .W (.ly 1) <| .U (.st enc_SFault v3.L i ({ x2 with Count := minI x3.Fail (w64 ((maxI x2.Count 0) + 1)) } : SFault) 1) fun l2 => .R l2) (.D [] [] <| .W (.ly 1) <| .U (.st enc_SFault v3.L i ({ x2 with Count := maxI (w64 (0 - x3.Pass)) (w64 ((minI x2.Count 0) - 1)) } : SFault) 1) fun l3 => .R l3)) fun f3 => .A enc_SFault f3 i fun x4 => .W (.ly 0) <| .I (x4.Count == x3.Fail) (.KG (fault_fails f3 i x3 v3.Cycle l) [] fun v4 => .R (({ v3 with L := v4 } : SFaults), 0)) (.I (x4.Count == (w64 (0 - x3.Pass))) (.W (.ly 0) <| .U (.st enc_SFault f3 i ({ x4 with Status := bitOr .i64 x4.Status 8 } : SFault) 0) fun l4 => .W (.ly 0) <| .U (.st enc_SFault l4 i ({ x4 with Status := bitAndNot .i64 (bitOr .i64 x4.Status 8) 1 } : SFault) 0) fun l5 => .R (({ v3 with L := l5 } : SFaults), 0)) (.R (({ v3 with L := f3 } : SFaults), 0)))))))) (by kernel_rfl)
noncomputable def reaction_name_b1 (s : ByteArray) (i : Int) (_ : Unit) : M Tryz.prog Bool (Fl Unit Bool) :=
  .O (.str s i) fun b2 => .G (decide (b2 < 33)) (.R true) (.O (.str s i) fun b3 => .R (decide (b3 > 126))) fun b4 => .I b4 (.R (.ret false)) (.R (.next ()))
noncomputable def reaction_name (s : ByteArray) : C Tryz.prog Bool := .of Z Tryz.call381 Tryz.func381 [.t (.v (.string s))] (fun r => .t (tB r)) (
  .I ((decide ((s.size : Int) < 1)) || (decide ((s.size : Int) > 24))) (.R false) (M.QN (s.size : Int) 2 14 (fun (_ : Unit) => []) 0 (.one .rt) (reaction_name_b1 s) () (fun _ => .R true) (fun r2 => .R r2))) (by kernel_rfl)
noncomputable def reaction_right_b1 (r2 : SReaction) (faults : Int) (i : Int) (_ : Unit) : M Tryz.prog Bool (Fl Unit Bool) :=
  .O (.ix Pv.encI r2.Causes i) fun x => .G ((decide (x < 0)) || (decide (x ≥ faults))) (.R true) (.G (decide (i > 0)) (.O (.ix Pv.encI r2.Causes (w64 (i - 1))) fun x2 => .R (decide (x ≤ x2))) (.R false) fun b2 => .R b2) fun b3 => .I b3 (.R (.ret false)) (.R (.next ()))
noncomputable def reaction_right (r2 : SReaction) (faults : Int) : C Tryz.prog Bool := .of Z Tryz.call324 Tryz.func324 [A_SReaction r2, .t (tI faults)] (fun r => .t (tB r)) (
  .K (reaction_name r2.Name) fun v => .I (((((((((!v) || (decide (r2.Group < 0))) || (decide (r2.Group > 15))) || (decide (r2.Priority < 0))) || (decide (r2.Priority > 15))) || (decide ((r2.Causes.length : Int) < 1))) || (decide ((r2.Causes.length : Int) > 16))) || (decide (r2.Limit < (-5000)))) || (decide (r2.Limit > 10000))) (.R false) (M.QN (r2.Causes.length : Int) 2 56 (fun (_ : Unit) => [.x 7, .x 53]) 0 (.one .rt) (reaction_right_b1 r2 faults) () (fun _ => .R true) (fun r3 => .R r3))) (by kernel_rfl)
noncomputable def reaction_Valid_b1 (faults : Int) (_ : Int) (x : SReaction) (f2 : List (ByteArray × Bool)) : M Tryz.prog Bool (Fl (List (ByteArray × Bool)) Bool) :=
  .W (.hx 0) <| .K (reaction_right x faults) fun v => .G (!v) (.R true) (.Ml mq424 f2 x.Name <| .R (mget false f2 x.Name)) fun b2 => .I b2 (.R (.ret false)) (.Mu mq424 f2 x.Name true <| .R (.next (mset f2 x.Name true)))
noncomputable def reaction_Valid (l : List SReaction) (faults : Int) : C Tryz.prog Bool := .of Z Tryz.call252 Tryz.func252 [.t (tS enc_SReaction l), .t (tI faults)] (fun r => .t (tB r)) (
  .I (((decide (faults < 0)) || (decide (faults > 64))) || (decide ((l.length : Int) > 64))) (.R false) (.Mm 2152 <| M.Q enc_SReaction l 2 22 (fun (t : List (ByteArray × Bool)) => [.x 19, .b 2152 (.mp (List.map (ent (fun s : ByteArray => .string s) (fun v : Bool => .bool v)) t))]) 0 (.one .rt) (reaction_Valid_b1 faults) ([] : List (ByteArray × Bool)) (fun _ => .R true) (fun r2 => .R r2))) (by kernel_rfl)
noncomputable def reaction_given (l : List SReaction) (f2 : SFaults) : C Tryz.prog Bool := .of Z Tryz.call249 Tryz.func249 [.t (tS enc_SReaction l), A_SFaults f2] (fun r => .t (tB r)) (
  .K (fault_Valid f2) fun v => .G v (.K (reaction_Valid l (f2.L.length : Int)) fun v2 => .R v2) (.R false) fun b2 => .R b2) (by kernel_rfl)
noncomputable def reaction_causes_b1 (holds : Cl Tryz.prog Int Bool (fun x => [.t (tI x)]) (fun r => .t (tB r))) (_ : Int) (x : Int) (out : List Int) : M Tryz.prog (List Int) (Fl (List Int) Empty) :=
  .W (.hx 0) <| .K (holds.at x) fun v => .I v (.U (.ap Pv.encI out ([x] : List Int) 2168) fun l => .R (.next l)) (.R (.next out))
noncomputable def reaction_causes (r2 : SReaction) (holds : Cl Tryz.prog Int Bool (fun x => [.t (tI x)]) (fun r => .t (tB r))) : C Tryz.prog (List Int) := .of Z Tryz.call322 Tryz.func322 [A_SReaction r2, .fz holds.n holds.cs] (fun r => .t (tS Pv.encI r)) (
  .Z (.np 5 2168 3 1 []) <| M.Q Pv.encI r2.Causes 2 11 (fun (t : List Int) => [.t 5 (.own 2168), .x 2, .x 8, .b 2168 (.rs 3 1 t Pv.encI), .d 2]) 0 (.e) (reaction_causes_b1 holds) ([] : List Int) (fun out2 => .R out2) (fun t => t.elim)) (by kernel_rfl)
noncomputable def reaction_inForce_b1 (l : List SReaction) (holds : Cl Tryz.prog Int Bool (fun x => [.t (tI x)]) (fun r => .t (tB r))) (i : Int) (out : List SActive) : M Tryz.prog (List SActive) (Fl (List SActive) Empty) :=
  .O (.ix enc_SReaction l i) fun x => .K (reaction_causes x holds) fun v => .I (decide ((v.length : Int) > 0)) (.U (.ap enc_SActive out ([(⟨i, v⟩ : SActive)] : List SActive) 2216) fun l2 => .R (.next l2)) (.R (.next out))
noncomputable def reaction_inForce (l : List SReaction) (holds : Cl Tryz.prog Int Bool (fun x => [.t (tI x)]) (fun r => .t (tB r))) : C Tryz.prog (List SActive) := .of Z Tryz.call250 Tryz.func250 [.t (tS enc_SReaction l), .fz holds.n holds.cs] (fun r => .t (tS enc_SActive r)) (
  .Z (.np 5 2216 31 2 []) <| M.QN (l.length : Int) 2 11 (fun (t : List SActive) => [.t 5 (.own 2216), .b 2216 (.rs 31 2 t enc_SActive)]) 0 (.e) (reaction_inForce_b1 l holds) ([] : List SActive) (fun out2 => .R out2) (fun t => t.elim)) (by kernel_rfl)
noncomputable def reaction_active (f2 : SFaults) (but : Int) : C Tryz.prog (Int × SFaults) := .of Z Tryz.call251 Tryz.func251 [A_SFaults f2, .t (tI but)] (fun r => .fz 323 [Pv.encI r.1, enc_SFaults r.2]) (
  .Z (.fb 3) <| .Z (.fb 2) <| .R (but, f2)) (by kernel_rfl)
noncomputable def reaction_active_1 (i : Int) (c : Int) (c2 : SFaults) : C Tryz.prog Bool := .of Z Tryz.call323 Tryz.func323 [.t (tI i), .el (Pv.encI c), .el (enc_SFaults c2)] (fun r => .t (tB r)) (
  .G (i != c) (.O (.ix enc_SFault c2.L i) fun x => .R ((bitAnd .i64 x.Status 5) != 0)) (.R false) fun b2 => .R b2) (by kernel_rfl)
noncomputable def reaction_Active (l : List SReaction) (f2 : SFaults) : C Tryz.prog (List SActive × Int) := .of Z Tryz.call173 Tryz.func173 [.t (tS enc_SReaction l), A_SFaults f2] (fun r => .tup [.t (tS enc_SActive r.1), .t (tI r.2)]) (
  .K (reaction_given l f2) fun v => .I (!v) (.R (([] : List SActive), 1)) (.K (reaction_active f2 (-1)) fun v2 => .K (reaction_inForce l (.of (fun z_ => reaction_active_1 z_ v2.1 v2.2) 323 [Pv.encI v2.1, enc_SFaults v2.2] (fun _ => rfl) (fun _ => rfl) (fun _ => rfl))) fun v3 => .R (v3, 0))) (by kernel_rfl)
noncomputable def slices_IndexFunc_sActive_b1 (s : List SActive) (f2 : Cl Tryz.prog SActive Bool (fun x => [A_SActive x]) (fun r => .t (tB r))) (i : Int) (_ : Unit) : M Tryz.prog Int (Fl Unit Int) :=
  .O (.ix enc_SActive s i) fun x => .K (f2.at x) fun v => .I v (.R (.ret i)) (.R (.next ()))
noncomputable def slices_IndexFunc_sActive (s : List SActive) (f2 : Cl Tryz.prog SActive Bool (fun x => [A_SActive x]) (fun r => .t (tB r))) : C Tryz.prog Int := .of Z Tryz.call30 Tryz.func30 [.t (tS enc_SActive s), .fz f2.n f2.cs] (fun r => .t (tI r)) (
  M.QN (s.length : Int) 2 8 (fun (_ : Unit) => []) 0 (.one .rt) (slices_IndexFunc_sActive_b1 s f2) () (fun _ => .R (-1)) (fun r2 => .R r2)) (by kernel_rfl)
noncomputable def slices_ContainsFunc_sActive (s : List SActive) (f2 : Cl Tryz.prog SActive Bool (fun x => [A_SActive x]) (fun r => .t (tB r))) : C Tryz.prog Bool := .of Z Tryz.call6 Tryz.func6 [.t (tS enc_SActive s), .fz f2.n f2.cs] (fun r => .t (tB r)) (
  .K (slices_IndexFunc_sActive s f2) fun v => .R (decide (v ≥ 0))) (by kernel_rfl)
noncomputable def reaction_Limit_1 (x : SActive) (c : List SReaction) : C Tryz.prog Bool := .of Z Tryz.call253 Tryz.func253 [A_SActive x, .el ((Pv.encS enc_SReaction) c)] (fun r => .t (tB r)) (
  .R ((decide (x.Reaction < 0)) || (decide (x.Reaction ≥ (c.length : Int))))) (by kernel_rfl)
noncomputable def reaction_Limit_b1 (l : List SReaction) (group : Int) (_ : Int) (x : SActive) (s : Int × Int) : M Tryz.prog (Int × Int) (Fl (Int × Int) Empty) :=
  .W (.hx 0) <| .O (.ix enc_SReaction l x.Reaction) fun x2 => .I ((x2.Group != group) || (decide (x2.Priority < s.2))) (.R (.next (s.1, s.2))) (.I (decide (x2.Priority > s.2)) (.D [] [] <| .R (.next (minI x2.Limit x2.Limit, x2.Priority))) (.R (.next (minI s.1 x2.Limit, s.2))))
noncomputable def reaction_Limit (l : List SReaction) (a : List SActive) (group : Int) (other : Int) : C Tryz.prog (Int × Int) := .of Z Tryz.call175 Tryz.func175 [.t (tS enc_SReaction l), .t (tS enc_SActive a), .t (tI group), .t (tI other)] (fun r => .tup [.t (tI r.1), .t (tI r.2)]) (
  .K (reaction_Valid l 64) fun v => .Z (.fb 4) <| .G ((!v) || (decide ((a.length : Int) > 64))) (.R true) (.K (slices_ContainsFunc_sActive a (.of (fun z_ => reaction_Limit_1 z_ l) 253 [(Pv.encS enc_SReaction) l] (fun _ => rfl) (fun _ => rfl) (fun _ => rfl))) fun v2 => .R v2) fun b2 => .I b2 (.R (0, 1)) (.I ((decide (group < 0)) || (decide (group > 15))) (.R (0, 2)) (M.Q enc_SActive a 2 37 (fun (t : Int × Int) => [.t 10 (.t (tI t.1)), .t 11 (.t (tI t.2))]) 0 (.e) (reaction_Limit_b1 l group) (other, (-1)) (fun s2 => .R (s2.1, 0)) (fun t => t.elim)))) (by kernel_rfl)
noncomputable def ecu_step_test_1 (n2 : Int) (other : Int) (c : List SReaction) (c2 : Secu_step) : CG Tryz.prog Int := .of Z Tryz.call174 Tryz.func174 [.t (tI n2), .t (tI other), .el ((Pv.encS enc_SReaction) c), .ptr 1000000 0] [(1000000, .box [.ptr 1000001 0]), (1000001, .box (lset (B_Secu_step c2) [(107, .own 1000002), (113, .own 1000003)])), (1000002, .rs 293 7 c2.outputs.Fires enc_SFire), (1000003, .rs 409 3 c2.switches enc_SSwitch)] (fun r => .t (tI r)) (fun _ => [(1000000, .box [.ptr 1000001 0]), (1000001, .box (lset (B_Secu_step c2) [(107, .own 1000002), (113, .own 1000003)])), (1000002, .rs 293 7 c2.outputs.Fires enc_SFire), (1000003, .rs 409 3 c2.switches enc_SSwitch)]) [] (
  .D [] [] <| .K (reaction_Limit c c2.active n2 other) fun r2 => .R r2.1) (by kernel_rfl)
noncomputable def ecu_keep_Faults_1 (v_next : SFaults) (e2 : Int) (c : SFaults) : C Tryz.prog SFaults := .of Z Tryz.call247 Tryz.func247 [A_SFaults v_next, .t (tI e2), .el (enc_SFaults c)] (fun r => A_SFaults r) (
  .I (e2 != 0) (.R c) (.R v_next)) (by kernel_rfl)
end Go.Proofs.YtjhedhnghldjbaaGreatDoor

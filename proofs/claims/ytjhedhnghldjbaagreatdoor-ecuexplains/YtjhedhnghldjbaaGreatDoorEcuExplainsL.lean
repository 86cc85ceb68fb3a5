/- Proved: EcuExplains, called with any arguments that its row admits, returns true, and every argument reads behind the call as it read before; the tables that the row lists are tied to the program's text (the given tie). Conditions: none beyond the card's own. This file joins: Plain Lean: EcuExplains: the lines of program and reference. Plain Lean: EcuExplains answers true whatever its arguments: program and reference explain a record alike. What a row's listed tables give: the machine's premise on the table of decimal texts. EcuExplains' row, but for the great closed facts of its program. EcuExplains' row: called with any arguments that its row admits, in a world where the listed tables are laid, it returns true, and every argument reads behind the call as it read before. No body of the program starts a goroutine. -/
import Derived.Test.YtjhedhnghldjbaaGreatDoorEcuExplainsK
import Derived.KernelRfl
import Derived.Test.YtjhedhnghldjbaaGreatDoorRows
import Derived.Lib.LaidTab
import Derived.LaidMore
import Derived.OpenShut
import Derived.ProofKit
import Derived.Stop.Joined
import Derived.Test.YtjhedhnghldjbaaGreatDoorProg
import GoSem.ClaimGoes
import Derived.Test.YtjhedhnghldjbaaGreatDoorCards
import Derived.Test.YtjhedhnghldjbaaGreatDoorTie
import Derived.SevenTiedAt
set_option linter.unusedSimpArgs false
set_option linter.unusedVariables false
set_option linter.unusedSimpArgs false
set_option linter.unusedVariables false
set_option maxRecDepth 100000
namespace Go.Proofs.YtjhedhnghldjbaaGreatDoor.Ec
open Go Go.Pv Go.Proofs
theorem u8_dig (d : Nat) (h : d < 10) : UInt8.ofNat (Int.toNat (IntKind.u8.wrap (w64 (48 + (d : Int))))) = UInt8.ofNat (48 + d) := by
  have : ∀ j : Fin 10, UInt8.ofNat (Int.toNat (IntKind.u8.wrap (w64 (48 + ((j.val : Nat) : Int))))) = UInt8.ofNat (48 + j.val) := by decide +kernel
  exact this ⟨d, h⟩
theorem b2s_dig (d : Nat) (h : d < 10) : (L1.b2s ([IntKind.u8.wrap (w64 (48 + (d : Int)))] : List Int)).m = some ⟨#[UInt8.ofNat (48 + d)]⟩ := by
  show some (ByteArray.empty.push (UInt8.ofNat (Int.toNat (IntKind.u8.wrap (w64 (48 + (d : Int))))))) = _
  rw [u8_dig d h]
  rfl
theorem cat_ok {s t : ByteArray} (h : s.size + t.size ≤ 9223372036854775807) : catM s t = some (s ++ t) := by unfold catM; rw [if_pos h]
theorem ba_ext {s t : ByteArray} (h : s.data.toList = t.data.toList) : s = t := by
  cases s; cases t
  simp only [ByteArray.mk.injEq]
  exact Array.ext' h
theorem ba_len (s : ByteArray) : s.size = s.data.toList.length := by rw [Array.length_toList]; rfl
theorem dig_loop : ∀ (f n : Nat) (s : ByteArray), n < 10 ^ (f + 1) → (n : Int) ≤ 9223372036854775807 → s.size + f ≤ 1000 →
    ∃ (d : Nat) (t : ByteArray), loopM (fun s => (magnetoref56_digits_b1 s).run) ((n : Int), s) = some (.inl ((d : Int), t)) ∧ d < 10 ∧ t.size ≤ s.size + f ∧ UInt8.ofNat (48 + d) :: t.data.toList = Lib.decDigits n ++ s.data.toList
  | f, n, s, hn, hbig, hs => by
    by_cases h9 : n < 10
    · refine ⟨n, s, loopM_out ?_, h9, by omega, ?_⟩
      · simp only [magnetoref56_digits_b1, M.run]
        rw [decide_eq_false (show ¬ ((n : Int) > 9) by omega)]
        rfl
      · rw [Lib.decDigits, dif_pos h9]; rfl
    · cases f with
      | zero => omega
      | succ f =>
        have hm : Int.tmod (n : Int) 10 = ((n % 10 : Nat) : Int) := by rw [Int.tmod_eq_emod_of_nonneg (by omega)]; omega
        have hq : Int.tdiv (n : Int) 10 = ((n / 10 : Nat) : Int) := by rw [Int.tdiv_eq_ediv_of_nonneg (by omega)]; omega
        have hnn : n / 10 < 10 ^ (f + 1) := by
          rw [Nat.pow_succ] at hn
          omega
        obtain ⟨d, t, e, hd, ht, hl⟩ := dig_loop f (n / 10) (⟨#[UInt8.ofNat (48 + n % 10)]⟩ ++ s) hnn (by omega) (by rw [ByteArray.size_append]; show 1 + s.size + f ≤ 1000; omega)
        refine ⟨d, t, ?_, hd, by rw [ByteArray.size_append] at ht; have : t.size ≤ 1 + s.size + f := ht; omega, ?_⟩
        · rw [loopM_next (s' := (((n / 10 : Nat) : Int), ⟨#[UInt8.ofNat (48 + n % 10)]⟩ ++ s))]
          · exact e
          · simp only [magnetoref56_digits_b1, M.run, hm, hq]
            rw [decide_eq_true (show ((n : Int) > 9) by omega), b2s_dig _ (by omega)]
            simp only [cond_true, Option.bind_some, L1.m]
            rw [cat_ok (by show 1 + s.size ≤ _; omega), w64_of (by omega) (by omega)]
            rfl
        · rw [hl, Lib.decDigits.eq_def n, dif_neg h9, List.append_assoc]
          congr 1
theorem digits_run (n : Nat) (hb : (n : Int) ≤ 9223372036854775807) : (magnetoref56_digits (n : Int)).m = some ⟨(Lib.decDigits n).toArray⟩ := by
  obtain ⟨d, t, e, hd, ht, hl⟩ := dig_loop 18 n (ByteArray.mk #[]) (by omega) hb (by show 0 + 18 ≤ 1000; omega)
  simp only [magnetoref56_digits, C.of, M.run, e, Option.bind_some, b2s_dig d hd]
  simp only [L1.m]
  rw [cat_ok (by show 1 + t.size ≤ _; have : t.size ≤ 0 + 18 := ht; omega)]
  refine congrArg some (ba_ext ?_)
  show (⟨#[UInt8.ofNat (48 + d)]⟩ ++ t : ByteArray).data.toList = Lib.decDigits n
  rw [show Lib.decDigits n = UInt8.ofNat (48 + d) :: t.data.toList by rw [hl]; exact (List.append_nil _).symm]
  simp [ByteArray.data_append]
theorem dec_le (n : Nat) (h : n < 18446744073709551616) : (Lib.decDigits n).length ≤ 20 := by rw [Lib.decDigits_length]; exact Lib.nDigits_le20 n h
theorem number_run (n : Int) (h0 : -9223372036854775808 ≤ n) (h1 : n ≤ 9223372036854775807) : (magnetoref56_number n).m = some ⟨(Lib.itoa n).toArray⟩ := by
  simp only [magnetoref56_number, C.of, M.run]
  by_cases ha : n ≤ -10
  · rw [decide_eq_true ha]
    obtain ⟨u, hu⟩ : ∃ u : Nat, n = -(u : Int) := ⟨n.natAbs, by omega⟩
    have hq : w64 (0 - w64 (Int.tdiv n 10)) = ((u / 10 : Nat) : Int) := by
      rw [hu, Int.neg_tdiv, Int.tdiv_eq_ediv_of_nonneg (by omega), w64_of (n := -((u : Int) / 10)) (by omega) (by omega), w64_of (by omega) (by omega)]
      omega
    have hr : w64 (0 - Int.tmod n 10) = ((u % 10 : Nat) : Int) := by
      rw [hu, Int.neg_tmod, Int.tmod_eq_emod_of_nonneg (by omega), w64_of (by omega) (by omega)]
      omega
    simp only [cond_true, hq, hr, digits_run (u / 10) (by omega), digits_run (u % 10) (by omega), Option.bind_some, L1.m]
    have l1 := dec_le (u / 10) (by omega)
    have l2 := dec_le (u % 10) (by omega)
    rw [cat_ok (by show 1 + (Lib.decDigits (u / 10)).toArray.size ≤ _; rw [List.size_toArray]; omega)]
    simp only [Option.bind_some]
    rw [cat_ok (by rw [ByteArray.size_append]; show 1 + (Lib.decDigits (u / 10)).toArray.size + (Lib.decDigits (u % 10)).toArray.size ≤ _; rw [List.size_toArray, List.size_toArray]; omega)]
    refine congrArg some (ba_ext ?_)
    have hi : Lib.itoa n = 45 :: (Lib.decDigits (u / 10) ++ Lib.decDigits (u % 10)) := by
      unfold Lib.itoa
      rw [if_pos (by omega), show n.natAbs = u by omega, Lib.decDigits, dif_neg (by omega)]
      conv => rhs; rw [Lib.decDigits.eq_def (u % 10), dif_pos (by omega)]
    rw [show (⟨(Lib.itoa n).toArray⟩ : ByteArray).data.toList = Lib.itoa n from rfl, hi]
    simp [ByteArray.data_append]
  · rw [decide_eq_false ha]
    by_cases hb : n < 0
    · rw [decide_eq_true hb]
      obtain ⟨u, hu⟩ : ∃ u : Nat, n = -(u : Int) := ⟨n.natAbs, by omega⟩
      have hq : w64 (0 - n) = (u : Int) := by rw [w64_of (by omega) (by omega)]; omega
      simp only [cond_true, cond_false, hq, digits_run u (by omega), Option.bind_some, L1.m]
      have l1 := dec_le u (by omega)
      rw [cat_ok (by show 1 + (Lib.decDigits u).toArray.size ≤ _; rw [List.size_toArray]; omega)]
      refine congrArg some (ba_ext ?_)
      rw [show (⟨(Lib.itoa n).toArray⟩ : ByteArray).data.toList = Lib.itoa n from rfl]
      unfold Lib.itoa
      rw [if_pos hb, show n.natAbs = u by omega]
      simp [ByteArray.data_append]
    · rw [decide_eq_false hb]
      obtain ⟨u, rfl⟩ : ∃ u : Nat, n = (u : Int) := ⟨n.toNat, by omega⟩
      simp only [cond_false, digits_run u h1, Option.bind_some]
      unfold Lib.itoa
      rw [if_neg (by omega)]
      rfl
theorem join_snoc (xs : List (List UInt8)) (y : List UInt8) : Lib.join (xs ++ [y]) [44, 32] = if xs = [] then y else Lib.join xs [44, 32] ++ [44, 32] ++ y := by
  cases xs with
  | nil => rw [if_pos rfl]; exact Lib.join_one _ _
  | cons x r =>
    rw [if_neg (by simp), List.cons_append, Lib.join_cons, Lib.join_cons]
    simp [Lib.joinTail]
/-- What the first causes read as. -/
def jn (l : List SConfig) (cs : List Int) (k : Nat) : List UInt8 := Lib.join ((cs.take k).map fun c => Lib.itoa (codeN l c.toNat)) [44, 32]
theorem code_in {l : List SConfig} (hl : ∀ f ∈ l, -9223372036854775808 ≤ f.Code ∧ f.Code ≤ 9223372036854775807) (k : Nat) : -9223372036854775808 ≤ codeN l k ∧ codeN l k ≤ 9223372036854775807 := by
  unfold codeN
  cases h : l[k]? with
  | none => simp
  | some f => exact hl f (List.mem_of_getElem? h)
theorem jn_le {l : List SConfig} (hl : ∀ f ∈ l, -9223372036854775808 ≤ f.Code ∧ f.Code ≤ 9223372036854775807) (cs : List Int) (hc : cs.length ≤ 20) (k : Nat) : (jn l cs k).length ≤ 460 := by
  have := join_le ((cs.take k).map fun c => Lib.itoa (codeN l c.toNat)) (fun x hx => by
    obtain ⟨c, _, rfl⟩ := List.mem_map.1 hx
    exact Lib.itoa_length_le _ (code_in hl _).1 (code_in hl _).2)
  rw [List.length_map, List.length_take] at this
  unfold jn
  omega
theorem inner_run {l : List SConfig} (hl : ∀ f ∈ l, -9223372036854775808 ≤ f.Code ∧ f.Code ≤ 9223372036854775807) (x : SActive) (hx : x.Causes.length ≤ 20) (s0 : ByteArray) (hs : s0.size ≤ 1000000) :
    loopM (fun s => (magnetoref56_Explain_b2 l x s).run) (s0, 0) = some (bif x.Causes.all (okC l.length) then .inl (s0 ++ ⟨(jn l x.Causes x.Causes.length).toArray⟩, (x.Causes.length : Int)) else .inr (ByteArray.mk #[], false)) := by
  have h0 : (s0, (0 : Int)) = (fun k : Nat => ((s0 ++ ⟨(jn l x.Causes k).toArray⟩ : ByteArray), (k : Int))) 0 := by
    simp only [Prod.mk.injEq]
    exact ⟨ba_ext (by simp [jn, Lib.join_nil, ByteArray.data_append]), rfl⟩
  rw [h0]
  refine loopM_allL (fun k : Nat => ((s0 ++ ⟨(jn l x.Causes k).toArray⟩ : ByteArray), (k : Int))) x.Causes ?_ fun k c hk => ?_
  · simp only [magnetoref56_Explain_b2, M.run]
    rw [decide_eq_false (by omega)]
    rfl
  · have hkl := (List.getElem?_eq_some_iff.1 hk).1
    have hj := jn_le hl x.Causes hx k
    have hsz : (s0 ++ ⟨(jn l x.Causes k).toArray⟩ : ByteArray).size = s0.size + (jn l x.Causes k).length := by
      rw [ByteArray.size_append]; show _ + (jn l x.Causes k).toArray.size = _; rw [List.size_toArray]
    simp only [magnetoref56_Explain_b2, M.run, L1.m, getI_nat, hk, Option.bind_some]
    rw [decide_eq_true (show (k : Int) < (x.Causes.length : Int) by omega)]
    simp only [cond_true]
    by_cases hok : okC l.length c = true
    · have hcc := hok
      simp only [okC, Bool.and_eq_true, decide_eq_true_eq] at hcc
      obtain ⟨q, rfl⟩ : ∃ q : Nat, c = (q : Int) := ⟨c.toNat, by omega⟩
      have hq : q < l.length := by omega
      rw [hok, decide_eq_false (show ¬ (q : Int) < 0 by omega), decide_eq_false (show ¬ (q : Int) ≥ (l.length : Int) by omega)]
      simp only [cond_false, cond_true, Option.bind_some, getI_nat, List.getElem?_eq_getElem hq]
      have hcn : codeN l q = l[q].Code := by unfold codeN; rw [List.getElem?_eq_getElem hq]; rfl
      have hr := code_in hl q
      rw [hcn] at hr
      have hil := Lib.itoa_length_le _ hr.1 hr.2
      rw [number_run _ hr.1 hr.2]
      have htk : (x.Causes.take (k + 1)).map (fun c => Lib.itoa (codeN l c.toNat)) = (x.Causes.take k).map (fun c => Lib.itoa (codeN l c.toNat)) ++ [Lib.itoa l[q].Code] := by
        rw [List.take_succ_eq_append_getElem hkl, List.map_append, (List.getElem?_eq_some_iff.1 hk).2]
        simp [hcn]
      have hsx : ∀ t : ByteArray, (⟨(Lib.itoa l[q].Code).toArray⟩ : ByteArray).size = (Lib.itoa l[q].Code).length := fun _ => by show (Lib.itoa l[q].Code).toArray.size = _; rw [List.size_toArray]
      by_cases hk0 : k = 0
      · subst hk0
        rw [decide_eq_false (show ¬ ((0 : Nat) : Int) > 0 by omega)]
        simp only [cond_false, Option.bind_some]
        rw [cat_ok (by rw [hsz, hsx s0]; omega), w64_of (by omega) (by omega)]
        simp only [Option.bind_some]
        refine congrArg some (congrArg Sum.inl (Prod.ext (ba_ext ?_) rfl))
        show (s0 ++ ⟨(jn l x.Causes 0).toArray⟩ ++ ⟨(Lib.itoa l[q].Code).toArray⟩ : ByteArray).data.toList = (s0 ++ ⟨(jn l x.Causes 1).toArray⟩ : ByteArray).data.toList
        have : jn l x.Causes 1 = Lib.itoa l[q].Code := by unfold jn; rw [htk, join_snoc, if_pos (by simp)]
        rw [this]
        simp [jn, Lib.join_nil, ByteArray.data_append]
      · rw [decide_eq_true (show (k : Int) > 0 by omega)]
        simp only [cond_true]
        rw [cat_ok (by rw [hsz]; show _ + 2 ≤ _; omega)]
        simp only [Option.bind_some]
        rw [cat_ok (by rw [ByteArray.size_append, hsz, hsx s0]; show _ + 2 + _ ≤ _; omega), w64_of (by omega) (by omega)]
        simp only [Option.bind_some]
        refine congrArg some (congrArg Sum.inl (Prod.ext (ba_ext ?_) rfl))
        show (s0 ++ ⟨(jn l x.Causes k).toArray⟩ ++ ⟨#[44, 32]⟩ ++ ⟨(Lib.itoa l[q].Code).toArray⟩ : ByteArray).data.toList = (s0 ++ ⟨(jn l x.Causes (k + 1)).toArray⟩ : ByteArray).data.toList
        have : jn l x.Causes (k + 1) = jn l x.Causes k ++ [44, 32] ++ Lib.itoa l[q].Code := by
          unfold jn
          rw [htk, join_snoc, if_neg (by
            intro h
            have := congrArg List.length h
            rw [List.length_map, List.length_take, List.length_nil] at this
            omega)]
        rw [this]
        simp [ByteArray.data_append]
    · have hf : okC l.length c = false := by simpa using hok
      rw [hf]
      by_cases h1 : c < 0
      · rw [decide_eq_true h1]; rfl
      · rw [decide_eq_false h1]
        have h2 : ¬ c < (l.length : Int) := fun h => by rw [okC, decide_eq_true (show 0 ≤ c by omega), decide_eq_true h] at hf; cases hf
        simp only [cond_false]
        rw [decide_eq_true (show c ≥ (l.length : Int) by omega)]
        rfl
theorem rref_run : (magnetoref56_Reactions).m = some rxs := (magnetoref56_Reactions).le 1 _ (by kernel_rfl)
theorem rea_at {l : List SActive} {k : Nat} {a : SActive} (h : l[k]? = some a) : reaN l k = a.Reaction ∧ cauN l k = a.Causes := by unfold reaN cauN; rw [h]; exact ⟨rfl, rfl⟩
theorem all_range (l : List SActive) (m : Nat) : ((List.range l.length).all fun j => okA m (reaN l j) (cauN l j)) = l.all fun a => okA m a.Reaction a.Causes := by
  rw [Bool.eq_iff_iff, List.all_eq_true, List.all_eq_true]
  constructor
  · intro h a ha
    obtain ⟨k, hk, rfl⟩ := List.getElem_of_mem ha
    have := h k (List.mem_range.2 hk)
    obtain ⟨e1, e2⟩ := rea_at (List.getElem?_eq_getElem hk)
    rwa [e1, e2] at this
  · intro h j hj
    have hj := List.mem_range.1 hj
    obtain ⟨e1, e2⟩ := rea_at (List.getElem?_eq_getElem hj)
    rw [e1, e2]
    exact h _ (List.getElem_mem hj)
theorem txt_le {l : List SConfig} (hl : ∀ f ∈ l, -9223372036854775808 ≤ f.Code ∧ f.Code ≤ 9223372036854775807) (acts : List SActive) (hc : ∀ a ∈ acts, a.Causes.length ≤ 20) : ∀ k, (txt nmR (codeN l) (reaN acts) (cauN acts) k).length ≤ k * 1000
  | 0 => Nat.le_refl _
  | k + 1 => by
    have ih := txt_le hl acts hc k
    have hk : (cauN acts k).length ≤ 20 := by
      unfold cauN
      cases h : acts[k]? with
      | none => simp
      | some a => exact hc a (List.mem_of_getElem? h)
    have hj := jn_le hl (cauN acts k) hk (cauN acts k).length
    have hn := nmR_le (reaN acts k).toNat
    have hll : (lineB nmR (codeN l) (reaN acts k) (cauN acts k)).length ≤ 1000 := by
      unfold lineB
      unfold jn at hj
      rw [List.take_length] at hj
      rw [ba_len] at hn
      simp only [List.length_append, List.length_cons, List.length_nil]
      omega
    unfold txt at ih ⊢
    rw [List.range_succ, List.flatMap_append, List.flatMap_singleton, List.length_append]
    omega
theorem nm_at {q : Nat} (h : q < 7) : ∃ x, rxs[q]? = some x ∧ x.Name = nmR q := by
  have hq : q < rxs.length := by rw [rxs_len]; exact h
  exact ⟨rxs[q], List.getElem?_eq_getElem hq, by unfold nmR; rw [List.getElem?_eq_getElem hq]; rfl⟩
/-- What the reference explains. -/
theorem ref_run (r : SRecord) (l : List SConfig) (h70 : r.Active.length ≤ 70) (h20 : ∀ a ∈ r.Active, a.Causes.length ≤ 20) (hl : ∀ f ∈ l, -9223372036854775808 ≤ f.Code ∧ f.Code ≤ 9223372036854775807) :
    (magnetoref56_Explain r l).m = some (bif r.Active.all (fun a => okA l.length a.Reaction a.Causes) then (⟨(txt nmR (codeN l) (reaN r.Active) (cauN r.Active) r.Active.length).toArray⟩, true) else (ByteArray.mk #[], false)) := by
  have key : loopM (fun s => (magnetoref56_Explain_b1 r l rxs s).run) (ByteArray.mk #[], 0) = some (bif r.Active.all (fun a => okA l.length a.Reaction a.Causes) then .inl (⟨(txt nmR (codeN l) (reaN r.Active) (cauN r.Active) r.Active.length).toArray⟩, (r.Active.length : Int)) else .inr (ByteArray.mk #[], false)) := by
    refine loopM_allL (fun k : Nat => ((⟨(txt nmR (codeN l) (reaN r.Active) (cauN r.Active) k).toArray⟩ : ByteArray), (k : Int))) r.Active ?_ fun k a hk => ?_
    · simp only [magnetoref56_Explain_b1, M.run]
      rw [decide_eq_false (by omega)]
      rfl
    · have hkl := (List.getElem?_eq_some_iff.1 hk).1
      have hac := h20 a (List.mem_of_getElem? hk)
      have htl := txt_le hl r.Active h20 k
      obtain ⟨e1, e2⟩ := rea_at hk
      have hts : (⟨(txt nmR (codeN l) (reaN r.Active) (cauN r.Active) k).toArray⟩ : ByteArray).size = (txt nmR (codeN l) (reaN r.Active) (cauN r.Active) k).length := by
        show (txt nmR (codeN l) (reaN r.Active) (cauN r.Active) k).toArray.size = _; rw [List.size_toArray]
      simp only [magnetoref56_Explain_b1, M.run, L1.m, getI_nat, hk, Option.bind_some]
      rw [decide_eq_true (show (k : Int) < (r.Active.length : Int) by omega), rxs_len]
      simp only [cond_true]
      by_cases hr : 0 ≤ a.Reaction ∧ a.Reaction < 7
      · obtain ⟨q, hq⟩ : ∃ q : Nat, a.Reaction = (q : Int) := ⟨a.Reaction.toNat, by omega⟩
        obtain ⟨x, hx, hnm⟩ := nm_at (q := q) (by omega)
        have hn := nmR_le q
        rw [hq, decide_eq_false (show ¬ (q : Int) < 0 by omega), decide_eq_false (show ¬ (q : Int) ≥ ((7 : Nat) : Int) by omega)]
        simp only [Bool.or_false, cond_false, getI_nat, hx, Option.bind_some, hnm]
        rw [cat_ok (by rw [hts]; omega)]
        simp only [Option.bind_some]
        rw [cat_ok (by rw [ByteArray.size_append, hts]; show _ + 2 ≤ _; omega)]
        simp only [Option.bind_some]
        rw [inner_run hl a hac _ (by rw [ByteArray.size_append, ByteArray.size_append, hts]; show _ + 2 ≤ _; omega)]
        have hokA : okA l.length (q : Int) a.Causes = a.Causes.all (okC l.length) := by
          unfold okA
          rw [decide_eq_true (show (0 : Int) ≤ q by omega), decide_eq_true (show (q : Int) < 7 by omega)]
          rfl
        rw [hokA]
        cases a.Causes.all (okC l.length)
        · rfl
        · simp only [cond_true, Option.bind_some]
          have hj := jn_le hl a.Causes hac a.Causes.length
          rw [cat_ok (by
            rw [ByteArray.size_append, ByteArray.size_append, ByteArray.size_append, hts]
            show _ + 2 + (jn l a.Causes a.Causes.length).toArray.size + 1 ≤ _
            rw [List.size_toArray]; omega), w64_of (by omega) (by omega)]
          simp only [Option.bind_some]
          refine congrArg some (congrArg Sum.inl (Prod.ext (ba_ext ?_) rfl))
          have ht : txt nmR (codeN l) (reaN r.Active) (cauN r.Active) (k + 1) = txt nmR (codeN l) (reaN r.Active) (cauN r.Active) k ++ lineB nmR (codeN l) a.Reaction a.Causes := by
            unfold txt
            rw [List.range_succ, List.flatMap_append, List.flatMap_singleton, e1, e2]
          show _ = txt nmR (codeN l) (reaN r.Active) (cauN r.Active) (k + 1)
          rw [ht]
          unfold lineB jn
          rw [hq, List.take_length]
          simp [ByteArray.data_append]
      · have hokA : okA l.length a.Reaction a.Causes = false := by
          unfold okA
          by_cases h0 : 0 ≤ a.Reaction
          · rw [decide_eq_false (show ¬ a.Reaction < 7 by omega)]; simp
          · rw [decide_eq_false h0]; rfl
        rw [hokA]
        have : (decide (a.Reaction < 0) || decide (a.Reaction ≥ ((7 : Nat) : Int))) = true := by
          by_cases h0 : a.Reaction < 0
          · rw [decide_eq_true h0]; rfl
          · rw [decide_eq_true (show a.Reaction ≥ ((7 : Nat) : Int) by omega), Bool.or_true]
        rw [this]
        rfl
  simp only [magnetoref56_Explain, C.of, M.run, rref_run, Option.bind_some, key]
  cases r.Active.all (fun a => okA l.length a.Reaction a.Causes) <;> rfl
theorem aw : (magnetolaw56_awake).m = some true := (magnetolaw56_awake).le 1000 _ (by kernel_rfl)
theorem any_sActive (l : List SActive) (hl : l.length ≤ 1000000) (f : Cl Tryz.prog SActive Bool (fun x => [A_SActive x]) (fun r => .t (tB r))) (p : SActive → Bool) (h : ∀ x ∈ l, f.f x = some (p x)) : (slices_ContainsFunc_sActive l f).m = some (l.any p) := by
  simp only [slices_ContainsFunc_sActive, slices_IndexFunc_sActive, slices_IndexFunc_sActive_b1, C.of, M.run, L1.m, Cl.at]
  refine Eq.trans ?_ (index_anyL l (by omega) f.f p h)
  kernel_rfl
noncomputable def cfs : List SConfig := ((ecu_Configs).e 100).getD []
theorem cfs_run : (ecu_Configs).m = some cfs := (ecu_Configs).le 100 _ (by kernel_rfl)
theorem cfs_len : ((cfs.length : Int) != 7) = false := by kernel_rfl
theorem cfs_ok : (magnetoref46_Configs cfs).m = some 0 := (magnetoref46_Configs cfs).le 200 _ (by kernel_rfl)
theorem cfs_any : (slices_ContainsFunc_sConfig cfs (.of (fun z_ => magnetolaw56_EcuExplains_2 z_) 15 [] (fun _ => rfl) (fun _ => rfl) (fun _ => rfl))).m = some false := (slices_ContainsFunc_sConfig cfs _).le 100 _ (by kernel_rfl)
theorem tab_ok : ∃ t, (ecu_Tables).m = some t ∧ (control_Valid t).m = some true := by
  have e : ((ecu_Tables).e 100).isSome = true := by kernel_rfl
  obtain ⟨t, ht⟩ := Option.isSome_iff_exists.1 e
  have k : (((ecu_Tables).e 100).bind fun t => (control_Valid t).e 1000) = some true := by kernel_rfl
  rw [ht] at k
  exact ⟨t, (ecu_Tables).le 100 _ ht, (control_Valid t).le 1000 _ k⟩
theorem body_ok : ∃ t, (ecu_Body).m = some t ∧ (plant_Valid t).m = some true := by
  have e : ((ecu_Body).e 100).isSome = true := by kernel_rfl
  obtain ⟨t, ht⟩ := Option.isSome_iff_exists.1 e
  have k : (((ecu_Body).e 100).bind fun t => (plant_Valid t).e 1000) = some true := by kernel_rfl
  rw [ht] at k
  exact ⟨t, (ecu_Body).le 100 _ ht, (plant_Valid t).le 1000 _ k⟩
theorem rxs_eq : (slices_EqualFunc_sReaction rxs rxs (.of (fun z_ => magnetolaw56_EcuExplains_3 z_.1 z_.2) 21 [] (fun _ => rfl) (fun _ => rfl) (fun _ => rfl))).m = some true := (slices_EqualFunc_sReaction rxs rxs _).le 200 _ (by kernel_rfl)
/-- Explain answers as the reference. -/
theorem explains_run (r : SRecord) (l : List SConfig) (hl : ∀ f ∈ l, -9223372036854775808 ≤ f.Code ∧ f.Code ≤ 9223372036854775807) : (magnetolaw56_EcuExplains r l).m = some true := by
  simp only [magnetolaw56_EcuExplains, C.of, M.run, aw, Option.bind_some, Bool.not_true, Bool.false_or]
  cases hb : (decide ((r.Active.length : Int) > 70) || decide ((l.length : Int) > 70))
  · simp only [Bool.or_eq_false_iff, decide_eq_false_iff_not] at hb
    have h70 : r.Active.length ≤ 70 := by omega
    simp only [cond_false]
    rw [any_sActive r.Active (by omega) _ (fun a => decide ((a.Causes.length : Int) > 20)) (fun x _ => rfl)]
    simp only [Option.bind_some]
    cases ha : r.Active.any (fun a => decide ((a.Causes.length : Int) > 20))
    · have h20 : ∀ a ∈ r.Active, a.Causes.length ≤ 20 := fun a h => by
        rw [List.any_eq_false] at ha
        have := ha a h
        simp only [decide_eq_true_eq] at this
        omega
      obtain ⟨t, t1, t2⟩ := tab_ok
      obtain ⟨b, b1, b2⟩ := body_ok
      have hx : (ecu_Explain r l).m = some (exV nmR (codeN l) (reaN r.Active) (cauN r.Active) l.length r.Active.length) := by
        show exM r l = _
        unfold exM
        rw [if_pos ⟨h70, h20, hl⟩]
      simp only [cond_false, hx, ref_run r l h70 h20 hl, Option.bind_some, rxs_run, rref_run, cfs_run, cfs_len, cfs_ok, cfs_any, t1, t2, b1, b2, Bool.not_true, bne_self_eq_false]
      unfold exV
      rw [all_range]
      cases r.Active.all (fun a => okA l.length a.Reaction a.Causes)
      · simp only [cond_false, cond_true, Bool.not_false, Option.bind_some, L1.m, beq_self_eq_true, rxs_eq]
        rfl
      · simp only [cond_false, cond_true, Bool.not_true, Option.bind_some, L1.m, beq_self_eq_true, rxs_eq]
        rfl
    · rfl
  · rfl
end Go.Proofs.YtjhedhnghldjbaaGreatDoor.Ec
namespace Go.Proofs.YtjhedhnghldjbaaGreatDoor
open Go Go.Pv Go.Proofs
theorem plain_EcuExplains (x0 : SRecord) (x1 : List SConfig) (_ : wf_SRecord x0) (g1 : (wfL wf_SConfig) x1) : (magnetolaw56_EcuExplains x0 x1).m = some true :=
  Ec.explains_run x0 x1 fun f hf => by
    have h := (g1.2 f hf).Code
    have m0 : IntKind.i64.min = -9223372036854775808 := by decide
    have m1 : IntKind.i64.max = 9223372036854775807 := by decide
    simp [Lit.wf, m0, m1] at h
    omega
end Go.Proofs.YtjhedhnghldjbaaGreatDoor
set_option linter.unusedVariables false
namespace Go.Proofs.YtjhedhnghldjbaaGreatDoor
open Go Go.Pv Go.Proofs Go.RowKit Go.ChangeShapes Go.WideShapes Go.ChangeAt
set_option maxRecDepth 100000
abbrev laid3 : List (String × DataW Unit) := [("math/bits.deBruijn32tab", Rows.laid_math_bits_deBruijn32tab), ("math/bits.deBruijn64tab", Rows.laid_math_bits_deBruijn64tab), ("internal/strconv.uint64pow10", Rows.laid_internal_strconv_uint64pow10)]
theorem door_met (os : Os) (args : Array Value) : laidMetH Tryz.prog laid3 ((World.doorLaid Tryz.prog 400 os).forCall (fun _ _ => 0) ⟨#[], args, []⟩).memory :=
  laidMetH_of_parts3 (fuel := 8) (laidMet_of_run' 8 (by kernel_rfl) (by kernel_rfl)) (by kernel_rfl) (by kernel_rfl)
theorem gl_of_laid {W : World} (h : laidMetH Tryz.prog laid3 W) : GlL Tryz.prog W (fun _ => False) := by
  rw [MakeChecks.laidMetH_plain _ _ _ (by kernel_rfl)] at h
  obtain ⟨ps, ⟨g0, t0, cs0, f0, p0, q0, hg0, ht0, hv0, hd0, ⟨g1, t1, cs1, f1, p1, q1, hg1, ht1, hv1, hd1, ⟨g2, t2, cs2, f2, p2, q2, hg2, ht2, hv2, hd2, _, _⟩, _⟩, _⟩, _, _⟩ := h
  intro b hb
  have hgn : Tryz.prog.globalNamed glN = some 1 := by kernel_rfl
  obtain rfl : (1 : Nat) = b := Option.some.inj (hgn.symm.trans hb)
  obtain rfl : (1 : Nat) = g2 := Option.some.inj (hgn.symm.trans hg2)
  have htn : (Tryz.prog.globals[1]?).map (·.type) = some 461 := by kernel_rfl
  obtain rfl : (461 : Nat) = t2 := Option.some.inj (htn.symm.trans ht2)
  have hlt : 1 < W.heap.size := by
    unfold World.var? at hv2
    rw [show Tryz.prog.globalNamed "internal/strconv.uint64pow10" = some 1 from hgn] at hv2
    simp only [Option.bind_some] at hv2
    by_cases h : 1 < W.heap.size
    · exact h
    · rw [Array.getElem?_eq_none (by omega)] at hv2
      simp at hv2
  refine ⟨fun x => x, hlt, ?_⟩
  have hc := Lib.cells_of_tab (zs := Lib.pow10Tab) (k := .u64) (n := 20) (e := 413) Tryz.underlying461 Tryz.underlying413 (by kernel_rfl) (by kernel_rfl) hd2
  unfold Lib.TabIs
  rw [show glN = "internal/strconv.uint64pow10" from rfl, hv2]
  obtain ⟨l⟩ := cs2
  simp only at hc
  rw [hc]
end Go.Proofs.YtjhedhnghldjbaaGreatDoor
set_option linter.unusedVariables false
namespace Go.Proofs.YtjhedhnghldjbaaGreatDoor.ecuExplains
open Go Go.Pv Go.Proofs Go.ChangeShapes Go.WideShapes Go.ChangeAt Go.RowKit Go.Proofs.YtjhedhnghldjbaaGreatDoor
theorem own : ownKnob Tryz.prog.godebug = none := by kernel_rfl
theorem laidOut : laidOutB Tryz.prog = true := by kernel_rfl
set_option maxRecDepth 100000 in
theorem lifted (os : Os) (started : os.Started) (H : Type) (enc : TypeId × Value → H) :
    ReturnsInHanded {} Tryz.checked os 3 .any (fun w args => (Rows.ecuExplainsSpec.pre enc Tryz.prog Tryz.f3 [] false w args ∧ laidMetH Tryz.prog laid3 w) ∧ sizedMet enc Tryz.prog Tryz.f3 (OpenSpec.ofChange Rows.ecuExplainsSpec) false w args)
      (Rows.ecuExplainsSpec.post enc Tryz.prog Tryz.f3 false true false false) := by
  refine returnsInHanded_of_change_and (C := Tryz.checked) (X := fun w _ => laidMetH Tryz.prog laid3 w) (fun _ _ _ hh h => h.of_heap hh) own started (by kernel_rfl) Tryz.func3
    (ChangeSpec.witness_shaped (enc := enc) (C := Tryz.checked) (os := os) (X := fun w _ => laidMetH Tryz.prog laid3 w) false (World.doorLaid Tryz.prog 400 os) #[.agg #[.int .i64 0, .int .i64 0, .int .i64 0, .int .i64 0, .slice none 0 0, .slice none 0 0, .bool false], .slice none 0 0] 16 rfl (World.shaped_of_RefB (by kernel_rfl) (by kernel_rfl)) (by kernel_rfl) (by kernel_rfl) (by kernel_rfl) (door_met os _)) ?_
  intro W base args ds gs before hval0 hW hcnd _ hL _
  have hval : ∀ (j : Nat) t v, Tryz.f3.params[j]? = some t → args[j]? = some v → Value.okWide Tryz.prog W .any base t v := hval0
  have hW' := hW
  obtain ⟨p, q, hA0, hV, rfl, hfz, hnd⟩ := hW
  have hA : DataW.TrodAll enc Tryz.prog W 0 (fun _ => true) true Tryz.f3.params.toList args.toList ds p := hA0
  rw [Tryz.params3] at hA hval
  obtain ⟨v0, vs0, d0, ds0, p0, q0, hargs, rfl, rfl, h0, r0⟩ := trodAll_cons hA
  obtain ⟨v1, vs1, d1, ds1, p1, q1, rfl, rfl, rfl, h1, r1⟩ := trodAll_cons r0
  obtain ⟨rfl, rfl, rfl⟩ := trodAll_nil r1
  obtain rfl : args = #[v0, v1] := by cases args; simp_all
  obtain ⟨rfl, rfl⟩ := trodVars_none hV
  have k0 := h0
  have lt0 : ∀ x ∈ p0, x.block < W.heap.size := by obtain ⟨m, hm⟩ := k0; exact DataW.trod_lt m _ _ _ hm
  obtain ⟨x0, g0, a0⟩ := arg_25 _ _ W _ _ _ _ (hval 0 25 v0 rfl rfl) h0
  have k1 := h1
  have lt1 : ∀ x ∈ p1, x.block < W.heap.size := by obtain ⟨m, hm⟩ := k1; exact DataW.trod_lt m _ _ _ hm
  obtain ⟨x1, g1, a1⟩ := arg_26 _ _ W _ _ _ _ (hval 1 26 v1 rfl rfl) h1
  clear hA0 hval0
  refine (TieF.calls ((magnetolaw56_EcuExplains x0 x1).ok) (plain_EcuExplains x0 x1 g0 g1) (rvl_cons (a0 _) (rvl_cons (a1 _) rvl_nil)) (gl_of_laid hL)).mono fun e W' ⟨he, bel⟩ => ?_
  subst he
  exact ⟨_, rfl, _, _, _, [], _, [], hW', trodAll_mk1 (shut_bool Tryz.underlying4 _), (trodAll_cons_mk (Below.trod laidOut (by kernel_rfl) (of_decide_eq_true (by kernel_rfl)) k0 bel lt0) (trodAll_cons_mk (Below.trod laidOut (by kernel_rfl) (of_decide_eq_true (by kernel_rfl)) k1 bel lt1) trodAll_mk0)), rfl, bel.frame _, fun h => by cases h⟩
end Go.Proofs.YtjhedhnghldjbaaGreatDoor.ecuExplains
namespace Go.Proofs.YtjhedhnghldjbaaGreatDoor
set_option maxRecDepth 100000
theorem ecuExplains.inPlace : Tryz.prog.inPlace 3 = Rows.ecuExplainsRow.inPlace := by kernel_rfl
theorem ecuExplains.unfollowed : Tryz.prog.unfollowed 3 = Rows.ecuExplainsRow.unfollowed := by kernel_rfl
theorem ecuExplains.recurses : Tryz.prog.recurses 3 = Rows.ecuExplainsRow.recurses := by kernel_rfl
theorem ecuExplains.named : Tryz.prog.varsNamed 3 = Rows.ecuExplainsRow.named := by kernel_rfl
theorem ecuExplains.joined : joinedFacts Tryz.prog 3 Tryz.f3 Rows.ecuExplainsSpec Rows.ecuExplainsRow = true := by
  unfold joinedFacts
  rw [ecuExplains.inPlace, ecuExplains.unfollowed, ecuExplains.recurses, ecuExplains.named, ecuExplains.laidOut]
  kernel_rfl
theorem ecuExplains_holds : Rows.EcuExplainsSaid :=
  OpenClaim.holds_of_wide 3 Tryz.f3 rfl rfl rfl rfl rfl rfl rfl ⟨rfl, rfl, rfl, rfl, rfl⟩ rfl rfl rfl rfl rfl (by kernel_rfl) Tryz.func3 ecuExplains.joined
    (of_decide_eq_true (by kernel_rfl)) (by unfold Func.isWrapper; first | (rw [if_pos (by decide +kernel)]; kernel_rfl) | (rw [if_neg (by decide +kernel)]; exact ⟨rfl, rfl⟩))
    (fun os started H enc _ => ecuExplains.lifted os started H enc)
#print axioms ecuExplains_holds
end Go.Proofs.YtjhedhnghldjbaaGreatDoor
namespace Go.Proofs.YtjhedhnghldjbaaGreatDoor
open Go Go.Proofs
set_option maxRecDepth 100000
theorem goes0 : Tryz.prog.funcs.any Func.goes = false := by kernel_rfl
theorem goes1 (g : Nat) : (Tryz.prog.funcs[g]?).any Func.goes = false := by
  cases h : Tryz.prog.funcs[g]? with
  | none => rfl
  | some fn =>
    have := Array.any_eq_false.1 goes0
    obtain ⟨hg, hf⟩ := Array.getElem?_eq_some_iff.1 h
    have := this g hg
    rw [hf] at this
    simpa using this
theorem goes_at (s : String) (f : Nat) (hf : Tryz.prog.funcNamed s = some f) : Tryz.prog.goesAt .entering s = false := by
  unfold Program.goesAt Program.goesFrom
  rw [hf]
  simp only [Option.any_some, Bool.or_false]
  unfold Program.goes
  rw [goes0, Bool.and_false, Bool.or_false]
  rw [List.any_eq_false]
  intro g _
  rw [goes1 g]
  simp
end Go.Proofs.YtjhedhnghldjbaaGreatDoor
namespace Go.Proofs.YtjhedhnghldjbaaGreatDoor
open Go
set_option maxRecDepth 100000
theorem ecuExplainsCard_holds : Rows.EcuExplainsCardSaid :=
  Claim7.holds_tied_plain_at .later [] [.data, .data, .data] true (true, "4e142df824e10561aebcc6baf8ea7fc659197786861958a9deeb91bde1b806d6") false
    ecuExplains_holds (fun _ h => by cases h) (by kernel_rfl) (fun _ h => by cases h) ecuExplains_row_tie rfl ⟨rfl, rfl⟩ (by kernel_rfl) rfl
    (fun f fn hf hfn => by
      obtain rfl : f = 3 := Option.some.inj ((show Tryz.prog.funcNamed "magneto/magnetolaw56.EcuExplains" = some 3 by kernel_rfl).symm.trans hf) |>.symm
      obtain rfl : fn = Tryz.f3 := (Option.some.inj (Tryz.func3.symm.trans hfn)).symm
      exact ⟨by kernel_rfl, fun j t ht => by
        rw [Tryz.params3] at ht
        have hm : t ∈ [25, 26] := by simpa using Array.mem_of_getElem? ht
        have hall : ([25, 26].all fun u => !Tryz.prog.wantsStandIn u) = true := by kernel_rfl
        exact (show Tryz.prog.wantsStandIn t = false by simpa using List.all_eq_true.1 hall t hm)⟩)
    (goes_at _ 3 (by kernel_rfl)).symm
#print axioms ecuExplainsCard_holds
end Go.Proofs.YtjhedhnghldjbaaGreatDoor
